/- The law's own small netlist, walked: what it returns lies in new memory. No condition. -/
import Derived.Test.YtmbcfondglhiiaaNetDef
namespace Go.Proofs.Ytmbcfondglhiiaa
open Go.RowKit

def at3 {α : Type} (a b c : α) : Nat → α
  | 0 => a
  | 1 => b
  | _ => c
def smallN : Nl := { n0 := 1, In := fun _ => 4, nn := 3, K := at3 30 31 15, W := fun _ => 4, U := fun _ => 0, al := at3 0 0 2, a := fun _ j => (if j = 0 then 0 else 1), nr := 1, RW := fun _ => 4, RI := fun _ => 3, RN := fun _ => 2, nm := 0, MW := fun _ => 0, MS := fun _ => 0, nw := 0, WM := fun _ => 0, WN := fun _ => 0, WA := fun _ => 0, WD := fun _ => 0, no := 1, O := fun _ => 2 }
theorem small_fits : smallN.Fits := by
  refine ⟨by decide, by decide, by decide, by decide, by decide, by decide, fun k hk => ?_, fun k _ => ⟨Int.le_refl 0, (by decide : (0 : Int) ≤ 18446744073709551615)⟩, fun k hk => ?_, fun k _ => ⟨(by decide : (0 : Int) ≤ 3), (by decide : (3 : Int) ≤ 18446744073709551615)⟩⟩
  · have hk' : k < 3 := hk
    obtain rfl | rfl | rfl : k = 0 ∨ k = 1 ∨ k = 2 := by omega
    all_goals decide
  · have hk' : k < 3 := hk
    obtain rfl | rfl | rfl : k = 0 ∨ k = 1 ∨ k = 2 := by omega
    all_goals decide

set_option maxHeartbeats 2000000 in
theorem small_any (w : World) : Calls Try.prog 6 #[] w fun e w' => ∃ p : Pl, e = .returned (.agg #[.slice p.A0 1 p.c0, .slice p.A1 3 p.c1, .slice p.A2 1 p.c2, .slice p.A3 0 p.c3, .slice p.A4 0 p.c4, .slice p.A5 1 p.c5]) ∧ smallN.At w' p ∧ Below w.heap.size w w' := by
  go_enter Try.func6, Try.ntmps6
  go_wp2
  refine bodyPost_ret (v := .agg #[.slice (some ⟨w.heap.size + 1 + 1, 0, none⟩) 1 1, .slice (some ⟨w.heap.size + 1 + 1 + 1 + 1, 0, none⟩) 3 3, .slice (some ⟨w.heap.size + 1 + 1 + 1 + 1 + 1, 0, none⟩) 1 1, .slice none 0 0, .slice none 0 0, .slice (some ⟨w.heap.size + 1 + 1 + 1 + 1 + 1 + 1, 0, none⟩) 1 1]) ?_ rfl ?_
  · simp [results, Try.results6, go_sem]
  · refine ⟨⟨some ⟨w.heap.size + 1 + 1, 0, none⟩, some ⟨w.heap.size + 1 + 1 + 1 + 1, 0, none⟩, some ⟨w.heap.size + 1 + 1 + 1 + 1 + 1, 0, none⟩, none, none, some ⟨w.heap.size + 1 + 1 + 1 + 1 + 1 + 1, 0, none⟩, 1, 3, 1, 0, 0, 1, at3 none none (some ⟨w.heap.size + 1 + 1 + 1, 0, none⟩), at3 0 0 2⟩, rfl, ⟨?_, ⟨?_, ?_⟩, ?_, ?_, ?_, ?_⟩, ?_⟩
    · intro _
      refine ⟨_, _, rfl, fun k hk => ?_⟩
      have hk' : k < 1 := hk
      obtain rfl : k = 0 := by omega
      simp [go_sem, smallN]
    · intro _
      refine ⟨_, _, rfl, fun k hk j hj => ?_⟩
      have hk' : k < 3 := hk
      obtain rfl | rfl | rfl : k = 0 ∨ k = 1 ∨ k = 2 := by omega
      all_goals obtain rfl | rfl | rfl | rfl : j = 0 ∨ j = 1 ∨ j = 2 ∨ j = 3 := by omega
      all_goals simp [qu, at3, go_sem, smallN]
    · intro k hk
      have hk' : k < 3 := hk
      obtain rfl | rfl | rfl : k = 0 ∨ k = 1 ∨ k = 2 := by omega
      · intro h; exact absurd h (by decide)
      · intro h; exact absurd h (by decide)
      · intro _
        refine ⟨_, _, rfl, fun j hj => ?_⟩
        have hj' : j < 2 := hj
        obtain rfl | rfl : j = 0 ∨ j = 1 := by omega
        all_goals simp [go_sem, smallN]
    · intro _
      refine ⟨_, _, rfl, fun k hk j hj => ?_⟩
      have hk' : k < 1 := hk
      obtain rfl : k = 0 := by omega
      obtain rfl | rfl | rfl : j = 0 ∨ j = 1 ∨ j = 2 := by omega
      all_goals simp [qu, go_sem, smallN]
    · intro h; exact absurd h (by decide)
    · intro h; exact absurd h (by decide)
    · intro _
      refine ⟨_, _, rfl, fun k hk => ?_⟩
      have hk' : k < 1 := hk
      obtain rfl : k = 0 := by omega
      simp [go_sem, smallN]
    · exact (((((((Below.refl _ _).alloc (Nat.le_refl _) _).alloc (by simp <;> omega) _).alloc (by simp <;> omega) _).alloc (by simp <;> omega) _).alloc (by simp <;> omega) _).alloc (by simp <;> omega) _).alloc (by simp <;> omega) _
end Go.Proofs.Ytmbcfondglhiiaa
