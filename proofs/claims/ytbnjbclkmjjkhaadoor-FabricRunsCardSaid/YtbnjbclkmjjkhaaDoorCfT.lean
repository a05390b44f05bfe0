/- The law's own small configuration 'plain', walked: what it returns lies in new memory and is valid. No condition. -/
import Derived.Test.YtbnjbclkmjjkhaaDoorCfR
namespace Go.Proofs.YtbnjbclkmjjkhaaDoor
open Go.RowKit

def four (a b c d : Int) : Nat → Int
  | 0 => a
  | 1 => b
  | 2 => c
  | _ => d
def plainC (z : Nat) : Cf := { sh := fun _ => 1, nc := 1, rows := fun _ => 1, B := fun _ _ => 6, L := fun _ _ => four 2 3 0 0, nr := 1, RS := fun _ => 2, RI := fun _ => true, no := 1, O := fun _ => 2, AC := some ⟨z + 1, 0, none⟩, AR := some ⟨z + 2, 0, none⟩, AO := some ⟨z + 3, 0, none⟩, cC := 1, cR := 1, cO := 1, CA := fun _ => some ⟨z, 0, none⟩, cc := fun _ => 1 }
theorem plain_ok (z : Nat) : (plainC z).Ok := by
  refine ⟨⟨⟨(by decide : (0:Int) ≤ 1 ∧ (1:Int) ≤ 500), (by decide : (0:Int) ≤ 1 ∧ (1:Int) ≤ 500), (by decide : (0:Int) ≤ 1 ∧ (1:Int) ≤ 500), (by decide : (1:Int) ≤ 1 ∧ (1:Int) ≤ 500), (by decide : (1:Int) ≤ 1 ∧ (1:Int) ≤ 100)⟩, rfl, rfl, rfl, fun _ _ => rfl⟩, fun _ _ _ _ => by show (0 : Int) ≤ 6 ∧ (6 : Int) < 65536; omega, fun i hi _ _ j hj => ?_, fun k hk => ?_, fun k hk => ?_⟩
  · have hi' : i < 1 := hi
    obtain rfl : i = 0 := by omega
    show 0 ≤ four 2 3 0 0 j ∧ four 2 3 0 0 j < 4
    obtain rfl | rfl | rfl | rfl : j = 0 ∨ j = 1 ∨ j = 2 ∨ j = 3 := by omega
    all_goals simp [four]
  · show (0 : Int) ≤ 2 ∧ (2 : Int) < 3
    omega
  · show (0 : Int) ≤ 2 ∧ (2 : Int) < 3
    omega
theorem plain_fits (z : Nat) : (plainC z).Fits := ⟨by show 1 ≤ _; omega, fun _ _ => by show 1 ≤ _; omega, by show 1 ≤ _; omega, by show 1 ≤ _; omega, fun _ _ => by show _ ≤ (1 : Int) ∧ (1 : Int) ≤ _; omega⟩

/-- what 'plain' hands back -/
def MadeC (w : World) (e : Ending) (w' : World) : Prop := ∃ z, e = .returned (.agg (plainC z).cells.toArray) ∧ (plainC z).At w' ∧ Below w.heap.size w w'

set_option maxHeartbeats 1000000 in
theorem plain_any (w : World) : Calls Tryd.prog 7 #[] w (MadeC w) := by
  go_enter Tryd.func7, Tryd.ntmps7
  go_wp2
  refine bodyPost_ret (v := .agg (plainC (w.heap.size + 1 + 1)).cells.toArray) ?_ rfl ?_
  · simp [results, Tryd.results7, go_sem, plainC, Cf.cells]
  · refine ⟨_, rfl, ⟨?_, ?_, ?_, ?_⟩, ?_⟩
    · intro _
      refine ⟨_, _, rfl, fun k hk => ?_⟩
      have hk' : k < 1 := hk
      obtain rfl : k = 0 := by omega
      simp [go_sem, plainC]
    · intro i hi _
      have hi' : i < 1 := hi
      obtain rfl : i = 0 := by omega
      refine ⟨_, _, rfl, fun k hk j hj => ?_⟩
      have hk' : k < 1 := hk
      obtain rfl : k = 0 := by omega
      obtain rfl | rfl | rfl | rfl | rfl : j = 0 ∨ j = 1 ∨ j = 2 ∨ j = 3 ∨ j = 4 := by omega
      all_goals simp [go_sem, plainC, five, four]
    · intro _
      refine ⟨_, _, rfl, fun k hk j hj => ?_⟩
      have hk' : k < 1 := hk
      obtain rfl : k = 0 := by omega
      obtain rfl | rfl : j = 0 ∨ j = 1 := by omega
      all_goals simp [go_sem, plainC, two]
    · intro _
      refine ⟨_, _, rfl, fun k hk => ?_⟩
      have hk' : k < 1 := hk
      obtain rfl : k = 0 := by omega
      simp [go_sem, plainC]
    · repeat (first | exact Below.refl _ _ | refine Below.alloc ?_ (by simp; try omega) _ | refine Below.setCell ?_ (by simp; try omega) _)
end Go.Proofs.YtbnjbclkmjjkhaaDoor
