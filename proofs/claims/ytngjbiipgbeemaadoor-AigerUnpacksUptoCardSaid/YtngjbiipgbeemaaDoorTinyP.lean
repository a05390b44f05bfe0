/- The law's own small graph 'tiny', walked: what it returns lies in new memory and is valid. No condition. -/
import Derived.Test.YtngjbiipgbeemaaDoorValidV
namespace Go.Proofs.YtngjbiipgbeemaaDoor
open Go.RowKit

def at3 {α : Type} (a b c : α) : Nat → α
  | 0 => a
  | 1 => b
  | _ => c

def tinyG : G := { ins := 2, n1 := 1, n2 := 3, n3 := 2, L := fun _ => 8, I := fun _ => true, X := at3 4 6 9, Y := at3 2 3 9, O := at3 9 12 12 }

theorem tiny_valid : tinyG.Valid := by
  refine ⟨by decide, by decide, by decide, by decide, by decide, ?_, ?_, ?_⟩
  · intro j hj
    have hj' : j < 3 := hj
    unfold G.AndOk
    obtain rfl | rfl | rfl : j = 0 ∨ j = 1 ∨ j = 2 := by omega
    all_goals decide
  · intro j hj
    have hj' : j < 1 := hj
    unfold G.LitOk
    obtain rfl : j = 0 := by omega
    decide
  · intro j hj
    have hj' : j < 2 := hj
    unfold G.LitOk
    obtain rfl | rfl : j = 0 ∨ j = 1 := by omega
    all_goals decide

theorem tiny_fits : tinyG.Fits := ⟨by decide, by decide, by decide, by decide⟩

/-- a graph handed back in new memory -/
def MadeG (g : G) (w : World) (e : Ending) (w' : World) : Prop :=
  ∃ (A1 A2 A3 : Option Addr) (c1 c2 c3 : Nat), e = .returned (.agg #[.int .i64 g.ins, .slice A1 g.n1 c1, .slice A2 g.n2 c2, .slice A3 g.n3 c3]) ∧ g.At w' A1 A2 A3 ∧ Below w.heap.size w w'

set_option maxHeartbeats 400000 in
theorem tiny_any (w : World) : Calls Tryd.prog 7 #[] w (MadeG tinyG w) := by
  go_enter Tryd.func7, Tryd.ntmps7
  go_wp2
  refine bodyPost_ret (v := .agg #[.int .i64 2, .slice (some ⟨w.heap.size + 1 + 1, 0, none⟩) 1 1, .slice (some ⟨w.heap.size + 1 + 1 + 1, 0, none⟩) 3 3, .slice (some ⟨w.heap.size + 1 + 1 + 1 + 1, 0, none⟩) 2 2]) ?_ rfl ?_
  · simp [results, Tryd.results7, go_sem]
  · refine ⟨_, _, _, _, _, _, rfl, ⟨?_, ?_, ?_⟩, ?_⟩
    · intro _
      refine ⟨_, _, rfl, fun k hk j hj => ?_⟩
      have hk' : k < 1 := hk
      obtain rfl : k = 0 := by omega
      obtain rfl | rfl : j = 0 ∨ j = 1 := by omega
      all_goals simp [two, go_sem, tinyG]
    · intro _
      refine ⟨_, _, rfl, fun k hk j hj => ?_⟩
      have hk' : k < 3 := hk
      obtain rfl | rfl | rfl : k = 0 ∨ k = 1 ∨ k = 2 := by omega
      all_goals obtain rfl | rfl : j = 0 ∨ j = 1 := by omega
      all_goals simp [two, at3, go_sem, tinyG]
    · intro _
      refine ⟨_, _, rfl, fun k hk => ?_⟩
      have hk' : k < 2 := hk
      obtain rfl | rfl : k = 0 ∨ k = 1 := by omega
      all_goals simp [at3, go_sem, tinyG]
    · repeat (first | exact Below.refl _ _ | refine Below.alloc ?_ (by simp; try omega) _ | refine Below.setCell ?_ (by simp; try omega) _)
end Go.Proofs.YtngjbiipgbeemaaDoor
