/- The law's own small net of tables 'pair', walked: what it returns lies in new memory and is valid. No condition. -/
import Derived.Test.YtlmcbhmaccncbaaDoorRunD
namespace Go.Proofs.YtlmcbhmaccncbaaDoor
open Go.RowKit

def at3 {α : Type} (a b c : α) : Nat → α
  | 0 => a
  | 1 => b
  | _ => c
theorem lit_mat (w : World) : Mat (((w.alloc (.cells #[.bool true, .bool true] 4)).alloc (.cells #[.bool false] 4)).alloc (.cells #[.slice (some ⟨w.heap.size, 0, none⟩) 2 2, .slice (some ⟨w.heap.size + 1, 0, none⟩) 1 1] 22))
    (some ⟨w.heap.size + 1 + 1, 0, none⟩) 2 (at3 2 1 1) (fun i _ => at3 true false false i) := by
  refine ⟨at3 (some ⟨w.heap.size, 0, none⟩) (some ⟨w.heap.size + 1, 0, none⟩) none, at3 2 1 1, fun _ => ⟨_, _, rfl, fun k hk => ?_⟩, fun i hi => ?_⟩
  · obtain rfl | rfl : k = 0 ∨ k = 1 := by omega
    · simp [at3, go_sem]
    · simp [at3, go_sem]
  · obtain rfl | rfl : i = 0 ∨ i = 1 := by omega
    · intro _
      refine ⟨_, _, rfl, fun k hk => Keeps.alloc _ _ _ _ (Keeps.alloc _ _ _ _ ?_)⟩
      have hk' : k < 2 := hk
      obtain rfl | rfl : k = 0 ∨ k = 1 := by omega
      · exact BoxAt.new w [.bool true, .bool true] _ 0 _ rfl
      · exact BoxAt.new w [.bool true, .bool true] _ 1 _ rfl
    · intro _
      refine ⟨_, _, rfl, fun k hk => Keeps.alloc _ _ _ _ ?_⟩
      have hk' : k < 1 := hk
      obtain rfl : k = 0 := by omega
      simp [at3, go_sem]

def pairW : Nat → Nat → Int
  | 0 => at3 2 3 4
  | _ => fun _ => 5
def pairT : Tb := { ins := 2, n1 := 1, I := fun _ => true, n2 := 2, tl := at3 3 1 1, tw := pairW, tb := at3 150 1 1, n3 := 1, N := fun _ => 5, n4 := 2, O := at3 6 1 1 }

theorem pair_valid : pairT.Valid := by
  refine ⟨by decide, by decide, by decide, rfl, ?_, ?_, ?_⟩
  · intro k hk
    have hk' : k < 2 := hk
    obtain rfl | rfl : k = 0 ∨ k = 1 := by omega
    · refine ⟨by decide, by decide, by decide +kernel, fun j hj => ?_⟩
      have hj' : j < 3 := hj
      obtain rfl | rfl | rfl : j = 0 ∨ j = 1 ∨ j = 2 := by omega
      all_goals decide
    · refine ⟨by decide, by decide, by decide +kernel, fun j hj => ?_⟩
      have hj' : j < 1 := hj
      obtain rfl : j = 0 := by omega
      decide
  · intro j hj
    have hj' : j < 1 := hj
    obtain rfl : j = 0 := by omega
    decide
  · intro j hj
    have hj' : j < 2 := hj
    obtain rfl | rfl : j = 0 ∨ j = 1 := by omega
    all_goals decide

theorem pair_fits : pairT.Fits := by
  refine ⟨by decide, by decide, by decide, by decide, fun k hk => ?_, by decide, fun k hk => ?_⟩
  all_goals
    have hk' : k < 2 := hk
    obtain rfl | rfl : k = 0 ∨ k = 1 := by omega
  all_goals decide

def MadeT (g : Tb) (w : World) (e : Ending) (w' : World) : Prop :=
  ∃ (A1 A2 A3 A4 : Option Addr) (c1 c2 c3 c4 : Nat), e = .returned (.agg #[.int .i64 g.ins, .slice A1 g.n1 c1, .slice A2 g.n2 c2, .slice A3 g.n3 c3, .slice A4 g.n4 c4]) ∧ g.At w' A1 A2 A3 A4 ∧ Below w.heap.size w w'

set_option maxHeartbeats 1000000 in
theorem pair_any (w : World) : Calls Tryd.prog 5 #[] w (MadeT pairT w) := by
  go_enter Tryd.func5, Tryd.ntmps5
  go_wp2
  refine bodyPost_ret (v := .agg #[.int .i64 2, .slice (some ⟨w.heap.size + 1 + 1, 0, none⟩) 1 1, .slice (some ⟨w.heap.size + 1 + 1 + 1 + 1 + 1, 0, none⟩) 2 2, .slice (some ⟨w.heap.size + 1 + 1 + 1 + 1 + 1 + 1, 0, none⟩) 1 1, .slice (some ⟨w.heap.size + 1 + 1 + 1 + 1 + 1 + 1 + 1, 0, none⟩) 2 2]) ?_ rfl ?_
  · simp [results, Tryd.results5, go_sem]
  · refine ⟨_, _, _, _, _, _, _, _, rfl, ⟨?_, ?_, ?_, ?_⟩, ?_⟩
    · intro _
      refine ⟨_, _, rfl, fun k hk => ?_⟩
      have hk' : k < 1 := hk
      obtain rfl : k = 0 := by omega
      simp [go_sem, pairT]
    · refine ⟨at3 (some ⟨w.heap.size + 1 + 1 + 1, 0, none⟩) (some ⟨w.heap.size + 1 + 1 + 1 + 1, 0, none⟩) none, at3 3 1 1, fun _ => ⟨_, _, rfl, fun k hk j hj => ?_⟩, fun k hk => ?_⟩
      · have hk' : k < 2 := hk
        obtain rfl | rfl : k = 0 ∨ k = 1 := by omega
        all_goals obtain rfl | rfl : j = 0 ∨ j = 1 := by omega
        all_goals simp [two, at3, go_sem, pairT]
      · have hk' : k < 2 := hk
        obtain rfl | rfl : k = 0 ∨ k = 1 := by omega
        · intro _
          refine ⟨_, _, rfl, fun j hj => ?_⟩
          have hj' : j < 3 := hj
          obtain rfl | rfl | rfl : j = 0 ∨ j = 1 ∨ j = 2 := by omega
          all_goals simp [at3, go_sem, pairT, pairW]
        · intro _
          refine ⟨_, _, rfl, fun j hj => ?_⟩
          have hj' : j < 1 := hj
          obtain rfl : j = 0 := by omega
          simp [go_sem, pairT, pairW]
    · intro _
      refine ⟨_, _, rfl, fun k hk => ?_⟩
      have hk' : k < 1 := hk
      obtain rfl : k = 0 := by omega
      simp [go_sem, pairT]
    · intro _
      refine ⟨_, _, rfl, fun k hk => ?_⟩
      have hk' : k < 2 := hk
      obtain rfl | rfl : k = 0 ∨ k = 1 := by omega
      all_goals simp [at3, go_sem, pairT]
    · repeat (first | exact Below.refl _ _ | refine Below.alloc ?_ (by simp; try omega) _ | refine Below.setCell ?_ (by simp; try omega) _)
end Go.Proofs.YtlmcbhmaccncbaaDoor
