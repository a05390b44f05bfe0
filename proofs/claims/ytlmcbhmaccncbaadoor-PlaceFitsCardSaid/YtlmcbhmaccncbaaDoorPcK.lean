/- placer.sel, walked: a signal's selector behind a column, off the book. -/
import Derived.Test.YtlmcbhmaccncbaaDoorPcM
namespace Go.Proofs.YtlmcbhmaccncbaaDoor
open Go.RowKit

theorem look_at {w : World} {b n : Nat} {V : Nat → Nat → Int} (h : Book w b n V) {c x : Nat} (hc : c ≤ 1000) (hx : x ≤ 70368744177664) :
    (Instr.lookup 54 (.map (some b)) (.agg #[.int .i64 (c : Int), .int .i64 (x : Int)]) false).run Tryd.prog w = .ok (.int .i64 (V c x)) w := h.look hc hx w rfl

set_option maxRecDepth 100000 in
set_option maxHeartbeats 4000000 in
theorem sel_any (g : Tb) (a : Ta) (s : Nat → Int) (fst : Int) (dp lp : Value) (P bm n : Nat) (V : Nat → Nat → Int) (w : World) (hX : w.heap[P]? = some (plO g a s fst dp lp bm)) (hB : Book w bm n V) (c x : Nat) (hc : c ≤ 1000) (hx : x ≤ 70368744177664) :
    Calls Tryd.prog 19 #[.pointer (some ⟨P, 0, none⟩), .int .i64 (c : Int), .int .i64 (x : Int)] w fun e w' =>
      e = .returned (.int .i64 (if x < 2 then (x : Int) else V c x)) ∧ w' = w := by
  obtain ⟨_, _, _, _, _, x13⟩ := pl_cell hX
  have hl := look_at hB hc hx
  clear hX hB
  by_cases h2 : x < 2
  · rw [if_pos h2]
    have hq : ((x : Int) < 2) := by omega
    go_enter Tryd.func19, Tryd.ntmps19
    go_wp2_with fail
    go_ret
    exact ⟨rfl, rfl⟩
  · rw [if_neg h2]
    have hq : ¬ ((x : Int) < 2) := by omega
    go_enter Tryd.func19, Tryd.ntmps19
    go_wp2_with fail
    go_ret
    exact ⟨rfl, rfl⟩
end Go.Proofs.YtlmcbhmaccncbaaDoor
