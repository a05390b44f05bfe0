/- Shapes and among how many a column chooses, in the program and in the reference, walked. Condition: the numbers are of 64 bits. -/
import Derived.Test.YtlmcbhmaccncbaaDoorCf
namespace Go.Proofs.YtlmcbhmaccncbaaDoor
open Go.RowKit

def shV (s : Nat → Int) : Value := .agg #[.int .i64 (s 0), .int .i64 (s 1), .int .i64 (s 2), .int .i64 (s 3), .int .i64 (s 4)]

set_option maxHeartbeats 1000000 in
theorem refSources_any (s : Nat → Int) (col : Int) (w : World) (h : ShOk s) :
    Calls Tryd.prog 24 #[.agg #[.int .i64 (s 0), .int .i64 (s 1), .int .i64 (s 2), .int .i64 (s 3), .int .i64 (s 4)], .int .i64 col] w fun e w' => e = .returned (.int .i64 (if col = 0 then 2 + s 0 + s 2 else 2 + s 3)) ∧ Below w.heap.size w w' := by
  have h0 := h.s0; have h1 := h.s1; have h2 := h.s2; have h3 := h.s3; have h4 := h.s4
  by_cases hc : col = 0
  · subst hc
    go_enter Tryd.func24, Tryd.ntmps24
    go_wp2
    go_ret
    exact ⟨ret_int (by simp), (Below.refl _ _).alloc (Nat.le_refl _) _⟩
  · have hb : (col == 0) = false := by simpa using hc
    go_enter Tryd.func24, Tryd.ntmps24
    go_wp2
    go_ret
    exact ⟨ret_int (by simp), (Below.refl _ _).alloc (Nat.le_refl _) _⟩

set_option maxHeartbeats 2000000 in
theorem refShape_any (s : Nat → Int) (w : World) :
    Calls Tryd.prog 21 #[.agg #[.int .i64 (s 0), .int .i64 (s 1), .int .i64 (s 2), .int .i64 (s 3), .int .i64 (s 4)]] w fun e w' => e = .returned (.bool (tf (ShOk s))) ∧ Below w.heap.size w w' := by
  have HN := Lib.hid (fun h : ¬ ShOk s => tf_no h)
  have HY := Lib.hid (fun h : ShOk s => tf_yes h)
  go_enter Tryd.func21, Tryd.ntmps21
  go_wp2
  all_goals go_ret
  all_goals refine ⟨ret_bool ?_, (Below.refl _ _).alloc (Nat.le_refl _) _⟩
  all_goals first
    | exact (HN.out (fun h => by have := h.s0; have := h.s1; have := h.s2; have := h.s3; have := h.s4; omega)).symm
    | (rw [HY.out ⟨by omega, by omega, by omega, by omega, by omega⟩])
    | (by_cases h5 : s 4 ≤ 100
       · rw [HY.out ⟨by omega, by omega, by omega, by omega, by omega⟩]; simpa using h5
       · rw [HN.out (fun h => h5 h.s4.2)]; simpa using h5)
end Go.Proofs.YtlmcbhmaccncbaaDoor
