/- Shapes and among how many a column chooses, in the program and in the reference, walked. Condition: the numbers are of 64 bits. -/
import Derived.Test.YtbnjbclkmjjkhaaDoorCf
namespace Go.Proofs.YtbnjbclkmjjkhaaDoor
open Go.RowKit

def shV (s : Nat → Int) : Value := .agg #[.int .i64 (s 0), .int .i64 (s 1), .int .i64 (s 2), .int .i64 (s 3), .int .i64 (s 4)]

set_option maxHeartbeats 1000000 in
theorem refSources_any (s : Nat → Int) (col : Int) (w : World) (h : ShOk s) :
    Calls Tryd.prog 15 #[.agg #[.int .i64 (s 0), .int .i64 (s 1), .int .i64 (s 2), .int .i64 (s 3), .int .i64 (s 4)], .int .i64 col] w fun e w' => e = .returned (.int .i64 (if col = 0 then 2 + s 0 + s 2 else 2 + s 3)) ∧ Below w.heap.size w w' := by
  have h0 := h.s0; have h1 := h.s1; have h2 := h.s2; have h3 := h.s3; have h4 := h.s4
  by_cases hc : col = 0
  · subst hc
    go_enter Tryd.func15, Tryd.ntmps15
    go_wp2
    go_ret
    exact ⟨ret_int (by simp), (Below.refl _ _).alloc (Nat.le_refl _) _⟩
  · have hb : (col == 0) = false := by simpa using hc
    go_enter Tryd.func15, Tryd.ntmps15
    go_wp2
    go_ret
    exact ⟨ret_int (by simp), (Below.refl _ _).alloc (Nat.le_refl _) _⟩

set_option maxHeartbeats 1000000 in
theorem sources_any (s : Nat → Int) (col : Int) (w : World) (h : ShOk s) :
    Calls Tryd.prog 39 #[.agg #[.int .i64 (s 0), .int .i64 (s 1), .int .i64 (s 2), .int .i64 (s 3), .int .i64 (s 4)], .int .i64 col] w fun e w' => e = .returned (.int .i64 (if col = 0 then 2 + s 0 + s 2 else 2 + s 3)) ∧ Below w.heap.size w w' := by
  have h0 := h.s0; have h1 := h.s1; have h2 := h.s2; have h3 := h.s3; have h4 := h.s4
  by_cases hc : col = 0
  · subst hc
    go_enter Tryd.func39, Tryd.ntmps39
    go_wp2
    go_ret
    exact ⟨ret_int (by simp), (Below.refl _ _).alloc (Nat.le_refl _) _⟩
  · have hb : (col == 0) = false := by simpa using hc
    go_enter Tryd.func39, Tryd.ntmps39
    go_wp2
    go_ret
    exact ⟨ret_int (by simp), (Below.refl _ _).alloc (Nat.le_refl _) _⟩

set_option maxHeartbeats 2000000 in
theorem refShape_any (s : Nat → Int) (w : World) :
    Calls Tryd.prog 29 #[.agg #[.int .i64 (s 0), .int .i64 (s 1), .int .i64 (s 2), .int .i64 (s 3), .int .i64 (s 4)]] w fun e w' => e = .returned (.bool (tf (ShOk s))) ∧ Below w.heap.size w w' := by
  have HN := Lib.hid (fun h : ¬ ShOk s => tf_no h)
  have HY := Lib.hid (fun h : ShOk s => tf_yes h)
  go_enter Tryd.func29, Tryd.ntmps29
  go_wp2
  all_goals go_ret
  all_goals refine ⟨ret_bool ?_, (Below.refl _ _).alloc (Nat.le_refl _) _⟩
  all_goals first
    | exact (HN.out (fun h => by have := h.s0; have := h.s1; have := h.s2; have := h.s3; have := h.s4; omega)).symm
    | (rw [HY.out ⟨by omega, by omega, by omega, by omega, by omega⟩])
    | (by_cases h5 : s 4 ≤ 100
       · rw [HY.out ⟨by omega, by omega, by omega, by omega, by omega⟩]; simpa using h5
       · rw [HN.out (fun h => h5 h.s4.2)]; simpa using h5)

set_option maxHeartbeats 1000000 in
theorem within_any (a b : Int) (A : Option Addr) (n c : Nat) (X : Nat → Int) (w : World) (h : Row1 w A n (fun k => .int .i64 (X k))) (hn : n ≤ 1000000) :
    Calls Tryd.prog 36 #[.int .i64 a, .int .i64 b, .slice A n c] w fun e w' => e = .returned (.bool (tf (∀ k, k < n → a ≤ X k ∧ X k ≤ b))) ∧ w' = w := by
  have HR := Lib.hid h; clear h
  go_enter Tryd.func36, Tryd.ntmps36
  go_wp2
  go_loop [11] (fun i => ∃ k : Nat, k ≤ n ∧ i = .int .i64 k ∧ Hid (∀ j, j < k → a ≤ X j ∧ X j ≤ b)) (fun i => n - (intOf i).toNat)
  case atStart => exact ⟨0, by omega, rfl, Lib.hid (fun j hj => by omega)⟩
  case round =>
    obtain ⟨k, hk, rfl, HK⟩ := hrel
    by_cases hlt : k < n
    · obtain ⟨bb, oo, rfl, x0⟩ := HR.out.at_ hlt
      have HNO := Lib.hid (fun hx : ¬ (a ≤ X k ∧ X k ≤ b) => tf_no (p := ∀ k, k < n → a ≤ X k ∧ X k ≤ b) (fun h => hx (h k hlt)))
      have HYE := Lib.hid (fun hx : a ≤ X k ∧ X k ≤ b => (fun j (hj : j < k + 1) => if e : j = k then e ▸ hx else HK.out j (by omega) : ∀ j, j < k + 1 → a ≤ X j ∧ X j ≤ b))
      generalize X k = x at *
      by_cases h1 : x < a
      · have HF := Lib.hid (HNO.out (by omega))
        go_wp2
        go_ret
        exact ⟨ret_bool HF.out.symm, rfl⟩
      · by_cases h2 : b < x
        · have HF := Lib.hid (HNO.out (by omega))
          go_wp2
          go_ret
          exact ⟨ret_bool HF.out.symm, rfl⟩
        · have HF := Lib.hid (HYE.out (by omega))
          go_wp2
          go_round
          case rel => exact ⟨k + 1, by omega, by go_num, HF⟩
          case measure => simp [intOf]; omega
    · obtain rfl : k = n := by omega
      have HT := Lib.hid (tf_yes HK.out)
      go_wp2
      go_ret
      exact ⟨ret_bool HT.out.symm, rfl⟩
end Go.Proofs.YtbnjbclkmjjkhaaDoor
