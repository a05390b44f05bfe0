/- stream.shapeOk, walked. No condition. -/
import Derived.Test.YtbnjbclkmjjkhaaDoorCfV
import Derived.Deep.DeepCutAuto
namespace Go.Proofs.YtbnjbclkmjjkhaaDoor
open Go.RowKit

set_option maxHeartbeats 2000000 in
theorem shapeOk_any (s : Nat → Int) (w : World) :
    Calls Tryd.prog 24 #[.agg #[.int .i64 (s 0), .int .i64 (s 1), .int .i64 (s 2), .int .i64 (s 3), .int .i64 (s 4)]] w fun e w' => e = .returned (.bool (tf (ShOk s))) ∧ Below w.heap.size w w' := by
  have HS := Lib.hid (fun (h1 : ∀ k, k < 3 → 0 ≤ s k ∧ s k ≤ 500) (h2 : ∀ k, k < 1 → 1 ≤ s 3 ∧ s 3 ≤ 500) (h3 : ∀ k, k < 1 → 1 ≤ s 4 ∧ s 4 ≤ 100) => tf_yes (⟨h1 0 (by omega), h1 1 (by omega), h1 2 (by omega), h2 0 (by omega), h3 0 (by omega)⟩ : ShOk s))
  have HN := Lib.hid (fun h : ¬ ShOk s => tf_no h)
  have hb0 : Below w.heap.size w (w.alloc (.cells #[.int .i64 (s 0), .int .i64 (s 1), .int .i64 (s 2), .int .i64 (s 3), .int .i64 (s 4)] 26)) := (Below.refl _ _).alloc (Nat.le_refl _) _
  have hq := BoxAt.new w [.int .i64 (s 0), .int .i64 (s 1), .int .i64 (s 2), .int .i64 (s 3), .int .i64 (s 4)] 26
  go_enter Tryd.func24, Tryd.ntmps24
  go_upto_region 2 with (fail)
  generalize w.alloc (.cells #[.int .i64 (s 0), .int .i64 (s 1), .int .i64 (s 2), .int .i64 (s 3), .int .i64 (s 4)] 26) = v at *
  have HB0 := Lib.hid hb0; clear hb0
  have q0 := hq 0 _ rfl; have q1 := hq 1 _ rfl; have q2 := hq 2 _ rfl; have q3 := hq 3 _ rfl; have q4 := hq 4 _ rfl
  have hz := HB0.out.size
  go_wp2_with fail
  have hr1 : Row1 (v.alloc (.cells #[.int .i64 (s 0), .int .i64 (s 1), .int .i64 (s 2)] 3)) (some ⟨v.heap.size, 0, none⟩) 3 (fun k => .int .i64 (s k)) := fun _ => ⟨_, 0, rfl, fun k hk => by
    rw [World.cell?_alloc_new]
    obtain rfl | rfl | rfl : k = 0 ∨ k = 1 ∨ k = 2 := by omega
    all_goals rfl⟩
  have hk1 : Below v.heap.size v (v.alloc (.cells #[.int .i64 (s 0), .int .i64 (s 1), .int .i64 (s 2)] 3)) := (Below.refl _ _).alloc (Nat.le_refl _) _
  generalize v.alloc (.cells #[.int .i64 (s 0), .int .i64 (s 1), .int .i64 (s 2)] 3) = v1 at *
  refine (within_any 0 500 _ 3 3 s v1 hr1 (by omega)).mono ?_
  rintro e w' ⟨rfl, rfl⟩
  have HB1 := Lib.hid (Below.then_call HB0.out hk1 HB0.out.size)
  replace hq := hq.keeps (Keeps.of_below hk1)
  clear q0 q1 q2 q3 q4 hr1 hk1 hz
  have q3 := hq 3 _ rfl; have q4 := hq 4 _ rfl
  by_cases h1 : ∀ k, k < 3 → 0 ≤ s k ∧ s k ≤ 500
  · rw [tf_yes h1]
    have H1 := Lib.hid h1; clear h1
    go_wp2_with fail
    have hr2 : Row1 (w'.alloc (.cells #[.int .i64 (s 3)] 3)) (some ⟨w'.heap.size, 0, none⟩) 1 (fun k => .int .i64 (s 3)) := fun _ => ⟨_, 0, rfl, fun k hk => by
      rw [World.cell?_alloc_new]
      obtain rfl : k = 0 := by omega
      rfl⟩
    have hk2 : Below w'.heap.size w' (w'.alloc (.cells #[.int .i64 (s 3)] 3)) := (Below.refl _ _).alloc (Nat.le_refl _) _
    generalize w'.alloc (.cells #[.int .i64 (s 3)] 3) = v2 at *
    refine (within_any 1 500 _ 1 1 (fun _ => s 3) v2 hr2 (by omega)).mono ?_
    rintro e w2 ⟨rfl, rfl⟩
    have HB2 := Lib.hid (Below.then_call HB1.out hk2 HB1.out.size)
    replace hq := hq.keeps (Keeps.of_below hk2)
    clear q3 q4 hr2 hk2
    have q4 := hq 4 _ rfl
    by_cases h2 : ∀ k, k < 1 → 1 ≤ s 3 ∧ s 3 ≤ 500
    · rw [tf_yes h2]
      have H2 := Lib.hid h2; clear h2
      go_wp2_with fail
      have hr3 : Row1 (w2.alloc (.cells #[.int .i64 (s 4)] 3)) (some ⟨w2.heap.size, 0, none⟩) 1 (fun k => .int .i64 (s 4)) := fun _ => ⟨_, 0, rfl, fun k hk => by
        rw [World.cell?_alloc_new]
        obtain rfl : k = 0 := by omega
        rfl⟩
      have hk3 : Below w2.heap.size w2 (w2.alloc (.cells #[.int .i64 (s 4)] 3)) := (Below.refl _ _).alloc (Nat.le_refl _) _
      generalize w2.alloc (.cells #[.int .i64 (s 4)] 3) = v3 at *
      refine (within_any 1 100 _ 1 1 (fun _ => s 4) v3 hr3 (by omega)).mono ?_
      rintro e w3 ⟨rfl, rfl⟩
      have HB3 := Lib.hid (Below.then_call HB2.out hk3 HB2.out.size)
      clear q4 hr3 hk3
      by_cases h3 : ∀ k, k < 1 → 1 ≤ s 4 ∧ s 4 ≤ 100
      · rw [tf_yes h3]
        have HE := Lib.hid (HS.out H1.out H2.out h3); clear h3
        go_wp2_with fail
        go_ret
        exact ⟨ret_bool HE.out.symm, HB3.out⟩
      · rw [tf_no h3]
        have HE := Lib.hid (HN.out (fun h => h3 (fun _ _ => h.s4))); clear h3
        go_wp2_with fail
        go_ret
        exact ⟨ret_bool HE.out.symm, HB3.out⟩
    · rw [tf_no h2]
      have HE := Lib.hid (HN.out (fun h => h2 (fun _ _ => h.s3))); clear h2
      go_wp2_with fail
      go_ret
      exact ⟨ret_bool HE.out.symm, HB2.out⟩
  · rw [tf_no h1]
    have HE := Lib.hid (HN.out (fun h => h1 (fun k hk => by
      obtain rfl | rfl | rfl : k = 0 ∨ k = 1 ∨ k = 2 := by omega
      · exact h.s0
      · exact h.s1
      · exact h.s2))); clear h1
    go_wp2_with fail
    go_ret
    exact ⟨ret_bool HE.out.symm, HB1.out⟩
end Go.Proofs.YtbnjbclkmjjkhaaDoor
