/- strings.IndexRune of a rune beyond ASCII in blank, tab, line's end: none. No condition. -/
import Derived.Test.YtlfjchlkooemdaaDoorShelfC
import Derived.Lib.QuoteLoop
import Derived.Test.YtlfjchlkooemdaaDoorDrawn2
import Derived.WalkMore
namespace Go.Proofs.YtlfjchlkooemdaaDoor
open Go.RowKit Go.Shelf

theorem enc_y (c : Nat) : 128 ≤ (UInt8.ofNat (128 + c % 64)).toNat := by rw [UInt8.toNat_ofNat']; omega
theorem enc2 (r : Int) (h0 : 128 ≤ r) (h1 : r < 2048) : ∃ x y : UInt8, Utf8.encode r = ⟨#[x, y]⟩ ∧ 128 ≤ y.toNat := by
  refine ⟨UInt8.ofNat (192 + r.toNat / 64), UInt8.ofNat (128 + r.toNat % 64), ?_, enc_y _⟩
  unfold Utf8.encode
  have hv : Utf8.valid r = true := by unfold Utf8.valid; simp; omega
  simp only [hv, if_true]
  rw [if_neg (by omega), if_pos (by omega)]
theorem enc3 (r : Int) (h0 : 2048 ≤ r) (h1 : r < 65536) (hv : Utf8.valid r = true) : ∃ x z y : UInt8, Utf8.encode r = ⟨#[x, z, y]⟩ ∧ 128 ≤ y.toNat := by
  refine ⟨UInt8.ofNat (224 + r.toNat / 4096), UInt8.ofNat (128 + r.toNat / 64 % 64), UInt8.ofNat (128 + r.toNat % 64), ?_, enc_y _⟩
  unfold Utf8.encode
  simp only [hv, if_true]
  rw [if_neg (by omega), if_neg (by omega), if_pos (by omega)]
theorem enc4 (r : Int) (h0 : 65536 ≤ r) (hv : Utf8.valid r = true) : ∃ x u z y : UInt8, Utf8.encode r = ⟨#[x, u, z, y]⟩ ∧ 128 ≤ y.toNat := by
  refine ⟨UInt8.ofNat (240 + r.toNat / 262144), UInt8.ofNat (128 + r.toNat / 4096 % 64), UInt8.ofNat (128 + r.toNat / 64 % 64), UInt8.ofNat (128 + r.toNat % 64), ?_, enc_y _⟩
  unfold Utf8.encode
  simp only [hv, if_true]
  rw [if_neg (by omega), if_neg (by omega), if_neg (by omega)]
theorem ix_none (y : UInt8) (hy : 128 ≤ y.toNat) : Lib.indexByte [32, 9, 10] y = -1 ∧ Lib.indexByte [9, 10] y = -1 ∧ Lib.indexByte [10] y = -1 ∧ Lib.indexByte [] y = -1 := by
  have h1 : ¬ (32 : UInt8) = y := by rintro rfl; revert hy; decide
  have h2 : ¬ (9 : UInt8) = y := by rintro rfl; revert hy; decide
  have h3 : ¬ (10 : UInt8) = y := by rintro rfl; revert hy; decide
  refine ⟨?_, ?_, ?_, ?_⟩
  all_goals (simp [Lib.indexByte, h1, h2, h3])

set_option maxRecDepth 100000 in
set_option maxHeartbeats 4000000 in
theorem indexRune_two (r : Int) (w : World) (h0 : 128 ≤ r) (h1 : r < 2048) :
    Calls Tryd.prog 32 #[.string ⟨#[32, 9, 10]⟩, .int .i32 r] w fun e w' => e = .returned (.int .i64 (-1)) ∧ Below w.heap.size w w' := by
  obtain ⟨x, y, he, hy⟩ := enc2 r h0 h1
  have hval : Lib.validRune r = true := by simp [Lib.validRune]; omega
  have hne : (r == 65533) = false := by rw [beq_eq_false_iff_ne]; omega
  have hlo : ¬ r < 128 := by omega
  obtain ⟨i0, i1, i2, i3⟩ := ix_none y hy
  have hyb : ((y.toNat : Int)).toNat.toUInt8 = y := by simp
  go_enter Tryd.func32, Tryd.ntmps32
  go_wp2_with (go_at_call 42; refine (Tryd.utf8_ValidRune _ _).mono ?_; rintro e w' ⟨rfl, hw⟩; rw [hw, hval])
  go_step3
  go_wp2_with fail
  go_loopw [9, 10] (fun vi vf wr => vi = .int .i64 1 ∧ vf = .int .i64 0 ∧ wr = w) (fun _ _ _ => 0)
  case atStart => exact ⟨rfl, rfl, rfl⟩
  case round =>
    obtain ⟨rfl, rfl, rfl⟩ := hrel
    have hyne0 : ((9 : Int) != (y.toNat : Int)) = true := by rw [bne_iff_ne]; omega
    have hyne : ((((⟨#[32, 9, 10]⟩ : ByteArray)[1]'(by decide)).toNat : Int) != (((⟨#[x, y]⟩ : ByteArray)[1]'(by show 1 < 2; omega)).toNat : Int)) = true := hyne0
    clear hyne0
    go_wp2_with fail
    go_step3
    go_wp2_with fail
    refine wp_region_z (fun w' => True) [0, 1, 2, 3, 4, 5, 6] [] (by kernel_rfl) (by kernel_rfl) (by kernel_rfl) (by rfl) (fun _ _ _ _ e h => ⟨e.symm.trans h.1, h.2⟩) trivial ?_
    iterate 7
      refine Heads.step (v := ?_) rfl (by first | (go_simp; done) | rfl) (fun W hW => ?_) ?_
      rotate_left
      · (go_simp; try with_reducible rfl)
    refine AnyZ.done (by kernel_rfl) ?_
    go_simp
    have hb : Below wr.heap.size wr wr.drew := (Below.refl _ _).drew
    generalize wr.drew = w2 at *
    have ew : IntKind.i64.wrap 2 = 2 := by rw [IntKind.wrap_i64]; omega
    go_wp2_with fail
    refine wp_region_z (fun w' => True) [0, 1, 2, 3, 4, 5, 6] [] (by kernel_rfl) (by kernel_rfl) (by kernel_rfl) (by rfl) (fun _ _ _ _ e h => ⟨e.symm.trans h.1, h.2⟩) trivial ?_
    iterate 7
      refine Heads.step (v := ?_) rfl (by first | (go_simp; done) | rfl) (fun W hW => ?_) ?_
      rotate_left
      · (go_simp; try with_reducible rfl)
    refine AnyZ.one (i := 7) (by kernel_rfl) rfl (fun K hK => ?_)
    go_simp
    refine (Tryd.strings_IndexByte _ _ _).mono ?_
    rintro e w3 ⟨rfl, hw3⟩
    rw [hw3]
    have hix : Lib.indexByte ((⟨#[32, 9, 10]⟩ : ByteArray).extract 2 3).data.toList (((((⟨#[x, y]⟩ : ByteArray)[1]'(by show 1 < 2; omega)).toNat : Int)).toNat.toUInt8) = -1 := by
      rw [show ((⟨#[32, 9, 10]⟩ : ByteArray).extract 2 3).data.toList = [10] by decide]
      rw [show ((((⟨#[x, y]⟩ : ByteArray)[1]'(by show 1 < 2; omega)).toNat : Int)).toNat.toUInt8 = y from (by show ((y.toNat : Int)).toNat.toUInt8 = y; simp)]
      exact i2
    rw [hix]
    dsimp only
    clear hix hw3
    refine hK _ _ (fun _ => trivial) ?_
    clear hK
    refine AnyZ.mid [8] [] 0 rfl (by kernel_rfl) (by kernel_rfl) (by kernel_rfl) (fun _ _ _ _ e h => ⟨e.symm.trans h.1, h.2⟩) trivial ?_
    iterate 1
      refine Heads.step (v := ?_) rfl (by first | (go_simp; done) | rfl) (fun W hW => ?_) ?_
      rotate_left
      · (go_simp; try with_reducible rfl)
    refine AnyZ.done (by kernel_rfl) ?_
    go_simp
    go_wp2_with fail
    simp only [Exit.noGoto_ret, Exit.inBlock]
    change Exit.then _ _ Exit.ret _ _
    simp only [Exit.then, Exit.noGoto_ret, Exit.inBlock]
    go_ret
    exact ⟨rfl, hb.drew⟩
set_option maxRecDepth 100000 in
set_option maxHeartbeats 4000000 in
theorem indexRune_three (r : Int) (w : World) (h0 : 2048 ≤ r) (h1 : r < 65536) (hv : Utf8.valid r = true) (hr : r ≠ 65533) :
    Calls Tryd.prog 32 #[.string ⟨#[32, 9, 10]⟩, .int .i32 r] w fun e w' => e = .returned (.int .i64 (-1)) ∧ Below w.heap.size w w' := by
  obtain ⟨x, z, y, he, hy⟩ := enc3 r h0 h1 hv
  have hval : Lib.validRune r = true := by have h := hv; unfold Utf8.valid at h; simp at h; simp [Lib.validRune]; omega
  have hne : (r == 65533) = false := by rw [beq_eq_false_iff_ne]; omega
  have hlo : ¬ r < 128 := by omega
  obtain ⟨i0, i1, i2, i3⟩ := ix_none y hy
  have hyb : ((y.toNat : Int)).toNat.toUInt8 = y := by simp
  go_enter Tryd.func32, Tryd.ntmps32
  go_wp2_with (go_at_call 42; refine (Tryd.utf8_ValidRune _ _).mono ?_; rintro e w' ⟨rfl, hw⟩; rw [hw, hval])
  go_step3
  go_wp2_with fail
  go_loopw [9, 10] (fun vi vf wr => vi = .int .i64 2 ∧ vf = .int .i64 0 ∧ wr = w) (fun _ _ _ => 0)
  case atStart => exact ⟨rfl, rfl, rfl⟩
  case round =>
    obtain ⟨rfl, rfl, rfl⟩ := hrel
    have hyne0 : ((10 : Int) != (y.toNat : Int)) = true := by rw [bne_iff_ne]; omega
    have hyne : ((((⟨#[32, 9, 10]⟩ : ByteArray)[2]'(by decide)).toNat : Int) != (((⟨#[x, z, y]⟩ : ByteArray)[2]'(by show 2 < 3; omega)).toNat : Int)) = true := hyne0
    clear hyne0
    go_wp2_with fail
    go_step3
    go_wp2_with fail
    refine wp_region_z (fun w' => True) [0, 1, 2, 3, 4, 5, 6] [] (by kernel_rfl) (by kernel_rfl) (by kernel_rfl) (by rfl) (fun _ _ _ _ e h => ⟨e.symm.trans h.1, h.2⟩) trivial ?_
    iterate 7
      refine Heads.step (v := ?_) rfl (by first | (go_simp; done) | rfl) (fun W hW => ?_) ?_
      rotate_left
      · (go_simp; try with_reducible rfl)
    refine AnyZ.done (by kernel_rfl) ?_
    go_simp
    have hb : Below wr.heap.size wr wr.drew := (Below.refl _ _).drew
    generalize wr.drew = w2 at *
    have ew : IntKind.i64.wrap 3 = 3 := by rw [IntKind.wrap_i64]; omega
    go_wp2_with fail
    refine wp_region_z (fun w' => True) [0, 1, 2, 3, 4, 5, 6] [] (by kernel_rfl) (by kernel_rfl) (by kernel_rfl) (by rfl) (fun _ _ _ _ e h => ⟨e.symm.trans h.1, h.2⟩) trivial ?_
    iterate 7
      refine Heads.step (v := ?_) rfl (by first | (go_simp; done) | rfl) (fun W hW => ?_) ?_
      rotate_left
      · (go_simp; try with_reducible rfl)
    refine AnyZ.one (i := 7) (by kernel_rfl) rfl (fun K hK => ?_)
    go_simp
    refine (Tryd.strings_IndexByte _ _ _).mono ?_
    rintro e w3 ⟨rfl, hw3⟩
    rw [hw3]
    have hix : Lib.indexByte ByteArray.empty.data.toList (((((⟨#[x, z, y]⟩ : ByteArray)[2]'(by show 2 < 3; omega)).toNat : Int)).toNat.toUInt8) = -1 := by
      rw [show ByteArray.empty.data.toList = ([] : List UInt8) from rfl]
      rw [show ((((⟨#[x, z, y]⟩ : ByteArray)[2]'(by show 2 < 3; omega)).toNat : Int)).toNat.toUInt8 = y from (by show ((y.toNat : Int)).toNat.toUInt8 = y; simp)]
      exact i3
    rw [hix]
    dsimp only
    clear hix hw3
    refine hK _ _ (fun _ => trivial) ?_
    clear hK
    refine AnyZ.mid [8] [] 0 rfl (by kernel_rfl) (by kernel_rfl) (by kernel_rfl) (fun _ _ _ _ e h => ⟨e.symm.trans h.1, h.2⟩) trivial ?_
    iterate 1
      refine Heads.step (v := ?_) rfl (by first | (go_simp; done) | rfl) (fun W hW => ?_) ?_
      rotate_left
      · (go_simp; try with_reducible rfl)
    refine AnyZ.done (by kernel_rfl) ?_
    go_simp
    go_wp2_with fail
    simp only [Exit.noGoto_ret, Exit.inBlock]
    change Exit.then _ _ Exit.ret _ _
    simp only [Exit.then, Exit.noGoto_ret, Exit.inBlock]
    go_ret
    exact ⟨rfl, hb.drew⟩
set_option maxRecDepth 100000 in
set_option maxHeartbeats 4000000 in
theorem indexRune_four (r : Int) (w : World) (h0 : 65536 ≤ r) (hv : Utf8.valid r = true) :
    Calls Tryd.prog 32 #[.string ⟨#[32, 9, 10]⟩, .int .i32 r] w fun e w' => e = .returned (.int .i64 (-1)) ∧ Below w.heap.size w w' := by
  obtain ⟨x, u, z, y, he, hy⟩ := enc4 r h0 hv
  have hval : Lib.validRune r = true := by have h := hv; unfold Utf8.valid at h; simp at h; simp [Lib.validRune]; omega
  have hne : (r == 65533) = false := by rw [beq_eq_false_iff_ne]; omega
  have hlo : ¬ r < 128 := by omega
  obtain ⟨i0, i1, i2, i3⟩ := ix_none y hy
  have hyb : ((y.toNat : Int)).toNat.toUInt8 = y := by simp
  go_enter Tryd.func32, Tryd.ntmps32
  go_wp2_with (go_at_call 42; refine (Tryd.utf8_ValidRune _ _).mono ?_; rintro e w' ⟨rfl, hw⟩; rw [hw, hval])
  go_step3
  go_wp2_with fail
  go_loopw [9, 10] (fun vi vf wr => vi = .int .i64 3 ∧ vf = .int .i64 0 ∧ wr = w) (fun _ _ _ => 0)
  case atStart => exact ⟨rfl, rfl, rfl⟩
  case round =>
    obtain ⟨rfl, rfl, rfl⟩ := hrel
    go_wp2_with fail
    simp only [Exit.noGoto_ret, Exit.inBlock]
    go_ret
    exact ⟨rfl, Below.refl _ _⟩
end Go.Proofs.YtlfjchlkooemdaaDoor
