/- The reference's Decode, walked. Condition: the bytes lie in memory. -/
import Derived.Test.YtbnjbclkmjjkhaaDoorDrZ
import Derived.Deep.CutBlock
namespace Go.Proofs.YtbnjbclkmjjkhaaDoor
open Go.RowKit Go.Shelf Go.Deep

set_option maxRecDepth 100000 in
set_option maxHeartbeats 16000000 in
theorem refDecode_any (l : List UInt8) (A : Option Addr) (c : Nat) (w : World) (hm : Mem w A l) (hl : l.length ≤ 140737488355328) (hlc : l.length ≤ c) :
    Calls Tryd.prog 10 #[.slice A l.length c] w fun e w' =>
      ((GoodB l ∧ ∃ AC AR AO cC cR cO CA cc, ((dec (body l)).lay AC AR AO cC cR cO CA cc).At w' ∧ e = .returned (.tuple #[.agg #[.int .i64 (shD (body l) 0), .int .i64 (shD (body l) 1), .int .i64 (shD (body l) 2), .int .i64 (shD (body l) 3), .int .i64 (shD (body l) 4), .slice AC (dec (body l)).nc cC, .slice AR (dec (body l)).nr cR, .slice AO (dec (body l)).no cO], .agg #[.int .i64 0, .int .i64 0]])) ∨
       (¬ GoodB l ∧ e = .returned (.tuple #[cfgZero, .agg #[.int .i64 18, .int .i64 0]]))) ∧ Below w.heap.size w w' := by
  have HM := Lib.hid hm
  clear hm
  go_enter Tryd.func10, Tryd.ntmps10
  go_upto_region 2 with (fail)
  obtain ⟨hL, hB, hz⟩ := Lr.mk_ w
  have hm := HM.out.keeps (Keeps.of_below hB)
  generalize (((w.alloc (.cells #[.int .i64 0, .int .i64 0, .int .i64 0, .int .i64 0, .int .i64 0, .slice none 0 0, .slice none 0 0, .slice none 0 0] 31)).alloc (.cells #[.int .i64 0, .int .i64 0] 41)).alloc (.cells #[.int .i64 18, .int .i64 0] 41)) = v at *
  have HL := Lib.hid hL; have HB := Lib.hid hB; have HMV := Lib.hid hm; have HZ := Lib.hid hz
  have hzv : w.heap.size + 1 + 1 + 1 ≤ v.heap.size := by omega
  clear hL hB hm hz
  by_cases h18 : 18 ≤ l.length
  case neg =>
    have hd : decide ((l.length : Int) < 18) = true := decide_eq_true (by omega)
    have HG : Hid (¬ GoodB l) := Lib.hid (fun h => h18 h.len)
    clear h18
    obtain ⟨⟨f0, f1⟩, fz⟩ := cells2 HL.out.r2
    obtain ⟨⟨c0, c1, c2, c3, c4, c5, c6, c7⟩, hz⟩ := cells8 HL.out.r0
    go_wp2_with fail
    refine wp_region_z (fun w' => w'.cell? ⟨w.heap.size + 1 + 1, 0, none⟩ = some (.int .i64 18) ∧ w'.cell? ⟨w.heap.size + 1 + 1, 1, none⟩ = some (.int .i64 0)) [0, 1] [] (by kernel_rfl) (by kernel_rfl) (by kernel_rfl) (by rfl) (fun _ _ _ _ e h => ⟨e.symm.trans h.1, h.2⟩) ⟨f0, f1⟩ ?_
    iterate 2
      refine Heads.step (v := ?_) rfl (by first | (go_simp; done) | rfl) (fun W hW => ?_) ?_
      rotate_left
      · (obtain ⟨t0, t1⟩ := hW; go_simp; try with_reducible rfl)
    refine AnyZ.one (i := 2) (by kernel_rfl) rfl (fun K hK => ?_)
    go_simp
    rw [fold_zap]
    obtain ⟨hL5, hB5⟩ := bad_zap HL.out HB.out (Nat.le_refl _)
    clear c0 c1 c2 c3 c4 c5 c6 c7 hz f0 f1 fz
    generalize (zap v w.heap.size).drew = v5 at *
    obtain ⟨⟨f0, f1⟩, fz⟩ := cells2 hL5.r2
    refine hK _ _ (fun _ => ⟨f0, f1⟩) ?_
    clear hK
    obtain ⟨⟨d0, d1⟩, dz⟩ := cells2 hL5.r1
    refine AnyZ.one (i := 3) (by kernel_rfl) rfl (fun K hK => ?_)
    go_simp
    rw [fold2]
    obtain ⟨hL6, hB6⟩ := bad_set hL5 hB5 (Nat.le_refl _)
    clear d0 d1 dz f0 f1 fz
    generalize set2 v5 (w.heap.size + 1) (.int .i64 18) (.int .i64 0) = v6 at *
    refine hK _ _ (fun _ => ⟨hL6.f0, hL6.f1⟩) (AnyZ.done (by kernel_rfl) ?_)
    clear hK
    go_simp
    obtain ⟨⟨c0, c1, c2, c3, c4, c5, c6, c7⟩, hz⟩ := cells8 hL6.r0
    obtain ⟨⟨d0, d1⟩, dz⟩ := cells2 hL6.r1
    go_wp2_with fail
    exact ⟨rfl, _, outsR rfl rfl hL6.r0 hL6.r1, .inr ⟨HG.out, rfl⟩, hB6⟩
  have hd : decide ((l.length : Int) < 18) = false := decide_eq_false (by omega)
  obtain ⟨ba, oa, rfl, _⟩ := HMV.out.at_ (k := 0) (by omega)
  have hm4 := mem_take HMV.out 4
  have hcv := conv_mem 4 c (by simp; omega) hm4 (by simp; omega)
  have h4c : 4 ≤ c := by omega
  by_cases hmg : l.take 4 = [71, 87, 66, 49]
  case neg =>
    have HG : Hid (¬ GoodB l) := Lib.hid (fun h => hmg h.magic)
    have hsn : ((str (l.take 4)).toList == [71, 87, 66, 49]) = false := by rw [str_toList]; simpa using hmg
    clear hmg
    obtain ⟨⟨f0, f1⟩, fz⟩ := cells2 HL.out.r2
    obtain ⟨⟨c0, c1, c2, c3, c4, c5, c6, c7⟩, hz⟩ := cells8 HL.out.r0
    go_wp2_with fail
    refine wp_region_z (fun w' => w'.cell? ⟨w.heap.size + 1 + 1, 0, none⟩ = some (.int .i64 18) ∧ w'.cell? ⟨w.heap.size + 1 + 1, 1, none⟩ = some (.int .i64 0)) [0, 1] [] (by kernel_rfl) (by kernel_rfl) (by kernel_rfl) (by rfl) (fun _ _ _ _ e h => ⟨e.symm.trans h.1, h.2⟩) ⟨f0, f1⟩ ?_
    iterate 2
      refine Heads.step (v := ?_) rfl (by first | (go_simp; done) | rfl) (fun W hW => ?_) ?_
      rotate_left
      · (obtain ⟨t0, t1⟩ := hW; go_simp; try with_reducible rfl)
    refine AnyZ.one (i := 2) (by kernel_rfl) rfl (fun K hK => ?_)
    go_simp
    rw [fold_zap]
    obtain ⟨hL5, hB5⟩ := bad_zap HL.out HB.out (Nat.le_refl _)
    clear c0 c1 c2 c3 c4 c5 c6 c7 hz f0 f1 fz
    generalize (zap v w.heap.size).drew = v5 at *
    obtain ⟨⟨f0, f1⟩, fz⟩ := cells2 hL5.r2
    refine hK _ _ (fun _ => ⟨f0, f1⟩) ?_
    clear hK
    obtain ⟨⟨d0, d1⟩, dz⟩ := cells2 hL5.r1
    refine AnyZ.one (i := 3) (by kernel_rfl) rfl (fun K hK => ?_)
    go_simp
    rw [fold2]
    obtain ⟨hL6, hB6⟩ := bad_set hL5 hB5 (Nat.le_refl _)
    clear d0 d1 dz f0 f1 fz
    generalize set2 v5 (w.heap.size + 1) (.int .i64 18) (.int .i64 0) = v6 at *
    refine hK _ _ (fun _ => ⟨hL6.f0, hL6.f1⟩) (AnyZ.done (by kernel_rfl) ?_)
    clear hK
    go_simp
    obtain ⟨⟨c0, c1, c2, c3, c4, c5, c6, c7⟩, hz⟩ := cells8 hL6.r0
    obtain ⟨⟨d0, d1⟩, dz⟩ := cells2 hL6.r1
    go_wp2_with fail
    exact ⟨rfl, _, outsR rfl rfl hL6.r0 hL6.r1, .inr ⟨HG.out, rfl⟩, hB6⟩
  have HMG := Lib.hid hmg
  have hsn : ((str (l.take 4)).toList == [71, 87, 66, 49]) = true := by rw [str_toList, hmg]; rfl
  clear hmg
  have ew : IntKind.i64.wrap ((l.length : Int) - 4) = ((body l).length : Int) := by rw [body_len, IntKind.wrap_i64]; omega
  have hbc : (body l).length ≤ c := by rw [body_len]; omega
  go_wp2_with fail
  have HCR : Hid (be4 (crcF (body l)) = l.drop (l.length - 4) ↔ l = body l ++ be4 (crcF (body l))) := Lib.hid (crc_last (by omega))
  obtain ⟨T, hT⟩ : ∃ T, T = l.drop (l.length - 4) := ⟨_, rfl⟩
  rw [← hT] at HCR
  have hTl : T.length = 4 := by rw [hT]; simp; omega
  have hmT : ∀ W, Mem W (some ⟨ba, oa, none⟩) l → Mem W (some ⟨ba, oa + (body l).length, none⟩) T := fun W h => by rw [hT, body_len]; exact mem_drop h _
  have hct : (convert 22 9 (.slice (some ⟨ba, oa + (body l).length, none⟩) 4 (c - (body l).length))).run Tryd.prog v.drew = .ok (.string (str T)) v.drew := conv_mem (w := v.drew) 4 _ hTl.symm (hmT _ HMV.out) (by omega)
  have hl4 : l.length - (body l).length = 4 := by rw [body_len]; omega
  have hbl : (body l).length ≤ l.length := by rw [body_len]; omega
  have hcne : c ≠ (body l).length := by rw [body_len]; omega
  clear hT hsn hcv hm4
  refine wp_region_z (fun w' => (convert 22 9 (.slice (some ⟨ba, oa + (body l).length, none⟩) 4 (c - (body l).length))).run Tryd.prog w' = .ok (.string (str T)) w') [0, 3, 4, 5, 6, 7, 8] [] (by kernel_rfl) (by kernel_rfl) (by kernel_rfl) (by rfl) (fun _ _ _ _ e h => ⟨e.symm.trans h.1, h.2⟩) hct ?_
  iterate 7
    refine Heads.step (v := ?_) rfl (by first | (go_simp; done) | rfl) (fun W hW => ?_) ?_
    rotate_left
    · (have t0 := hW; go_simp; try with_reducible rfl)
  refine AnyZ.one (i := 1) (by kernel_rfl) rfl (fun K hK => ?_)
  go_simp
  refine (sums_any (body l) _ c v.drew (mem_body (HMV.out.keeps (Keeps.of_below (Below.refl _ v).drew))) (by omega)).mono ?_
  rintro e v1 ⟨rfl, ev1⟩
  have hb1 : Below v.heap.size v v1 := by rw [ev1]; exact ((Below.refl _ v).drew).alloc (Nat.le_refl _) _
  have hsz : v.heap.size < v1.heap.size := by rw [ev1]; simp
  have hms : Mem v1 (some ⟨v.heap.size, 0, none⟩) (be4 (crcF (body l))) := by rw [ev1]; exact Byt.mem (Byt.made 0 v.drew _ (Nat.zero_le _) (by simp [be4]))
  have hcs := conv_mem 4 4 (by simp [be4]) hms (by simp [be4])
  have hct := conv_mem 4 (c - (body l).length) hTl.symm (hmT _ (HMV.out.keeps (Keeps.of_below hb1))) (by omega)
  have HL1 := Lib.hid (HL.out.below hb1); have HB1 := Lib.hid (HB.out.trans (hb1.mono (by omega))); have HM1 := Lib.hid (HMV.out.keeps (Keeps.of_below hb1))
  clear ev1 hms hmT hb1 HL HB HMV
  refine hK _ _ (fun _ => hct) ?_
  clear hK
  refine AnyZ.one (i := 2) (by kernel_rfl) rfl (fun K hK => ?_)
  go_simp
  refine hK _ _ (fun _ => hct) ?_
  clear hK
  refine AnyZ.one (i := 9) (by kernel_rfl) rfl (fun K hK => ?_)
  go_simp
  refine hK _ _ (fun _ => hct) (AnyZ.done (by kernel_rfl) ?_)
  clear hK
  go_simp
  rw [str_toList, str_toList]
  by_cases hcr : be4 (crcF (body l)) = T
  case neg =>
    have hq : (be4 (crcF (body l)) == T) = false := by simpa using hcr
    have HG : Hid (¬ GoodB l) := Lib.hid (fun h => hcr (HCR.out.2 h.crc))
    simp only [hq, Bool.not_false]
    clear hcr hcs hct hq
    obtain ⟨⟨f0, f1⟩, fz⟩ := cells2 HL1.out.r2
    obtain ⟨⟨c0, c1, c2, c3, c4, c5, c6, c7⟩, hz⟩ := cells8 HL1.out.r0
    go_wp2_with fail
    refine wp_region_z (fun w' => w'.cell? ⟨w.heap.size + 1 + 1, 0, none⟩ = some (.int .i64 18) ∧ w'.cell? ⟨w.heap.size + 1 + 1, 1, none⟩ = some (.int .i64 0)) [0, 1] [] (by kernel_rfl) (by kernel_rfl) (by kernel_rfl) (by rfl) (fun _ _ _ _ e h => ⟨e.symm.trans h.1, h.2⟩) ⟨f0, f1⟩ ?_
    iterate 2
      refine Heads.step (v := ?_) rfl (by first | (go_simp; done) | rfl) (fun W hW => ?_) ?_
      rotate_left
      · (obtain ⟨t0, t1⟩ := hW; go_simp; try with_reducible rfl)
    refine AnyZ.one (i := 2) (by kernel_rfl) rfl (fun K hK => ?_)
    go_simp
    rw [fold_zap]
    obtain ⟨hL5, hB5⟩ := bad_zap HL1.out HB1.out (Nat.le_refl _)
    clear c0 c1 c2 c3 c4 c5 c6 c7 hz f0 f1 fz
    generalize (zap v1 w.heap.size).drew = v5 at *
    obtain ⟨⟨f0, f1⟩, fz⟩ := cells2 hL5.r2
    refine hK _ _ (fun _ => ⟨f0, f1⟩) ?_
    clear hK
    obtain ⟨⟨d0, d1⟩, dz⟩ := cells2 hL5.r1
    refine AnyZ.one (i := 3) (by kernel_rfl) rfl (fun K hK => ?_)
    go_simp
    rw [fold2]
    obtain ⟨hL6, hB6⟩ := bad_set hL5 hB5 (Nat.le_refl _)
    clear d0 d1 dz f0 f1 fz
    generalize set2 v5 (w.heap.size + 1) (.int .i64 18) (.int .i64 0) = v6 at *
    refine hK _ _ (fun _ => ⟨hL6.f0, hL6.f1⟩) (AnyZ.done (by kernel_rfl) ?_)
    clear hK
    go_simp
    obtain ⟨⟨c0, c1, c2, c3, c4, c5, c6, c7⟩, hz⟩ := cells8 hL6.r0
    obtain ⟨⟨d0, d1⟩, dz⟩ := cells2 hL6.r1
    go_wp2_with fail
    exact ⟨rfl, _, outsR rfl rfl hL6.r0 hL6.r1, .inr ⟨HG.out, rfl⟩, hB6⟩
  have hq : (be4 (crcF (body l)) == T) = true := by simpa using hcr
  have HCF := Lib.hid (HCR.out.1 hcr)
  simp only [hq, Bool.not_true]
  clear hcr hcs hct HCR hq
  go_wp2_with fail
  have hA1 : Hid (∀ b, blockOf (some (⟨ba, oa, none⟩ : Addr)) b → b < v1.heap.size) := Lib.hid (mem_block HM1.out (by omega))
  obtain ⟨hR, hbb⟩ := rdS0 (c := c) HL1.out (mem_body HM1.out) (by rw [body_len]; omega)
  have hz1 : w.heap.size + 1 + 1 < v1.heap.size := by omega
  have hB0 := HB1.out.trans (hbb.mono (by omega))
  generalize ((v1.alloc (.cells #[.slice (some ⟨ba, oa, none⟩) (body l).length c, .int .i64 0, .int .i64 32, .bool false] 48)).alloc (.cells #[.int .i64 0, .int .i64 0, .int .i64 0, .int .i64 0, .int .i64 0] 26)) = wk0 at *
  have hlb : (body l).length ≤ 140737488355328 := by rw [body_len]; omega
  have hnA : Hid (¬ blockOf (some (⟨ba, oa, none⟩ : Addr)) v1.heap.size) := Lib.hid (fun h => by have := hA1.out _ h; omega)
  have h14 : 14 ≤ (body l).length := by rw [body_len]; omega
  have HR0 := Lib.hid hR; have HB0 := Lib.hid hB0
  clear hR hbb hB0 HL1 HB1
  refine (refTake_any (body l) (some ⟨ba, oa, none⟩) c v1.heap.size (32 + 16 * 0) 16 wk0 HR0.out.rd hnA.out (by omega) (by omega)).mono ?_
  rintro e wt ⟨rfl, hT, hO⟩
  rw [rdN_yes (by omega)]
  obtain ⟨⟨u, hu⟩, hf, hN⟩ := HR0.out.next hz1 hA1.out hT hO (by omega)
  have hBn := (HB0.out.trans (hO.below (B := w.heap.size) (fun i _ hi => by omega) HB0.out.size)).setCell (p := ⟨v1.heap.size + 1, 0, none⟩) (by show w.heap.size ≤ v1.heap.size + 1; omega) (.int .i64 (tkv (body l) (32 + 16 * 0) 16))
  clear hT hO
  go_wp2_with fail
  have HR1 := Lib.hid hN; have HB1 := Lib.hid hBn
  clear hu hf hN hBn HR0 HB0
  generalize wt.setCell ⟨v1.heap.size + 1, 0, none⟩ (.int .i64 (tkv (body l) (32 + 16 * 0) 16)) = wk1 at *
  refine (refTake_any (body l) (some ⟨ba, oa, none⟩) c v1.heap.size (32 + 16 * 1) 16 wk1 HR1.out.rd hnA.out (by omega) (by omega)).mono ?_
  rintro e wt ⟨rfl, hT, hO⟩
  rw [rdN_yes (by omega)]
  obtain ⟨⟨u, hu⟩, hf, hN⟩ := HR1.out.next hz1 hA1.out hT hO (by omega)
  have hBn := (HB1.out.trans (hO.below (B := w.heap.size) (fun i _ hi => by omega) HB1.out.size)).setCell (p := ⟨v1.heap.size + 1, 1, none⟩) (by show w.heap.size ≤ v1.heap.size + 1; omega) (.int .i64 (tkv (body l) (32 + 16 * 1) 16))
  clear hT hO
  go_wp2_with fail
  have HR2 := Lib.hid hN; have HB2 := Lib.hid hBn
  clear hu hf hN hBn HR1 HB1
  generalize wt.setCell ⟨v1.heap.size + 1, 1, none⟩ (.int .i64 (tkv (body l) (32 + 16 * 1) 16)) = wk2 at *
  refine (refTake_any (body l) (some ⟨ba, oa, none⟩) c v1.heap.size (32 + 16 * 2) 16 wk2 HR2.out.rd hnA.out (by omega) (by omega)).mono ?_
  rintro e wt ⟨rfl, hT, hO⟩
  rw [rdN_yes (by omega)]
  obtain ⟨⟨u, hu⟩, hf, hN⟩ := HR2.out.next hz1 hA1.out hT hO (by omega)
  have hBn := (HB2.out.trans (hO.below (B := w.heap.size) (fun i _ hi => by omega) HB2.out.size)).setCell (p := ⟨v1.heap.size + 1, 2, none⟩) (by show w.heap.size ≤ v1.heap.size + 1; omega) (.int .i64 (tkv (body l) (32 + 16 * 2) 16))
  clear hT hO
  go_wp2_with fail
  have HR3 := Lib.hid hN; have HB3 := Lib.hid hBn
  clear hu hf hN hBn HR2 HB2
  generalize wt.setCell ⟨v1.heap.size + 1, 2, none⟩ (.int .i64 (tkv (body l) (32 + 16 * 2) 16)) = wk3 at *
  refine (refTake_any (body l) (some ⟨ba, oa, none⟩) c v1.heap.size (32 + 16 * 3) 16 wk3 HR3.out.rd hnA.out (by omega) (by omega)).mono ?_
  rintro e wt ⟨rfl, hT, hO⟩
  rw [rdN_yes (by omega)]
  obtain ⟨⟨u, hu⟩, hf, hN⟩ := HR3.out.next hz1 hA1.out hT hO (by omega)
  have hBn := (HB3.out.trans (hO.below (B := w.heap.size) (fun i _ hi => by omega) HB3.out.size)).setCell (p := ⟨v1.heap.size + 1, 3, none⟩) (by show w.heap.size ≤ v1.heap.size + 1; omega) (.int .i64 (tkv (body l) (32 + 16 * 3) 16))
  clear hT hO
  go_wp2_with fail
  have HR4 := Lib.hid hN; have HB4 := Lib.hid hBn
  clear hu hf hN hBn HR3 HB3
  generalize wt.setCell ⟨v1.heap.size + 1, 3, none⟩ (.int .i64 (tkv (body l) (32 + 16 * 3) 16)) = wk4 at *
  refine (refTake_any (body l) (some ⟨ba, oa, none⟩) c v1.heap.size (32 + 16 * 4) 16 wk4 HR4.out.rd hnA.out (by omega) (by omega)).mono ?_
  rintro e wt ⟨rfl, hT, hO⟩
  rw [rdN_yes (by omega)]
  obtain ⟨⟨u, hu⟩, hf, hN⟩ := HR4.out.next hz1 hA1.out hT hO (by omega)
  have hBn := (HB4.out.trans (hO.below (B := w.heap.size) (fun i _ hi => by omega) HB4.out.size)).setCell (p := ⟨v1.heap.size + 1, 4, none⟩) (by show w.heap.size ≤ v1.heap.size + 1; omega) (.int .i64 (tkv (body l) (32 + 16 * 4) 16))
  clear hT hO
  have s0 : (wt.setCell ⟨v1.heap.size + 1, 4, none⟩ (.int .i64 (tkv (body l) (32 + 16 * 4) 16))).cell? ⟨v1.heap.size + 1, 0, none⟩ = some (.int .i64 (shD (body l) 0)) := hN.sh.cell (by omega)
  have s1 : (wt.setCell ⟨v1.heap.size + 1, 4, none⟩ (.int .i64 (tkv (body l) (32 + 16 * 4) 16))).cell? ⟨v1.heap.size + 1, 1, none⟩ = some (.int .i64 (shD (body l) 1)) := hN.sh.cell (by omega)
  have s2 : (wt.setCell ⟨v1.heap.size + 1, 4, none⟩ (.int .i64 (tkv (body l) (32 + 16 * 4) 16))).cell? ⟨v1.heap.size + 1, 2, none⟩ = some (.int .i64 (shD (body l) 2)) := hN.sh.cell (by omega)
  have s3 : (wt.setCell ⟨v1.heap.size + 1, 4, none⟩ (.int .i64 (tkv (body l) (32 + 16 * 4) 16))).cell? ⟨v1.heap.size + 1, 3, none⟩ = some (.int .i64 (shD (body l) 3)) := hN.sh.cell (by omega)
  have s4 : (wt.setCell ⟨v1.heap.size + 1, 4, none⟩ (.int .i64 (tkv (body l) (32 + 16 * 4) 16))).cell? ⟨v1.heap.size + 1, 4, none⟩ = some (.int .i64 (shD (body l) 4)) := hN.sh.cell (by omega)
  go_wp2_with fail
  have HR5 := Lib.hid hN; have HB5 := Lib.hid hBn
  clear hu hf hN hBn HR4 HB4
  generalize wt.setCell ⟨v1.heap.size + 1, 4, none⟩ (.int .i64 (tkv (body l) (32 + 16 * 4) 16)) = wk5 at *
  refine (refShape_any (shD (body l)) wk5).mono ?_
  rintro e wh ⟨rfl, hbh⟩
  have kp := Keeps.of_below hbh
  replace s0 := kp _ _ s0
  replace s1 := kp _ _ s1
  replace s2 := kp _ _ s2
  replace s3 := kp _ _ s3
  replace s4 := kp _ _ s4
  have HRD := Lib.hid (HR5.out.rd.below hbh); have HSHW := Lib.hid (HR5.out.sh.below hbh); have HLH := Lib.hid (HR5.out.lr.below hbh); have HBH := Lib.hid (HB5.out.trans (hbh.mono HB5.out.size))
  clear kp hbh HR5 HB5
  by_cases hsh : ShOk (shD (body l))
  case neg =>
    rw [tf_no hsh]
    have HG : Hid (¬ GoodB l) := Lib.hid (fun h => hsh h.sh)
    clear hsh
    obtain ⟨⟨f0, f1⟩, fz⟩ := cells2 HLH.out.r2
    obtain ⟨⟨c0, c1, c2, c3, c4, c5, c6, c7⟩, hz⟩ := cells8 HLH.out.r0
    go_wp2_with fail
    refine wp_region_z (fun w' => w'.cell? ⟨w.heap.size + 1 + 1, 0, none⟩ = some (.int .i64 18) ∧ w'.cell? ⟨w.heap.size + 1 + 1, 1, none⟩ = some (.int .i64 0)) [0, 1] [] (by kernel_rfl) (by kernel_rfl) (by kernel_rfl) (by rfl) (fun _ _ _ _ e h => ⟨e.symm.trans h.1, h.2⟩) ⟨f0, f1⟩ ?_
    iterate 2
      refine Heads.step (v := ?_) rfl (by first | (go_simp; done) | rfl) (fun W hW => ?_) ?_
      rotate_left
      · (obtain ⟨t0, t1⟩ := hW; go_simp; try with_reducible rfl)
    refine AnyZ.one (i := 2) (by kernel_rfl) rfl (fun K hK => ?_)
    go_simp
    rw [fold_zap]
    obtain ⟨hL5, hB5⟩ := bad_zap HLH.out HBH.out (Nat.le_refl _)
    clear c0 c1 c2 c3 c4 c5 c6 c7 hz f0 f1 fz
    generalize (zap wh w.heap.size).drew = v5 at *
    obtain ⟨⟨f0, f1⟩, fz⟩ := cells2 hL5.r2
    refine hK _ _ (fun _ => ⟨f0, f1⟩) ?_
    clear hK
    obtain ⟨⟨d0, d1⟩, dz⟩ := cells2 hL5.r1
    refine AnyZ.one (i := 3) (by kernel_rfl) rfl (fun K hK => ?_)
    go_simp
    rw [fold2]
    obtain ⟨hL6, hB6⟩ := bad_set hL5 hB5 (Nat.le_refl _)
    clear d0 d1 dz f0 f1 fz
    generalize set2 v5 (w.heap.size + 1) (.int .i64 18) (.int .i64 0) = v6 at *
    refine hK _ _ (fun _ => ⟨hL6.f0, hL6.f1⟩) (AnyZ.done (by kernel_rfl) ?_)
    clear hK
    go_simp
    obtain ⟨⟨c0, c1, c2, c3, c4, c5, c6, c7⟩, hz⟩ := cells8 hL6.r0
    obtain ⟨⟨d0, d1⟩, dz⟩ := cells2 hL6.r1
    go_wp2_with fail
    exact ⟨rfl, _, outsR rfl rfl hL6.r0 hL6.r1, .inr ⟨HG.out, rfl⟩, hB6⟩
  rw [tf_yes hsh]
  have HSH := Lib.hid hsh
  have g0 := hsh.s0; have g1 := hsh.s1; have g2 := hsh.s2; have g3 := hsh.s3; have g4 := hsh.s4
  clear hsh
  go_upto_block 0 with (fail)
  have gX := heap_alloc_new wh (.cells #[.int .i64 (shD (body l) 0), .int .i64 (shD (body l) 1), .int .i64 (shD (body l) 2), .int .i64 (shD (body l) 3), .int .i64 (shD (body l) 4), .slice none 0 0, .slice none 0 0, .slice none 0 0] 31)
  have hbx : Below wh.heap.size wh (wh.alloc (.cells #[.int .i64 (shD (body l) 0), .int .i64 (shD (body l) 1), .int .i64 (shD (body l) 2), .int .i64 (shD (body l) 3), .int .i64 (shD (body l) 4), .slice none 0 0, .slice none 0 0, .slice none 0 0] 31)) := (Below.refl _ _).alloc (Nat.le_refl _) _
  have hzx : (wh.alloc (.cells #[.int .i64 (shD (body l) 0), .int .i64 (shD (body l) 1), .int .i64 (shD (body l) 2), .int .i64 (shD (body l) 3), .int .i64 (shD (body l) 4), .slice none 0 0, .slice none 0 0, .slice none 0 0] 31)).heap.size = wh.heap.size + 1 := by simp
  have hg0 : DrG l (some ⟨ba, oa, none⟩) c w.heap.size v1.heap.size 112 (wh.alloc (.cells #[.int .i64 (shD (body l) 0), .int .i64 (shD (body l) 1), .int .i64 (shD (body l) 2), .int .i64 (shD (body l) 3), .int .i64 (shD (body l) 4), .slice none 0 0, .slice none 0 0, .slice none 0 0] 31)) := ⟨HRD.out.below hbx, HSHW.out.below hbx, HLH.out.below hbx⟩
  have hsl : v1.heap.size + 1 < wh.heap.size := HSHW.out.lt
  have hbw := HBH.out.trans (hbx.mono HBH.out.size)
  generalize wh.alloc (.cells #[.int .i64 (shD (body l) 0), .int .i64 (shD (body l) 1), .int .i64 (shD (body l) 2), .int .i64 (shD (body l) 3), .int .i64 (shD (body l) 4), .slice none 0 0, .slice none 0 0, .slice none 0 0] 31) = wx at *
  have GX := Lib.hid gX; have HG0 := Lib.hid hg0; have HBX := Lib.hid hbw
  clear gX hbx hg0 hbw HRD HSHW HLH HBH s0 s1 s2 s3 s4
  obtain ⟨R, hR⟩ : ∃ R, R = tkv (body l) 80 16 := ⟨_, rfl⟩
  obtain ⟨C, hC⟩ : ∃ C, C = tkv (body l) 96 16 := ⟨_, rfl⟩
  have hs3 : shD (body l) 3 = (R : Int) := by rw [hR]; rfl
  have hs4 : shD (body l) 4 = (C : Int) := by rw [hC]; rfl
  have hR5 : R ≤ 500 := by omega
  have hC1 : C ≤ 100 := by omega
  have HR := Lib.hid hR; have HC := Lib.hid hC; have HS3 := Lib.hid hs3; have HS4 := Lib.hid hs4
  clear hR hC hs3 hs4
  have HAT0 : Hid (At_ (body l) 112 (.bits 0 0)) := Lib.hid ⟨fun _ => by rw [bef_col0]; rfl, fun h => by omega⟩
  go_cut [] (fun wy => ∃ (q n : Nat) (AC : Option Addr) (cC : Nat) (rows : Nat → Nat) (CA : Nat → Option Addr) (cc : Nat → Nat) (B : Nat → Nat → Int) (L : Nat → Nat → Nat → Int), n ≤ C ∧ (∀ j, j < n → rows j ≤ R) ∧ Hid (DrG l (some ⟨ba, oa, none⟩) c w.heap.size v1.heap.size q wy) ∧ Hid (RCols wy wx.heap.size AC n cC rows CA cc B L) ∧ Hid (wy.heap[wh.heap.size]? = some (.cells #[.int .i64 (shD (body l) 0), .int .i64 (shD (body l) 1), .int .i64 (shD (body l) 2), .int .i64 (shD (body l) 3), .int .i64 (shD (body l) 4), .slice AC n cC, .slice none 0 0, .slice none 0 0] 31)) ∧ Hid (Only (fun b => b = v1.heap.size ∨ b = wh.heap.size ∨ wx.heap.size ≤ b) wx wy) ∧ Hid (At_ (body l) q (.init 0)) ∧ Hid (q ≤ 8 * (body l).length → n = C ∧ ∀ j, j < C → rows j = R ∧ ColG (body l) (B j) (L j) j R))
  case first =>
    go_wp2_with fail
    go_loopw [10] (fun vi wr => ∃ (i q : Nat) (AC : Option Addr) (cC : Nat) (rows : Nat → Nat) (CA : Nat → Option Addr) (cc : Nat → Nat) (B : Nat → Nat → Int) (L : Nat → Nat → Nat → Int), i ≤ C ∧ vi = .int .i64 i ∧ (∀ j, j < i → rows j ≤ R) ∧ Hid (DrG l (some ⟨ba, oa, none⟩) c w.heap.size v1.heap.size q wr) ∧ Hid (RCols wr wx.heap.size AC i cC rows CA cc B L) ∧ Hid (wr.heap[wh.heap.size]? = some (.cells #[.int .i64 (shD (body l) 0), .int .i64 (shD (body l) 1), .int .i64 (shD (body l) 2), .int .i64 (shD (body l) 3), .int .i64 (shD (body l) 4), .slice AC i cC, .slice none 0 0, .slice none 0 0] 31)) ∧ Hid (Only (fun b => b = v1.heap.size ∨ b = wh.heap.size ∨ wx.heap.size ≤ b) wx wr) ∧ Hid (At_ (body l) q (.bits i 0)) ∧ Hid (q ≤ 8 * (body l).length → ∀ j, j < i → rows j = R ∧ ColG (body l) (B j) (L j) j R)) (fun vi _ => C - (intOf vi).toNat)
    case atStart => exact ⟨0, 112, none, 0, fun _ => 0, fun _ => none, fun _ => 0, fun _ _ => 0, fun _ _ _ => 0, by omega, rfl, fun j hj => by omega, HG0, Lib.hid (RCols.nil _ _), GX, Lib.hid (Only.refl _ _), HAT0, Lib.hid (fun _ j hj => by omega)⟩
    case round =>
      obtain ⟨i, q, AC, cC, rows, CA, cc, B, L, hi, rfl, hrb, HG, HCO, HX, HO, HAT, HGC⟩ := hrel
      obtain ⟨wo, hwo⟩ : ∃ x, x = wr := ⟨_, rfl⟩
      subst hwo
      have s4 : wo.cell? ⟨v1.heap.size + 1, 4, none⟩ = some (.int .i64 (C : Int)) := by rw [← HS4.out]; exact HG.out.sh.cell (by omega)
      have co : wo.cell? ⟨v1.heap.size, 3, none⟩ = some (.bool (decide (8 * (body l).length < q))) := HG.out.rd.box.cell (k := 3) (by omega)
      by_cases hlt : i < C
      · by_cases hov : 8 * (body l).length < q
        · rw [decide_eq_true hov] at co
          go_wp2_with fail
          go_meet
          exact ⟨q, i, AC, cC, rows, CA, cc, B, L, by omega, hrb, HG, HCO, HX, HO, Lib.hid ⟨fun h => absurd h (by omega), HAT.out.no⟩, Lib.hid (fun h => absurd h (by omega))⟩
        · rw [decide_eq_false hov] at co
          go_upto_block 2 with (fail)
          clear co
          have hzr : wx.heap.size ≤ wo.heap.size := HO.out.size
          go_cut [11] (fun vcol wk => ∃ (q1 nk : Nat) (Ak : Option Addr) (ck : Nat) (B0 : Nat → Int) (L0 : Nat → Nat → Int), nk ≤ R ∧ vcol = .slice Ak nk ck ∧ Hid (DrG l (some ⟨ba, oa, none⟩) c w.heap.size v1.heap.size q1 wk) ∧ Hid (RowT (fun b => wo.heap.size ≤ b) wk 53 5 Ak nk (fun k => five (fun m => .int .i64 (L0 k m)) (.int .i64 (B0 k)))) ∧ Hid (Only (fun b => b = v1.heap.size ∨ wo.heap.size ≤ b) wo wk) ∧ Hid (At_ (body l) q1 (.bits i R)) ∧ Hid (q1 ≤ 8 * (body l).length → nk = R ∧ ColG (body l) B0 L0 i R))
          case first =>
            go_wp2_with fail
            go_loopw [11, 12] (fun vcol vk wk => ∃ (k q1 : Nat) (Ak : Option Addr) (ck : Nat) (B0 : Nat → Int) (L0 : Nat → Nat → Int), k ≤ R ∧ vcol = .slice Ak k ck ∧ vk = .int .i64 k ∧ Hid (DrG l (some ⟨ba, oa, none⟩) c w.heap.size v1.heap.size q1 wk) ∧ Hid (wk.ownsRow wo.heap.size 53 5 (.slice Ak k ck) k (flatF 5 (fun k => five (fun m => .int .i64 (L0 k m)) (.int .i64 (B0 k))) k)) ∧ Hid (Only (fun b => b = v1.heap.size ∨ wo.heap.size ≤ b) wo wk) ∧ Hid (At_ (body l) q1 (.bits i k)) ∧ Hid (q1 ≤ 8 * (body l).length → ColG (body l) B0 L0 i k)) (fun _ vk _ => R - (intOf vk).toNat)
            case atStart => exact ⟨0, q, none, 0, fun _ => 0, fun _ _ => 0, by omega, rfl, rfl, HG, Lib.hid (World.ownsRow_nil _ _ _ _), Lib.hid (Only.refl _ _), HAT, Lib.hid (fun _ m hm => by omega)⟩
            case round =>
              obtain ⟨k, q1, Ak, ck, B0, L0, hk, rfl, rfl, HGk, HWk, HOk, HATk, HGCk⟩ := hrel
              obtain ⟨wk, hwk⟩ : ∃ x, x = wr := ⟨_, rfl⟩
              subst hwk
              have s3 : wk.cell? ⟨v1.heap.size + 1, 3, none⟩ = some (.int .i64 (R : Int)) := by rw [← HS3.out]; exact HGk.out.sh.cell (by omega)
              have co : wk.cell? ⟨v1.heap.size, 3, none⟩ = some (.bool (decide (8 * (body l).length < q1))) := HGk.out.rd.box.cell (k := 3) (by omega)
              by_cases hlk : k < R
              · by_cases hov1 : 8 * (body l).length < q1
                · rw [decide_eq_true hov1] at co
                  go_wp2_with fail
                  go_meet
                  exact ⟨q1, k, Ak, ck, B0, L0, by omega, rfl, HGk, Lib.hid (own_flat HWk.out), HOk, Lib.hid ⟨fun h => absurd h (by omega), HATk.out.no⟩, Lib.hid (fun h => absurd h (by omega))⟩
                · rw [decide_eq_false hov1] at co
                  have hinn : (decH (body l)).inn (.bits i k) := ⟨by show i < tkv (body l) 96 16; rw [← HC.out]; exact hlt, by show k < tkv (body l) 80 16; rw [← HR.out]; exact hlk⟩
                  have HIN := Lib.hid hinn
                  clear hinn
                  go_wp2_with fail
                  refine (refTake_any (body l) (some ⟨ba, oa, none⟩) c v1.heap.size q1 16 wk HGk.out.rd hnA.out (by omega) (by omega)).mono ?_
                  rintro e wt ⟨rfl, hT, hO⟩
                  obtain ⟨hat, hnum⟩ := HATk.out.step HIN.out (n := 16) rfl (bef_sel0 _ i k)
                  have hgt := HGk.out.take hT hO hz1
                  obtain ⟨bv, hbv⟩ : ∃ bv, bv = rdN (body l) q1 16 := ⟨_, rfl⟩
                  rw [← hbv] at hnum ⊢
                  have HNUM := Lib.hid hnum; have HAT1 := Lib.hid hat
                  have HOT := Lib.hid (HOk.out.then_ hO (fun _ _ h => .inl h))
                  have HWT := Lib.hid (own_only HWk.out hO (fun b hb e => by have := own_base HWk.out b hb; have hs := HO.out.size; omega))
                  clear hT hO hat hnum hbv co
                  go_upto_block 4 with (fail)
                  have hCl := cell_made wt (bv : Int) (fun _ => 0)
                  have hbt : Below wt.heap.size wt (wt.alloc (.cells #[.int .i64 0, .int .i64 0, .int .i64 0, .int .i64 0, .int .i64 bv] 53)) := (Below.refl _ _).alloc (Nat.le_refl _) _
                  have hzt : (wt.alloc (.cells #[.int .i64 0, .int .i64 0, .int .i64 0, .int .i64 0, .int .i64 bv] 53)).heap.size = wt.heap.size + 1 := by simp
                  have hgd := hgt.below hbt
                  have hwd := own_below HWT.out hbt
                  have hod := HOT.out.call hbt
                  generalize wt.alloc (.cells #[.int .i64 0, .int .i64 0, .int .i64 0, .int .i64 0, .int .i64 bv] 53) = wd at *
                  have HCl := Lib.hid hCl; have HGd := Lib.hid hgd; have HWd := Lib.hid hwd; have HOd := Lib.hid hod
                  have hsz5 : wo.heap.size ≤ wt.heap.size := HOT.out.size
                  have HAK := Lib.hid (own_lt HWT.out)
                  clear hCl hbt hgt hgd hwd hod HWT HOT HWk HOk HGk
                  go_cut [] (fun we => ∃ (q2 : Nat) (Lv : Nat → Int), q1 + 16 ≤ q2 ∧ Hid (DrG l (some ⟨ba, oa, none⟩) c w.heap.size v1.heap.size q2 we) ∧ Hid (Arr we wt.heap.size 53 5 (cellV Lv bv 4)) ∧ Hid (Only (fun b => b = v1.heap.size ∨ b = wt.heap.size) wd we) ∧ Hid (At_ (body l) q2 (.bits i (k + 1))) ∧ Hid (q2 ≤ 8 * (body l).length → ∀ m, m < 4 → Lv m = numD (body l) (.sel i k m)))
                  case first =>
                    go_wp2_with fail
                    go_loopw [14] (fun vj wr => ∃ (j q2 : Nat) (Lv : Nat → Int), j ≤ 4 ∧ vj = .int .i64 j ∧ q1 + 16 ≤ q2 ∧ Hid (DrG l (some ⟨ba, oa, none⟩) c w.heap.size v1.heap.size q2 wr) ∧ Hid (Arr wr wt.heap.size 53 5 (cellV Lv bv j)) ∧ Hid (Only (fun b => b = v1.heap.size ∨ b = wt.heap.size) wd wr) ∧ Hid (At_ (body l) q2 (nxt i k j)) ∧ Hid (q2 ≤ 8 * (body l).length → ∀ m, m < j → Lv m = numD (body l) (.sel i k m))) (fun vj _ => 4 - (intOf vj).toNat)
                    case atStart => exact ⟨0, q1 + 16, fun _ => 0, by omega, rfl, by omega, HGd, HCl, Lib.hid (Only.refl _ _), HAT1, Lib.hid (fun _ m hm => by omega)⟩
                    case round =>
                      obtain ⟨j, q2, Lv, hj, rfl, hq12, HGj, HCj, HOj, HATj, HLj⟩ := hrel
                      by_cases hlj : j < 4
                      · have hcx := HCj.out.cell (k := j) (by omega)
                        have hcz := HCj.out.thaw j
                        have hin2 : (decH (body l)).inn (.sel i k j) := ⟨HIN.out, hlj⟩
                        have hsrc := (decH (body l)).src_le HSH.out i
                        have hwd := wid_le (n := (decH (body l)).src i) (by omega) (by omega)
                        have HAJ : Hid (At_ (body l) q2 (.sel i k j)) := Lib.hid (by have h := HATj.out; unfold nxt at h; rwa [if_pos hlj] at h)
                        have HIN2 := Lib.hid hin2
                        clear hin2
                        have s0 : wr.cell? ⟨v1.heap.size + 1, 0, none⟩ = some (.int .i64 (shD (body l) 0)) := HGj.out.sh.cell (by omega)
                        have s1 : wr.cell? ⟨v1.heap.size + 1, 1, none⟩ = some (.int .i64 (shD (body l) 1)) := HGj.out.sh.cell (by omega)
                        have s2 : wr.cell? ⟨v1.heap.size + 1, 2, none⟩ = some (.int .i64 (shD (body l) 2)) := HGj.out.sh.cell (by omega)
                        have s3 : wr.cell? ⟨v1.heap.size + 1, 3, none⟩ = some (.int .i64 (shD (body l) 3)) := HGj.out.sh.cell (by omega)
                        have s4 : wr.cell? ⟨v1.heap.size + 1, 4, none⟩ = some (.int .i64 (shD (body l) 4)) := HGj.out.sh.cell (by omega)
                        go_wp2_with fail
                        refine (refSources_src (decH (body l)) i wr HSH.out).mono ?_
                        rintro e wv ⟨rfl, hbv⟩
                        go_wp2_with fail
                        refine (bits_any ((decH (body l)).src i) wv (by omega) (by omega)).mono ?_
                        rintro e wv2 ⟨rfl, ev⟩
                        subst ev
                        obtain ⟨n, hn⟩ : ∃ n : Nat, wid ((decH (body l)).src i) = (n : Int) := ⟨_, (Int.toNat_of_nonneg hwd.1).symm⟩
                        rw [hn]
                        have hnw : n = (decH (body l)).wf (.sel i k j) := by show n = (wid ((decH (body l)).src i)).toNat; rw [hn]; omega
                        have HNW := Lib.hid hnw
                        have hn16 : n ≤ 16 := by omega
                        have hgv := HGj.out.below hbv
                        have hcv := HCj.out.below hbv
                        have hov2 := HOj.out.call hbv
                        clear hn hnw hwd hsrc
                        go_wp2_with fail
                        refine (refTake_any (body l) (some ⟨ba, oa, none⟩) c v1.heap.size q2 n wv hgv.rd hnA.out (by omega) hn16).mono ?_
                        rintro e wx2 ⟨rfl, hT, hO⟩
                        obtain ⟨hat2, hnum2⟩ := HAJ.out.step HIN2.out HNW.out (bef_nxt _ i k hlj)
                        have hg2 := hgv.take hT hO hz1
                        have hc2 := hcv.only hO (by omega)
                        have hcx := hc2.cell (k := j) (by omega)
                        have hcz := hc2.thaw j
                        have ho2 := hov2.then_ hO (fun _ _ h => .inl h)
                        obtain ⟨r, hr⟩ : ∃ r, r = rdN (body l) q2 n := ⟨_, rfl⟩
                        rw [← hr] at hnum2 ⊢
                        have HAT2 := Lib.hid hat2; have HNUM2 := Lib.hid hnum2; have HG2 := Lib.hid hg2; have HC2 := Lib.hid hc2; have HO2 := Lib.hid ho2
                        clear hat2 hnum2 hg2 hc2 ho2 hov2 hcv hgv hbv hT hO hr
                        go_wp2_with fail
                        have hOs : Only (fun b => b = wt.heap.size) wx2 (wx2.setCell ⟨wt.heap.size, j, none⟩ (.int .i64 r)) := Only.setCell (p := ⟨wt.heap.size, j, none⟩) (Only.refl (fun b => b = wt.heap.size) wx2) (fun _ => rfl) _
                        have HG3 := Lib.hid (HG2.out.only hOs (fun b hb => by omega) hz1 hA1.out)
                        have HC3 : Hid (Arr (wx2.setCell ⟨wt.heap.size, j, none⟩ (.int .i64 r)) wt.heap.size 53 5 (cellV (fun m => if m = j then (r : Int) else Lv m) bv (j + 1))) := Lib.hid (HC2.out.set (cellV_set Lv bv r hlj).1 (cellV_set Lv bv r hlj).2)
                        have HO3 := Lib.hid (HO2.out.then_ hOs (fun _ _ h => .inr h))
                        clear hOs
                        go_roundw
                        case rel => exact ⟨j + 1, q2 + n, fun m => if m = j then (r : Int) else Lv m, by omega, by go_num, by omega, HG3, HC3, HO3, HAT2, Lib.hid (fun hle m hm => by
                          by_cases hmj : m = j
                          · subst hmj; simp only [if_true]; rw [HNUM2.out hle]
                          · simp only [if_neg hmj]; exact HLj.out (by omega) m (by omega))⟩
                        case measure => simp [intOf]; omega
                      · obtain rfl : j = 4 := by omega
                        rw [show ((4 : Nat) : Int) = 4 from rfl]
                        go_wp2_with fail
                        go_meet
                        exact ⟨q2, Lv, hq12, HGj, HCj, HOj, HATj, HLj⟩
                  case rest =>
                    obtain ⟨q2, Lv, hq12, HG2, HC2, HO2, HAT2, HL2⟩ := hcut
                    have e0 : wc.cell? ⟨wt.heap.size, 0, none⟩ = some (.int .i64 (Lv 0)) := HC2.out.cell (k := 0) (by omega)
                    have e1 : wc.cell? ⟨wt.heap.size, 1, none⟩ = some (.int .i64 (Lv 1)) := HC2.out.cell (k := 1) (by omega)
                    have e2 : wc.cell? ⟨wt.heap.size, 2, none⟩ = some (.int .i64 (Lv 2)) := HC2.out.cell (k := 2) (by omega)
                    have e3 : wc.cell? ⟨wt.heap.size, 3, none⟩ = some (.int .i64 (Lv 3)) := HC2.out.cell (k := 3) (by omega)
                    have e4 : wc.cell? ⟨wt.heap.size, 4, none⟩ = some (.int .i64 bv) := HC2.out.cell (k := 4) (by omega)
                    have HWc := Lib.hid (own_only HWd.out HO2.out (fun b hb hs => by have h1 := HAK.out b hb; have h2 := own_base HWd.out b hb; have h3 := HO.out.size; omega))
                    have HOc := Lib.hid (HOd.out.then_ HO2.out (fun b _ hs => by omega))
                    have hzc : wo.heap.size ≤ wc.heap.size := HOc.out.size
                    go_wp2_with (at_builtin; refine wp_append rfl (.tmp 116) (.tmp 118) _ rfl elCells wo.heap.size Ak k ck _ rfl (own_below HWc.out ((Below.refl _ _).alloc (Nat.le_refl _) _)) _ 1 1 [.int .i64 (Lv 0), .int .i64 (Lv 1), .int .i64 (Lv 2), .int .i64 (Lv 3), .int .i64 bv] rfl (src_news wc _ _ 5 1 rfl (five_oneCell Lv bv)) (by omega) (sz_alloc hzc) ?_; intro A' c' w' ho hk hb)
                    have HG3 := Lib.hid ((HG2.out.below ((Below.refl _ _).alloc (Nat.le_refl _) (.cells #[.int .i64 (Lv 0), .int .i64 (Lv 1), .int .i64 (Lv 2), .int .i64 (Lv 3), .int .i64 bv] 53))).only hk (fun b hb => by have h1 := own_base HWc.out b hb; have h2 := HO.out.size; omega) hz1 hA1.out)
                    have HO3 := Lib.hid ((HOc.out.call ((Below.refl _ _).alloc (Nat.le_refl _) (.cells #[.int .i64 (Lv 0), .int .i64 (Lv 1), .int .i64 (Lv 2), .int .i64 (Lv 3), .int .i64 bv] 53))).then_ hk (fun b _ hb => .inr (own_base HWc.out b hb)))
                    have HW3 : Hid (w'.ownsRow wo.heap.size 53 5 (.slice A' (k + 1) c') (k + 1) (flatF 5 (fun a => five (fun m => .int .i64 ((if a = k then Lv else L0 a) m)) (.int .i64 (if a = k then (bv : Int) else B0 a))) (k + 1))) := Lib.hid (by rw [← flat_more]; exact ho)
                    clear ho hk hb e0 e1 e2 e3 e4
                    go_wp2_with fail
                    go_roundw
                    case rel => exact ⟨k + 1, q2, A', c', fun a => if a = k then (bv : Int) else B0 a, fun a => if a = k then Lv else L0 a, by omega, rfl, by go_num, HG3, HW3, HO3, HAT2, Lib.hid (fun hle m hm => by
                      by_cases hmk : m = k
                      · subst hmk; simp only [if_true]; exact ⟨by rw [HNUM.out (by omega)], HL2.out hle⟩
                      · simp only [if_neg hmk]; exact HGCk.out (by omega) m (by omega))⟩
                    case measure => simp [intOf]; omega
              · obtain rfl : k = R := by omega
                go_wp2_with fail
                go_meet
                exact ⟨q1, k, Ak, ck, B0, L0, by omega, rfl, HGk, Lib.hid (own_flat HWk.out), HOk, HATk, Lib.hid (fun h => ⟨rfl, HGCk.out h⟩)⟩
          case rest =>
            obtain ⟨q1, nk, Ak, ck, B0, L0, hnk, rfl, HG1, HR1, HO1, HAT1, HGC1⟩ := hcut
            have hXc : wc.heap[wh.heap.size]? = some (.cells #[.int .i64 (shD (body l) 0), .int .i64 (shD (body l) 1), .int .i64 (shD (body l) 2), .int .i64 (shD (body l) 3), .int .i64 (shD (body l) 4), .slice AC i cC, .slice none 0 0, .slice none 0 0] 31) := (HO1.out.block _ (Array.getElem?_eq_some_iff.1 HX.out).1 (by omega)).trans HX.out
            have x5 : wc.cell? ⟨wh.heap.size, 5, none⟩ = some (.slice AC i cC) := by rw [cell_of_row wc wh.heap.size 5 _ _ _ hXc]; rfl
            have hbl : Below wc.heap.size wc (wc.alloc (.cells #[.slice Ak nk ck] 50)) := (Below.refl _ _).alloc (Nat.le_refl _) _
            have HC1 := Lib.hid ((HCO.out.only HO1.out (fun b hb hlt' => by omega)).below hbl)
            have HK1 := Lib.hid ((HR1.out.mono (p' := fun b => wx.heap.size ≤ b) (fun b _ hb => by omega)).below hbl)
            have hXa := heap_below hbl hXc
            have hzc : wx.heap.size ≤ wc.heap.size := Nat.le_trans hzr HO1.out.size
            have HGa := Lib.hid (HG1.out.below hbl)
            have HOa := Lib.hid ((HO.out.then_ HO1.out (fun b _ hs => by omega)).call hbl)
            go_wp2_with (at_builtin; refine wp_append rfl (.tmp 121) (.tmp 123) _ rfl elCol wx.heap.size AC i cC _ rfl HC1.out.own _ 1 1 [.slice Ak nk ck] rfl (src_new _ _ _ rfl) (by omega) (sz_alloc hzc) ?_; intro A' c' w' ho hk hb; have hX2 := (hk.block _ (Array.getElem?_eq_some_iff.1 hXa).1 (own_type (e' := 31) HC1.out.own (by decide) _ _ hXa)).trans hXa; have y5 : w'.cell? ⟨wh.heap.size, 5, none⟩ = some (.slice AC i cC) := (by rw [cell_of_row w' wh.heap.size 5 _ _ _ hX2]; rfl); have z5 : w'.frozen? ⟨wh.heap.size, 5, none⟩ = false := (by simp [World.frozen?, hX2]))
            have hOs : Only (fun b => b = wh.heap.size) w' (w'.setCell ⟨wh.heap.size, 5, none⟩ (.slice A' (i + 1) c')) := Only.setCell (p := ⟨wh.heap.size, 5, none⟩) (Only.refl (fun b => b = wh.heap.size) w') (fun _ => rfl) _
            have hpush := HC1.out.push HK1.out ho hk
            have HC2 := Lib.hid (hpush.only hOs (fun b hb _ => by
              have hb2 : b = wh.heap.size := hb
              subst hb2
              exact .inr ⟨_, 31, hX2, by decide, by decide⟩))
            have HG2 := Lib.hid ((HGa.out.only hk (fun b hb => by have := own_base HC1.out.own b hb; omega) hz1 hA1.out).only hOs (fun b hb => by omega) hz1 hA1.out)
            have HX2 : Hid ((w'.setCell ⟨wh.heap.size, 5, none⟩ (.slice A' (i + 1) c')).heap[wh.heap.size]? = some (.cells #[.int .i64 (shD (body l) 0), .int .i64 (shD (body l) 1), .int .i64 (shD (body l) 2), .int .i64 (shD (body l) 3), .int .i64 (shD (body l) 4), .slice A' (i + 1) c', .slice none 0 0, .slice none 0 0] 31)) := Lib.hid (by rw [set1_heap0 hX2]; simp)
            have HO2 := Lib.hid ((HOa.out.then_ hk (fun b _ hb => .inr (.inr (own_base HC1.out.own b hb)))).then_ hOs (fun b _ hb => .inr (.inl hb)))
            clear hOs hpush ho hk hb hX2 y5 z5 hXa hXc x5 hbl
            go_roundw
            case rel => exact ⟨i + 1, q1, A', c', fun j => if j = i then nk else rows j, fun j => if j = i then Ak else CA j, fun j => if j = i then ck else cc j, fun j => if j = i then B0 else B j, fun j => if j = i then L0 else L j, by omega, by go_num, fun j hj => by
              by_cases hji : j = i
              · simp only [if_pos hji]; exact hnk
              · simp only [if_neg hji]; exact hrb j (by omega), HG2, HC2, HX2, HO2, Lib.hid (HAT1.out.same (by rw [bef_col0, ← bef_col, HR.out]; rfl)), Lib.hid (fun hle j hj => by
              by_cases hji : j = i
              · subst hji; simp only [if_true]; exact HGC1.out hle
              · simp only [if_neg hji]; exact HGC.out (by omega) j (by omega))⟩
            case measure => simp [intOf]; omega
      · obtain rfl : i = C := by omega
        go_wp2_with fail
        go_meet
        exact ⟨q, i, AC, cC, rows, CA, cc, B, L, by omega, hrb, HG, HCO, HX, HO, Lib.hid (HAT.out.same (by rw [bef_col0, bef_init0, HC.out]; rfl)), Lib.hid (fun h => ⟨rfl, HGC.out h⟩)⟩
  case rest =>
    obtain ⟨q, n, AC, cC, rows, CA, cc, B, L, hn, hrb, HG, HCO, HX, HO, HAT, HGC⟩ := hcut
    obtain ⟨w8, hw8⟩ : ∃ x, x = wc := ⟨_, rfl⟩
    subst hw8
    have hzx8 : wx.heap.size ≤ w8.heap.size := HO.out.size
    obtain ⟨Nr, hNr⟩ : ∃ Nr, Nr = (dec (body l)).nr := ⟨_, rfl⟩
    obtain ⟨No, hNo⟩ : ∃ No, No = (dec (body l)).no := ⟨_, rfl⟩
    have hs2 : shD (body l) 2 = (Nr : Int) := by rw [hNr]; rfl
    have hs1 : shD (body l) 1 = (No : Int) := by rw [hNo]; rfl
    have hNr5 : Nr ≤ 500 := by omega
    have hNo5 : No ≤ 500 := by omega
    have HNR := Lib.hid hNr; have HNO := Lib.hid hNo; have HS1 := Lib.hid hs1; have HS2 := Lib.hid hs2
    clear hNr hNo hs1 hs2
    go_upto_block 6 with (fail)
    go_cut [] (fun wy => ∃ (q1 : Nat) (AR : Option Addr) (cR : Nat) (S : Nat → Int) (I : Nat → Bool), q ≤ q1 ∧ Hid (DrG l (some ⟨ba, oa, none⟩) c w.heap.size v1.heap.size q1 wy) ∧ Hid (wy.ownsRow w8.heap.size 57 2 (.slice AR Nr cR) Nr (flatF 2 (fun k => two (.int .i64 (S k)) (.bool (I k))) Nr)) ∧ Hid (wy.heap[wh.heap.size]? = some (.cells #[.int .i64 (shD (body l) 0), .int .i64 (shD (body l) 1), .int .i64 (shD (body l) 2), .int .i64 (shD (body l) 3), .int .i64 (shD (body l) 4), .slice AC n cC, .slice AR Nr cR, .slice none 0 0] 31)) ∧ Hid (Only (fun b => b = v1.heap.size ∨ b = wh.heap.size ∨ w8.heap.size ≤ b) w8 wy) ∧ Hid (At_ (body l) q1 (.init Nr)) ∧ Hid (q1 ≤ 8 * (body l).length → ∀ m, m < Nr → S m = numD (body l) (.rsel m) ∧ I m = (numD (body l) (.init m) == 1)))
    case first =>
      go_wp2_with fail
      go_loopw [15] (fun vi wr => ∃ (k q1 : Nat) (AR : Option Addr) (cR : Nat) (S : Nat → Int) (I : Nat → Bool), k ≤ Nr ∧ vi = .int .i64 k ∧ q ≤ q1 ∧ Hid (DrG l (some ⟨ba, oa, none⟩) c w.heap.size v1.heap.size q1 wr) ∧ Hid (wr.ownsRow w8.heap.size 57 2 (.slice AR k cR) k (flatF 2 (fun k => two (.int .i64 (S k)) (.bool (I k))) k)) ∧ Hid (wr.heap[wh.heap.size]? = some (.cells #[.int .i64 (shD (body l) 0), .int .i64 (shD (body l) 1), .int .i64 (shD (body l) 2), .int .i64 (shD (body l) 3), .int .i64 (shD (body l) 4), .slice AC n cC, .slice AR k cR, .slice none 0 0] 31)) ∧ Hid (Only (fun b => b = v1.heap.size ∨ b = wh.heap.size ∨ w8.heap.size ≤ b) w8 wr) ∧ Hid (At_ (body l) q1 (.init k)) ∧ Hid (q1 ≤ 8 * (body l).length → ∀ m, m < k → S m = numD (body l) (.rsel m) ∧ I m = (numD (body l) (.init m) == 1))) (fun vi _ => Nr - (intOf vi).toNat)
      case atStart => exact ⟨0, q, none, 0, fun _ => 0, fun _ => false, by omega, rfl, by omega, HG, Lib.hid (World.ownsRow_nil _ _ _ _), HX, Lib.hid (Only.refl _ _), HAT, Lib.hid (fun _ m hm => by omega)⟩
      case round =>
        obtain ⟨k, q1, AR, cR, S, I, hk, rfl, hq1, HG1, HW1, HX1, HO1, HAT1, HGS1⟩ := hrel
        obtain ⟨wo, hwo⟩ : ∃ x, x = wr := ⟨_, rfl⟩
        subst hwo
        have s2' : wo.cell? ⟨v1.heap.size + 1, 2, none⟩ = some (.int .i64 (Nr : Int)) := by rw [← HS2.out]; exact HG1.out.sh.cell (by omega)
        by_cases hlt : k < Nr
        · have hinn : (decH (body l)).inn (.init k) := by show k < tkv (body l) 64 16; have h := HNR.out; have h2 : (dec (body l)).nr = tkv (body l) 64 16 := rfl; omega
          have HIN := Lib.hid hinn
          clear hinn
          go_wp2_with fail
          clear s2'
          refine (refTake_any (body l) (some ⟨ba, oa, none⟩) c v1.heap.size q1 1 wo HG1.out.rd hnA.out (by omega) (by omega)).mono ?_
          rintro e wt ⟨rfl, hT, hO⟩
          obtain ⟨hat, hnum⟩ := HAT1.out.step HIN.out (n := 1) rfl (bef_init _ k)
          have hgt := HG1.out.take hT hO hz1
          obtain ⟨r1, hr1⟩ : ∃ r, r = rdN (body l) q1 1 := ⟨_, rfl⟩
          rw [← hr1] at hnum ⊢
          have HNUM1 := Lib.hid hnum; have HATm := Lib.hid hat; have HGt := Lib.hid hgt
          have HOt := Lib.hid (HO1.out.then_ hO (fun _ _ h => .inl h))
          have HWt := Lib.hid (own_only HW1.out hO (fun b hb e => by have := own_base HW1.out b hb; have e : b = v1.heap.size := e; omega))
          have HXt := Lib.hid ((hO.block _ (Array.getElem?_eq_some_iff.1 HX1.out).1 (by omega)).trans HX1.out)
          clear hT hO hat hnum hgt hr1
          have x6 : wt.cell? ⟨wh.heap.size, 6, none⟩ = some (.slice AR k cR) := by rw [cell_of_row wt wh.heap.size 6 _ _ _ HXt.out]; rfl
          have s0 : wt.cell? ⟨v1.heap.size + 1, 0, none⟩ = some (.int .i64 (shD (body l) 0)) := HGt.out.sh.cell (by omega)
          have s1 : wt.cell? ⟨v1.heap.size + 1, 1, none⟩ = some (.int .i64 (shD (body l) 1)) := HGt.out.sh.cell (by omega)
          have s2 : wt.cell? ⟨v1.heap.size + 1, 2, none⟩ = some (.int .i64 (shD (body l) 2)) := HGt.out.sh.cell (by omega)
          have s3 : wt.cell? ⟨v1.heap.size + 1, 3, none⟩ = some (.int .i64 (shD (body l) 3)) := HGt.out.sh.cell (by omega)
          have s4 : wt.cell? ⟨v1.heap.size + 1, 4, none⟩ = some (.int .i64 (shD (body l) 4)) := HGt.out.sh.cell (by omega)
          go_wp2_with fail
          refine wp_region_z (fun w' => w'.cell? ⟨wh.heap.size, 6, none⟩ = some (.slice AR k cR) ∧ w'.cell? ⟨v1.heap.size + 1, 0, none⟩ = some (.int .i64 (shD (body l) 0)) ∧ w'.cell? ⟨v1.heap.size + 1, 1, none⟩ = some (.int .i64 (shD (body l) 1)) ∧ w'.cell? ⟨v1.heap.size + 1, 2, none⟩ = some (.int .i64 (shD (body l) 2)) ∧ w'.cell? ⟨v1.heap.size + 1, 3, none⟩ = some (.int .i64 (shD (body l) 3)) ∧ w'.cell? ⟨v1.heap.size + 1, 4, none⟩ = some (.int .i64 (shD (body l) 4))) [0, 1, 2, 3, 4, 5] [13] (by kernel_rfl) (by kernel_rfl) (by kernel_rfl) (by rfl) (fun _ _ _ _ e h => ⟨e.symm.trans h.1, h.2⟩) ⟨x6, s0, s1, s2, s3, s4⟩ ?_
          iterate 6
            refine Heads.step (v := ?_) rfl (by first | (go_simp; done) | rfl) (fun W hW => ?_) ?_
            rotate_left
            · (obtain ⟨t0, t1, t2, t3, t4, t5⟩ := hW; go_simp; try with_reducible rfl)
          refine AnyZ.one (i := 6) (by kernel_rfl) rfl (fun K hK => ?_)
          go_simp
          refine (refSources_neg (decH (body l)) wt.drew HSH.out).mono ?_
          rintro e wv ⟨rfl, hbv⟩
          have hbv' : Below wt.heap.size wt wv := ((Below.refl _ wt).drew).trans hbv
          have kp := Keeps.of_below hbv'
          replace x6 := kp _ _ x6
          replace s0 := kp _ _ s0
          replace s1 := kp _ _ s1
          replace s2 := kp _ _ s2
          replace s3 := kp _ _ s3
          replace s4 := kp _ _ s4
          have hgv := HGt.out.below hbv'
          have hov := HOt.out.call hbv'
          have hwv := own_below HWt.out hbv'
          have hxv := heap_below hbv' HXt.out
          clear kp hbv hbv'
          refine hK _ _ (fun _ => ⟨x6, s0, s1, s2, s3, s4⟩) ?_
          clear hK
          refine AnyZ.one (i := 7) (by kernel_rfl) rfl (fun K hK => ?_)
          go_simp
          have hsrc := (decH (body l)).src_le HSH.out 1
          have hwd := wid_le (n := (decH (body l)).src 1) (by omega) (by omega)
          refine (bits_any ((decH (body l)).src 1) wv (by omega) (by omega)).mono ?_
          rintro e wv2 ⟨rfl, ev⟩
          subst ev
          obtain ⟨nb, hnb⟩ : ∃ n : Nat, wid ((decH (body l)).src 1) = (n : Int) := ⟨_, (Int.toNat_of_nonneg hwd.1).symm⟩
          rw [hnb]
          have HNW : Hid (nb = (decH (body l)).wf (.rsel k)) := Lib.hid (by show nb = (wid ((decH (body l)).src 1)).toNat; rw [hnb]; omega)
          have hn16 : nb ≤ 16 := by omega
          clear hnb hwd hsrc
          refine hK _ _ (fun _ => ⟨x6, s0, s1, s2, s3, s4⟩) ?_
          clear hK
          refine AnyZ.one (i := 8) (by kernel_rfl) rfl (fun K hK => ?_)
          go_simp
          refine (refTake_any (body l) (some ⟨ba, oa, none⟩) c v1.heap.size (q1 + 1) nb wv hgv.rd hnA.out (by omega) hn16).mono ?_
          rintro e wx2 ⟨rfl, hT, hO⟩
          obtain ⟨hat2, hnum2⟩ := HATm.out.step (x := .rsel k) HIN.out HNW.out (bef_rsel _ k)
          have hg2 := hgv.take hT hO hz1
          have HX2 := Lib.hid ((hO.block _ (Array.getElem?_eq_some_iff.1 hxv).1 (by omega)).trans hxv)
          have ho2 := hov.then_ hO (fun _ _ h => .inl h)
          have hw2 := own_only hwv hO (fun b hb e => by have := own_base hwv b hb; have e : b = v1.heap.size := e; omega)
          replace x6 := hO.cell x6 (by show ¬ (wh.heap.size = v1.heap.size); omega)
          replace s0 := hO.cell s0 (by show ¬ (v1.heap.size + 1 = v1.heap.size); omega)
          replace s1 := hO.cell s1 (by show ¬ (v1.heap.size + 1 = v1.heap.size); omega)
          replace s2 := hO.cell s2 (by show ¬ (v1.heap.size + 1 = v1.heap.size); omega)
          replace s3 := hO.cell s3 (by show ¬ (v1.heap.size + 1 = v1.heap.size); omega)
          replace s4 := hO.cell s4 (by show ¬ (v1.heap.size + 1 = v1.heap.size); omega)
          obtain ⟨r, hr⟩ : ∃ r, r = rdN (body l) ((q1 + 1)) nb := ⟨_, rfl⟩
          rw [← hr] at hnum2 ⊢
          have HAT2 := Lib.hid hat2; have HNUM2 := Lib.hid hnum2; have HG2 := Lib.hid hg2; have HO2 := Lib.hid ho2; have HW2 := Lib.hid hw2
          clear hat2 hnum2 hg2 ho2 hw2 hov hwv hgv hT hO hr hxv
          refine hK _ _ (fun _ => ⟨x6, s0, s1, s2, s3, s4⟩) ?_
          clear hK
          refine AnyZ.mid [9] [13] 4 rfl (by kernel_rfl) (by kernel_rfl) (by kernel_rfl) (fun _ _ _ _ e h => ⟨e.symm.trans h.1, h.2⟩) ⟨x6, s0, s1, s2, s3, s4⟩ ?_
          iterate 1
            refine Heads.step (v := ?_) rfl (by first | (go_simp; done) | rfl) (fun W hW => ?_) ?_
            rotate_left
            · (obtain ⟨t0, t1, t2, t3, t4, t5⟩ := hW; go_simp; try with_reducible rfl)
          refine AnyZ.one (i := 10) (by kernel_rfl) rfl (fun K hK => ?_)
          go_simp
          have hbl : Below wx2.heap.size wx2 (wx2.alloc (.cells #[.int .i64 r, .bool ((r1 : Int) == 1)] 57)) := (Below.refl _ _).alloc (Nat.le_refl _) _
          obtain ⟨_, _, hsc⟩ := src_news wx2 #[.int .i64 r, .bool ((r1 : Int) == 1)] 57 2 1 rfl (by intro u hu; simp at hu; rcases hu with rfl | rfl <;> rfl)
          obtain ⟨ad, hae, hsc⟩ := hsc (by omega)
          injection hae with hae; subst hae
          have kp := Keeps.of_below hbl
          replace x6 := kp _ _ x6
          replace s0 := kp _ _ s0
          replace s1 := kp _ _ s1
          replace s2 := kp _ _ s2
          replace s3 := kp _ _ s3
          replace s4 := kp _ _ s4
          have HG3 := Lib.hid (HG2.out.below hbl); have HO3 := Lib.hid (HO2.out.call hbl); have HW3 := Lib.hid (own_below HW2.out hbl); have HX3 := Lib.hid (heap_below hbl HX2.out)
          have hz3 : w8.heap.size ≤ (wx2.alloc (.cells #[.int .i64 r, .bool ((r1 : Int) == 1)] 57)).heap.size := Nat.le_trans HO2.out.size hbl.size
          clear hbl kp
          generalize wx2.alloc (.cells #[.int .i64 r, .bool ((r1 : Int) == 1)] 57) = w3 at *
          refine hK _ _ (fun _ => ⟨x6, s0, s1, s2, s3, s4⟩) ?_
          clear hK
          obtain ⟨A', c', w4, hap, hown, hon⟩ := run_append_s elRegs 28 HW3.out ⟨wx2.heap.size, 0, none⟩ 1 [.int .i64 r, .bool ((r1 : Int) == 1)] rfl hsc (by intro u hu; simp at hu; rcases hu with rfl | rfl <;> rfl) (by omega) hz3
          have hge : ∀ b, blockOf AR b → w8.heap.size ≤ b := own_base HW3.out
          have hX4 := (hon.block _ (Array.getElem?_eq_some_iff.1 HX3.out).1 (fun h => by have := hge _ h; omega)).trans HX3.out
          have HG4 := Lib.hid (HG3.out.only hon (fun b hb => by have := hge b hb; omega) hz1 hA1.out)
          have HO4 := Lib.hid (HO3.out.then_ hon (fun b _ hb => .inr (.inr (hge b hb))))
          replace x6 := hon.cell x6 (fun h => by have h2 : w8.heap.size ≤ wh.heap.size := hge _ h; omega)
          replace s0 := hon.cell s0 (fun h => by have h2 : w8.heap.size ≤ v1.heap.size + 1 := hge _ h; omega)
          replace s1 := hon.cell s1 (fun h => by have h2 : w8.heap.size ≤ v1.heap.size + 1 := hge _ h; omega)
          replace s2 := hon.cell s2 (fun h => by have h2 : w8.heap.size ≤ v1.heap.size + 1 := hge _ h; omega)
          replace s3 := hon.cell s3 (fun h => by have h2 : w8.heap.size ≤ v1.heap.size + 1 := hge _ h; omega)
          replace s4 := hon.cell s4 (fun h => by have h2 : w8.heap.size ≤ v1.heap.size + 1 := hge _ h; omega)
          clear hon hge hsc
          refine AnyZ.one (i := 11) (by kernel_rfl) rfl (fun K hK => ?_)
          rw [if_pos (by rfl)]
          refine wpZ_append1 (.tmp 135) (.tmp 144) 28 rfl rfl rfl hap ?_
          go_simp
          refine hK _ _ (fun _ => ⟨x6, s0, s1, s2, s3, s4⟩) ?_
          clear hK hap
          refine AnyZ.mid [12] [13] 1 rfl (by kernel_rfl) (by kernel_rfl) (by kernel_rfl) (fun _ _ _ _ e h => ⟨e.symm.trans h.1, h.2⟩) ⟨x6, s0, s1, s2, s3, s4⟩ ?_
          iterate 1
            refine Heads.step (v := ?_) rfl (by first | (go_simp; done) | rfl) (fun W hW => ?_) ?_
            rotate_left
            · (obtain ⟨t0, t1, t2, t3, t4, t5⟩ := hW; go_simp; try with_reducible rfl)
          have z6 : w4.frozen? ⟨wh.heap.size, 6, none⟩ = false := by simp [World.frozen?, hX4]
          refine AnyZ.one (i := 13) (by kernel_rfl) rfl (fun K hK => ?_)
          go_simp
          refine hK _ _ (fun h => by cases h) (AnyZ.done (by kernel_rfl) ?_)
          clear hK
          go_simp
          have hOs : Only (fun b => b = wh.heap.size) w4 (w4.setCell ⟨wh.heap.size, 6, none⟩ (.slice A' (k + 1) c')) := Only.setCell (p := ⟨wh.heap.size, 6, none⟩) (Only.refl (fun b => b = wh.heap.size) w4) (fun _ => rfl) _
          have HG5 := Lib.hid (HG4.out.only hOs (fun b hb => by omega) hz1 hA1.out)
          have HW5 := Lib.hid (own_only (by rw [flat_more2] at hown; exact hown) hOs (fun b hb e => own_type (e' := 31) hown (by decide) b _ (by have e : b = wh.heap.size := e; subst e; exact hX4) hb))
          have HX5 : Hid ((w4.setCell ⟨wh.heap.size, 6, none⟩ (.slice A' (k + 1) c')).heap[wh.heap.size]? = some (.cells #[.int .i64 (shD (body l) 0), .int .i64 (shD (body l) 1), .int .i64 (shD (body l) 2), .int .i64 (shD (body l) 3), .int .i64 (shD (body l) 4), .slice AC n cC, .slice A' (k + 1) c', .slice none 0 0] 31)) := Lib.hid (by rw [set1_heap0 hX4]; simp)
          have HO5 := Lib.hid (HO4.out.then_ hOs (fun b _ hb => .inr (.inl hb)))
          clear hOs hX4 hown z6 x6 s0 s1 s2 s3 s4
          go_wp2_with fail
          go_roundw
          case rel => exact ⟨k + 1, q1 + 1 + nb, A', c', fun a => if a = k then (r : Int) else S a, fun a => if a = k then ((r1 : Int) == 1) else I a, by omega, by go_num, by omega, HG5, HW5, HX5, HO5, Lib.hid HAT2.out, Lib.hid (fun hle m hm => by
            by_cases hmk : m = k
            · subst hmk; simp only [if_true]
              exact ⟨by rw [HNUM2.out hle], by rw [← HNUM1.out (by omega)]; exact beq_cast _⟩
            · simp only [if_neg hmk]; exact HGS1.out (by omega) m (by omega))⟩
          case measure => simp [intOf]; omega
        · obtain rfl : k = Nr := by omega
          go_wp2_with fail
          go_meet
          exact ⟨q1, AR, cR, S, I, hq1, HG1, HW1, HX1, HO1, HAT1, HGS1⟩
    case rest =>
      obtain ⟨q1, AR, cR, S, I, hq1, HG1, HW1, HX1, HO1, HAT1, HGS1⟩ := hcut
      obtain ⟨w9, hw9⟩ : ∃ x, x = wc := ⟨_, rfl⟩
      subst hw9
      have hzx9 : w8.heap.size ≤ w9.heap.size := HO1.out.size
      go_upto_block 8 with (fail)
      go_cut [] (fun wy => ∃ (q2 : Nat) (AO : Option Addr) (cO : Nat) (X : Nat → Int), q1 ≤ q2 ∧ Hid (DrG l (some ⟨ba, oa, none⟩) c w.heap.size v1.heap.size q2 wy) ∧ Hid (wy.ownsRow w9.heap.size 3 1 (.slice AO No cO) No (flatF 1 (fun k _ => .int .i64 (X k)) No)) ∧ Hid (wy.heap[wh.heap.size]? = some (.cells #[.int .i64 (shD (body l) 0), .int .i64 (shD (body l) 1), .int .i64 (shD (body l) 2), .int .i64 (shD (body l) 3), .int .i64 (shD (body l) 4), .slice AC n cC, .slice AR Nr cR, .slice AO No cO] 31)) ∧ Hid (Only (fun b => b = v1.heap.size ∨ b = wh.heap.size ∨ w9.heap.size ≤ b) w9 wy) ∧ Hid (At_ (body l) q2 (.out No)) ∧ Hid (q2 ≤ 8 * (body l).length → ∀ m, m < No → X m = numD (body l) (.out m)))
      case first =>
        go_wp2_with fail
        go_loopw [17] (fun vi wr => ∃ (k q2 : Nat) (AO : Option Addr) (cO : Nat) (X : Nat → Int), k ≤ No ∧ vi = .int .i64 k ∧ q1 ≤ q2 ∧ Hid (DrG l (some ⟨ba, oa, none⟩) c w.heap.size v1.heap.size q2 wr) ∧ Hid (wr.ownsRow w9.heap.size 3 1 (.slice AO k cO) k (flatF 1 (fun k _ => .int .i64 (X k)) k)) ∧ Hid (wr.heap[wh.heap.size]? = some (.cells #[.int .i64 (shD (body l) 0), .int .i64 (shD (body l) 1), .int .i64 (shD (body l) 2), .int .i64 (shD (body l) 3), .int .i64 (shD (body l) 4), .slice AC n cC, .slice AR Nr cR, .slice AO k cO] 31)) ∧ Hid (Only (fun b => b = v1.heap.size ∨ b = wh.heap.size ∨ w9.heap.size ≤ b) w9 wr) ∧ Hid (At_ (body l) q2 (.out k)) ∧ Hid (q2 ≤ 8 * (body l).length → ∀ m, m < k → X m = numD (body l) (.out m))) (fun vi _ => No - (intOf vi).toNat)
        case atStart => exact ⟨0, q1, none, 0, fun _ => 0, by omega, rfl, by omega, HG1, Lib.hid (World.ownsRow_nil _ _ _ _), HX1, Lib.hid (Only.refl _ _), Lib.hid (HAT1.out.same (by rw [bef_out0, HNR.out]; rfl)), Lib.hid (fun _ m hm => by omega)⟩
        case round =>
          obtain ⟨k, q2, AO, cO, X, hk, rfl, hq2, HGo, HWo, HXo, HOo, HATo, HGX⟩ := hrel
          obtain ⟨wo, hwo⟩ : ∃ x, x = wr := ⟨_, rfl⟩
          subst hwo
          have s1' : wo.cell? ⟨v1.heap.size + 1, 1, none⟩ = some (.int .i64 (No : Int)) := by rw [← HS1.out]; exact HGo.out.sh.cell (by omega)
          by_cases hlt : k < No
          · have hinn : (decH (body l)).inn (.out k) := by show k < tkv (body l) 48 16; have h := HNO.out; have h2 : (dec (body l)).no = tkv (body l) 48 16 := rfl; omega
            have HIN := Lib.hid hinn
            clear hinn
            go_wp2_with fail
            clear s1'
            have x7 : wo.cell? ⟨wh.heap.size, 7, none⟩ = some (.slice AO k cO) := by rw [cell_of_row wo wh.heap.size 7 _ _ _ HXo.out]; rfl
            have s0 : wo.cell? ⟨v1.heap.size + 1, 0, none⟩ = some (.int .i64 (shD (body l) 0)) := HGo.out.sh.cell (by omega)
            have s1 : wo.cell? ⟨v1.heap.size + 1, 1, none⟩ = some (.int .i64 (shD (body l) 1)) := HGo.out.sh.cell (by omega)
            have s2 : wo.cell? ⟨v1.heap.size + 1, 2, none⟩ = some (.int .i64 (shD (body l) 2)) := HGo.out.sh.cell (by omega)
            have s3 : wo.cell? ⟨v1.heap.size + 1, 3, none⟩ = some (.int .i64 (shD (body l) 3)) := HGo.out.sh.cell (by omega)
            have s4 : wo.cell? ⟨v1.heap.size + 1, 4, none⟩ = some (.int .i64 (shD (body l) 4)) := HGo.out.sh.cell (by omega)
            refine wp_region_z (fun w' => w'.cell? ⟨wh.heap.size, 7, none⟩ = some (.slice AO k cO) ∧ w'.cell? ⟨v1.heap.size + 1, 0, none⟩ = some (.int .i64 (shD (body l) 0)) ∧ w'.cell? ⟨v1.heap.size + 1, 1, none⟩ = some (.int .i64 (shD (body l) 1)) ∧ w'.cell? ⟨v1.heap.size + 1, 2, none⟩ = some (.int .i64 (shD (body l) 2)) ∧ w'.cell? ⟨v1.heap.size + 1, 3, none⟩ = some (.int .i64 (shD (body l) 3)) ∧ w'.cell? ⟨v1.heap.size + 1, 4, none⟩ = some (.int .i64 (shD (body l) 4))) [0, 1, 2, 3] [10] (by kernel_rfl) (by kernel_rfl) (by kernel_rfl) (by rfl) (fun _ _ _ _ e h => ⟨e.symm.trans h.1, h.2⟩) ⟨x7, s0, s1, s2, s3, s4⟩ ?_
            iterate 4
              refine Heads.step (v := ?_) rfl (by first | (go_simp; done) | rfl) (fun W hW => ?_) ?_
              rotate_left
              · (obtain ⟨t0, t1, t2, t3, t4, t5⟩ := hW; go_simp; try with_reducible rfl)
            refine AnyZ.one (i := 4) (by kernel_rfl) rfl (fun K hK => ?_)
            go_simp
            refine (refSources_neg (decH (body l)) wo.drew HSH.out).mono ?_
            rintro e wv ⟨rfl, hbv⟩
            have hbv' : Below wo.heap.size wo wv := ((Below.refl _ wo).drew).trans hbv
            have kp := Keeps.of_below hbv'
            replace x7 := kp _ _ x7
            replace s0 := kp _ _ s0
            replace s1 := kp _ _ s1
            replace s2 := kp _ _ s2
            replace s3 := kp _ _ s3
            replace s4 := kp _ _ s4
            have hgv := HGo.out.below hbv'
            have hov := HOo.out.call hbv'
            have hwv := own_below HWo.out hbv'
            have hxv := heap_below hbv' HXo.out
            clear kp hbv hbv'
            refine hK _ _ (fun _ => ⟨x7, s0, s1, s2, s3, s4⟩) ?_
            clear hK
            refine AnyZ.one (i := 5) (by kernel_rfl) rfl (fun K hK => ?_)
            go_simp
            have hsrc := (decH (body l)).src_le HSH.out 1
            have hwd := wid_le (n := (decH (body l)).src 1) (by omega) (by omega)
            refine (bits_any ((decH (body l)).src 1) wv (by omega) (by omega)).mono ?_
            rintro e wv2 ⟨rfl, ev⟩
            subst ev
            obtain ⟨nb, hnb⟩ : ∃ n : Nat, wid ((decH (body l)).src 1) = (n : Int) := ⟨_, (Int.toNat_of_nonneg hwd.1).symm⟩
            rw [hnb]
            have HNW : Hid (nb = (decH (body l)).wf (.out k)) := Lib.hid (by show nb = (wid ((decH (body l)).src 1)).toNat; rw [hnb]; omega)
            have hn16 : nb ≤ 16 := by omega
            clear hnb hwd hsrc
            refine hK _ _ (fun _ => ⟨x7, s0, s1, s2, s3, s4⟩) ?_
            clear hK
            refine AnyZ.one (i := 6) (by kernel_rfl) rfl (fun K hK => ?_)
            go_simp
            refine (refTake_any (body l) (some ⟨ba, oa, none⟩) c v1.heap.size q2 nb wv hgv.rd hnA.out (by omega) hn16).mono ?_
            rintro e wx2 ⟨rfl, hT, hO⟩
            obtain ⟨hat2, hnum2⟩ := HATo.out.step (x := .out k) HIN.out HNW.out (bef_out _ k)
            have hg2 := hgv.take hT hO hz1
            have HX2 := Lib.hid ((hO.block _ (Array.getElem?_eq_some_iff.1 hxv).1 (by omega)).trans hxv)
            have ho2 := hov.then_ hO (fun _ _ h => .inl h)
            have hw2 := own_only hwv hO (fun b hb e => by have := own_base hwv b hb; have e : b = v1.heap.size := e; omega)
            replace x7 := hO.cell x7 (by show ¬ (wh.heap.size = v1.heap.size); omega)
            replace s0 := hO.cell s0 (by show ¬ (v1.heap.size + 1 = v1.heap.size); omega)
            replace s1 := hO.cell s1 (by show ¬ (v1.heap.size + 1 = v1.heap.size); omega)
            replace s2 := hO.cell s2 (by show ¬ (v1.heap.size + 1 = v1.heap.size); omega)
            replace s3 := hO.cell s3 (by show ¬ (v1.heap.size + 1 = v1.heap.size); omega)
            replace s4 := hO.cell s4 (by show ¬ (v1.heap.size + 1 = v1.heap.size); omega)
            obtain ⟨r, hr⟩ : ∃ r, r = rdN (body l) (q2) nb := ⟨_, rfl⟩
            rw [← hr] at hnum2 ⊢
            have HAT2 := Lib.hid hat2; have HNUM2 := Lib.hid hnum2; have HG2 := Lib.hid hg2; have HO2 := Lib.hid ho2; have HW2 := Lib.hid hw2
            clear hat2 hnum2 hg2 ho2 hw2 hov hwv hgv hT hO hr hxv
            refine hK _ _ (fun _ => ⟨x7, s0, s1, s2, s3, s4⟩) ?_
            clear hK
            refine AnyZ.one (i := 7) (by kernel_rfl) rfl (fun K hK => ?_)
            go_simp
            have hbl : Below wx2.heap.size wx2 (wx2.alloc (.cells #[.int .i64 r] 3)) := (Below.refl _ _).alloc (Nat.le_refl _) _
            obtain ⟨_, _, hsc⟩ := src_news wx2 #[.int .i64 r] 3 1 1 rfl (by intro u hu; simp at hu; subst hu; rfl)
            obtain ⟨ad, hae, hsc⟩ := hsc (by omega)
            injection hae with hae; subst hae
            have kp := Keeps.of_below hbl
            replace x7 := kp _ _ x7
            replace s0 := kp _ _ s0
            replace s1 := kp _ _ s1
            replace s2 := kp _ _ s2
            replace s3 := kp _ _ s3
            replace s4 := kp _ _ s4
            have HG3 := Lib.hid (HG2.out.below hbl); have HO3 := Lib.hid (HO2.out.call hbl); have HW3 := Lib.hid (own_below HW2.out hbl); have HX3 := Lib.hid (heap_below hbl HX2.out)
            have hz3 : w9.heap.size ≤ (wx2.alloc (.cells #[.int .i64 r] 3)).heap.size := Nat.le_trans HO2.out.size hbl.size
            clear hbl kp
            generalize wx2.alloc (.cells #[.int .i64 r] 3) = w3 at *
            refine hK _ _ (fun _ => ⟨x7, s0, s1, s2, s3, s4⟩) ?_
            clear hK
            obtain ⟨A', c', w4, hap, hown, hon⟩ := run_append_s elOuts 29 HW3.out ⟨wx2.heap.size, 0, none⟩ 1 [.int .i64 r] rfl hsc (by intro u hu; simp at hu; subst hu; rfl) (by omega) hz3
            have hge : ∀ b, blockOf AO b → w9.heap.size ≤ b := own_base HW3.out
            have hX4 := (hon.block _ (Array.getElem?_eq_some_iff.1 HX3.out).1 (fun h => by have := hge _ h; omega)).trans HX3.out
            have HG4 := Lib.hid (HG3.out.only hon (fun b hb => by have := hge b hb; omega) hz1 hA1.out)
            have HO4 := Lib.hid (HO3.out.then_ hon (fun b _ hb => .inr (.inr (hge b hb))))
            replace x7 := hon.cell x7 (fun h => by have h2 : w9.heap.size ≤ wh.heap.size := hge _ h; omega)
            replace s0 := hon.cell s0 (fun h => by have h2 : w9.heap.size ≤ v1.heap.size + 1 := hge _ h; omega)
            replace s1 := hon.cell s1 (fun h => by have h2 : w9.heap.size ≤ v1.heap.size + 1 := hge _ h; omega)
            replace s2 := hon.cell s2 (fun h => by have h2 : w9.heap.size ≤ v1.heap.size + 1 := hge _ h; omega)
            replace s3 := hon.cell s3 (fun h => by have h2 : w9.heap.size ≤ v1.heap.size + 1 := hge _ h; omega)
            replace s4 := hon.cell s4 (fun h => by have h2 : w9.heap.size ≤ v1.heap.size + 1 := hge _ h; omega)
            clear hon hge hsc
            refine AnyZ.one (i := 8) (by kernel_rfl) rfl (fun K hK => ?_)
            rw [if_pos (by rfl)]
            refine wpZ_append1 (.tmp 154) (.tmp 160) 29 rfl rfl rfl hap ?_
            go_simp
            refine hK _ _ (fun _ => ⟨x7, s0, s1, s2, s3, s4⟩) ?_
            clear hK hap
            refine AnyZ.mid [9] [10] 1 rfl (by kernel_rfl) (by kernel_rfl) (by kernel_rfl) (fun _ _ _ _ e h => ⟨e.symm.trans h.1, h.2⟩) ⟨x7, s0, s1, s2, s3, s4⟩ ?_
            iterate 1
              refine Heads.step (v := ?_) rfl (by first | (go_simp; done) | rfl) (fun W hW => ?_) ?_
              rotate_left
              · (obtain ⟨t0, t1, t2, t3, t4, t5⟩ := hW; go_simp; try with_reducible rfl)
            have z6 : w4.frozen? ⟨wh.heap.size, 7, none⟩ = false := by simp [World.frozen?, hX4]
            refine AnyZ.one (i := 10) (by kernel_rfl) rfl (fun K hK => ?_)
            go_simp
            refine hK _ _ (fun h => by cases h) (AnyZ.done (by kernel_rfl) ?_)
            clear hK
            go_simp
            have hOs : Only (fun b => b = wh.heap.size) w4 (w4.setCell ⟨wh.heap.size, 7, none⟩ (.slice A' (k + 1) c')) := Only.setCell (p := ⟨wh.heap.size, 7, none⟩) (Only.refl (fun b => b = wh.heap.size) w4) (fun _ => rfl) _
            have HG5 := Lib.hid (HG4.out.only hOs (fun b hb => by omega) hz1 hA1.out)
            have HW5 := Lib.hid (own_only (by rw [flat_more1] at hown; exact hown) hOs (fun b hb e => own_type (e' := 31) hown (by decide) b _ (by have e : b = wh.heap.size := e; subst e; exact hX4) hb))
            have HX5 : Hid ((w4.setCell ⟨wh.heap.size, 7, none⟩ (.slice A' (k + 1) c')).heap[wh.heap.size]? = some (.cells #[.int .i64 (shD (body l) 0), .int .i64 (shD (body l) 1), .int .i64 (shD (body l) 2), .int .i64 (shD (body l) 3), .int .i64 (shD (body l) 4), .slice AC n cC, .slice AR Nr cR, .slice A' (k + 1) c'] 31)) := Lib.hid (by rw [set1_heap0 hX4]; simp)
            have HO5 := Lib.hid (HO4.out.then_ hOs (fun b _ hb => .inr (.inl hb)))
            clear hOs hX4 hown z6 x7 s0 s1 s2 s3 s4
            go_wp2_with fail
            go_roundw
            case rel => exact ⟨k + 1, q2 + nb, A', c', fun a => if a = k then (r : Int) else X a, by omega, by go_num, by omega, HG5, HW5, HX5, HO5, Lib.hid HAT2.out, Lib.hid (fun hle m hm => by
              by_cases hmk : m = k
              · subst hmk; simp only [if_true]
                rw [HNUM2.out hle]
              · simp only [if_neg hmk]; exact HGX.out (by omega) m (by omega))⟩
            case measure => simp [intOf]; omega
          · obtain rfl : k = No := by omega
            go_wp2_with fail
            go_meet
            exact ⟨q2, AO, cO, X, hq2, HGo, HWo, HXo, HOo, HATo, HGX⟩
      case rest =>
        obtain ⟨q2, AO, cO, X, hq2, HG2, HW2, HX2, HO2, HAT2, HGX⟩ := hcut
        have hz9c := HO2.out.size
        have HO12 := Lib.hid (HO1.out.then_ HO2.out (fun b _ hs => by omega))
        have HC2 := Lib.hid (HCO.out.only HO12.out (fun b hb hlt => by omega))
        have HR2 := Lib.hid (own_only HW1.out HO2.out (fun b hb hs => by have h1 := own_base HW1.out b hb; have h2 := own_lt HW1.out b hb; omega))
        have hOX := HO.out.then_ HO12.out (fun b _ hs => by omega)
        have hzw := HBX.out.size
        have HB2 := Lib.hid (HBX.out.trans (hOX.below (B := w.heap.size) (fun b _ hb => by omega) hzw))
        have hXc := HX2.out
        have x0 : wc.cell? ⟨wh.heap.size, 0, none⟩ = some (.int .i64 (shD (body l) 0)) := by rw [cell_of_row wc wh.heap.size 0 _ _ _ hXc]; rfl
        have x1 : wc.cell? ⟨wh.heap.size, 1, none⟩ = some (.int .i64 (shD (body l) 1)) := by rw [cell_of_row wc wh.heap.size 1 _ _ _ hXc]; rfl
        have x2 : wc.cell? ⟨wh.heap.size, 2, none⟩ = some (.int .i64 (shD (body l) 2)) := by rw [cell_of_row wc wh.heap.size 2 _ _ _ hXc]; rfl
        have x3 : wc.cell? ⟨wh.heap.size, 3, none⟩ = some (.int .i64 (shD (body l) 3)) := by rw [cell_of_row wc wh.heap.size 3 _ _ _ hXc]; rfl
        have x4 : wc.cell? ⟨wh.heap.size, 4, none⟩ = some (.int .i64 (shD (body l) 4)) := by rw [cell_of_row wc wh.heap.size 4 _ _ _ hXc]; rfl
        have x5 : wc.cell? ⟨wh.heap.size, 5, none⟩ = some (.slice AC n cC) := by rw [cell_of_row wc wh.heap.size 5 _ _ _ hXc]; rfl
        have x6 : wc.cell? ⟨wh.heap.size, 6, none⟩ = some (.slice AR Nr cR) := by rw [cell_of_row wc wh.heap.size 6 _ _ _ hXc]; rfl
        have x7 : wc.cell? ⟨wh.heap.size, 7, none⟩ = some (.slice AO No cO) := by rw [cell_of_row wc wh.heap.size 7 _ _ _ hXc]; rfl
        have co : wc.cell? ⟨v1.heap.size, 3, none⟩ = some (.bool (decide (8 * (body l).length < q2))) := HG2.out.rd.box.cell (k := 3) (by omega)
        have HL2 := Lib.hid HG2.out.lr
        have HM2 := Lib.hid (HM.out.keeps (Keeps.of_below HB2.out))
        clear hOX hXc HO12
        by_cases hov : 8 * (body l).length < q2
        case pos =>
          rw [decide_eq_true hov] at co
          have HGB : Hid (¬ GoodB l) := Lib.hid (fun h => by have h1 := h.fits; have h2 := HAT2.out.no hov; rw [body_len] at h2; omega)
          have hcj := cfJ_at (sh := shD (body l)) HC2.out HR2.out HW2.out
          have hfj := cfJ_fits (n := n) (Nr := Nr) (No := No) (cC := cC) (cR := cR) (cO := cO) (AC := AC) (AR := AR) (AO := AO) (rows := rows) (cc := cc) (CA := CA) (B := B) (L := L) (S := S) (I := I) (X := X) HSH.out (by omega) (fun j hj => Nat.le_trans (hrb j hj) hR5) hNr5 hNo5
          have HCJ := Lib.hid hcj; have HFJ := Lib.hid hfj
          clear hcj hfj
          go_wp2_with fail
          refine (refConfig_any _ AC AR AO wc HCJ.out HFJ.out rfl rfl rfl).mono ?_
          rintro e wq ⟨rfl, hbq⟩
          have kp := Keeps.of_below hbq
          replace co := kp _ _ co
          generalize tf (Cf.Ok _) = qq
          have HLq := Lib.hid (HL2.out.below hbq); have HBq := Lib.hid (HB2.out.trans (hbq.mono HB2.out.size))
          clear kp hbq x0 x1 x2 x3 x4 x5 x6 x7
          go_wp2_with fail
          refine wp_region_z (fun w' => w'.cell? ⟨v1.heap.size, 3, none⟩ = some (.bool true)) [0, 1, 2, 3, 4, 5, 6, 7, 8, 9, 10, 11, 12, 13, 14, 15] [] (by kernel_rfl) (by kernel_rfl) (by kernel_rfl) (by rfl) (fun _ _ _ _ e h => ⟨e.symm.trans h.1, h.2⟩) co ?_
          iterate 5
            refine Heads.step (v := ?_) rfl (by first | (go_simp; done) | rfl) (fun W hW => ?_) ?_
            rotate_left
            · (have t0 := hW; go_simp; try with_reducible rfl)
          iterate 2
            refine Heads.skip rfl (by first | (go_simp; done) | rfl) ?_
          iterate 2
            refine Heads.step (v := ?_) rfl (by first | (go_simp; done) | rfl) (fun W hW => ?_) ?_
            rotate_left
            · (have t0 := hW; go_simp; try with_reducible rfl)
          iterate 6
            refine Heads.skip rfl (by first | (go_simp; done) | rfl) ?_
          iterate 1
            refine Heads.step (v := ?_) rfl (by first | (go_simp; done) | rfl) (fun W hW => ?_) ?_
            rotate_left
            · (have t0 := hW; go_simp; try with_reducible rfl)
          refine AnyZ.done (by kernel_rfl) ?_
          go_simp
          replace HLq := Lib.hid HLq.out.drew; replace HBq := Lib.hid HBq.out.drew
          clear co
          generalize wq.drew = wz at *
          obtain ⟨⟨f0, f1⟩, fz⟩ := cells2 HLq.out.r2
          obtain ⟨⟨c0, c1, c2, c3, c4, c5, c6, c7⟩, hz⟩ := cells8 HLq.out.r0
          go_wp2_with fail
          refine wp_region_z (fun w' => w'.cell? ⟨w.heap.size + 1 + 1, 0, none⟩ = some (.int .i64 18) ∧ w'.cell? ⟨w.heap.size + 1 + 1, 1, none⟩ = some (.int .i64 0)) [0, 1] [] (by kernel_rfl) (by kernel_rfl) (by kernel_rfl) (by rfl) (fun _ _ _ _ e h => ⟨e.symm.trans h.1, h.2⟩) ⟨f0, f1⟩ ?_
          iterate 2
            refine Heads.step (v := ?_) rfl (by first | (go_simp; done) | rfl) (fun W hW => ?_) ?_
            rotate_left
            · (obtain ⟨t0, t1⟩ := hW; go_simp; try with_reducible rfl)
          refine AnyZ.one (i := 2) (by kernel_rfl) rfl (fun K hK => ?_)
          go_simp
          rw [fold_zap]
          obtain ⟨hL5, hB5⟩ := bad_zap HLq.out HBq.out (Nat.le_refl _)
          clear c0 c1 c2 c3 c4 c5 c6 c7 hz f0 f1 fz
          generalize (zap wz w.heap.size).drew = v5 at *
          obtain ⟨⟨f0, f1⟩, fz⟩ := cells2 hL5.r2
          refine hK _ _ (fun _ => ⟨f0, f1⟩) ?_
          clear hK
          obtain ⟨⟨d0, d1⟩, dz⟩ := cells2 hL5.r1
          refine AnyZ.one (i := 3) (by kernel_rfl) rfl (fun K hK => ?_)
          go_simp
          rw [fold2]
          obtain ⟨hL6, hB6⟩ := bad_set hL5 hB5 (Nat.le_refl _)
          clear d0 d1 dz f0 f1 fz
          generalize set2 v5 (w.heap.size + 1) (.int .i64 18) (.int .i64 0) = v6 at *
          refine hK _ _ (fun _ => ⟨hL6.f0, hL6.f1⟩) (AnyZ.done (by kernel_rfl) ?_)
          clear hK
          go_simp
          obtain ⟨⟨c0, c1, c2, c3, c4, c5, c6, c7⟩, hz⟩ := cells8 hL6.r0
          obtain ⟨⟨d0, d1⟩, dz⟩ := cells2 hL6.r1
          go_wp2_with fail
          exact ⟨rfl, _, outsR rfl rfl hL6.r0 hL6.r1, .inr ⟨HGB.out, rfl⟩, hB6⟩
        rw [decide_eq_false hov] at co
        have hqL : q2 ≤ 8 * (body l).length := by omega
        obtain ⟨hnC, hcols⟩ := HGC.out (by omega)
        subst hnC
        have hRS := HGS1.out (by omega)
        have hXS := HGX.out (by omega)
        have hTB : Hid (bitsD (body l) ≤ 8 * (l.length - 4)) := Lib.hid (by
          have h := HAT2.out.yes hqL
          have h2 : (decH (body l)).before (.out No) = (decH (body l)).flds := by rw [HNO.out]; exact bef_end _
          rw [h2] at h
          unfold bitsD
          rw [← h]; rw [body_len] at hqL; exact hqL)
        have hCe := HC.out; have hRe := HR.out; have hNre := HNR.out; have hNoe := HNO.out
        subst hCe hRe hNre hNoe
        have HRS := Lib.hid hRS; have HXS := Lib.hid hXS; have HCOLS := Lib.hid hcols
        have HATC := Lib.hid (dec_at HC2.out HCOLS.out HR2.out HRS.out HW2.out HXS.out)
        clear hRS hXS hcols
        have hat0 := HATC.out
        go_wp2_with fail
        refine (refConfig_any ((dec (body l)).lay AC AR AO cC cR cO CA cc) AC AR AO wc hat0 (dec_fits HSH.out) rfl rfl rfl).mono ?_
        rintro e wq ⟨rfl, hbq⟩
        have kp := Keeps.of_below hbq
        replace co := kp _ _ co
        replace x0 := kp _ _ x0; replace x1 := kp _ _ x1; replace x2 := kp _ _ x2; replace x3 := kp _ _ x3; replace x4 := kp _ _ x4; replace x5 := kp _ _ x5; replace x6 := kp _ _ x6; replace x7 := kp _ _ x7
        have HLq := Lib.hid (HL2.out.below hbq); have HBq := Lib.hid (HB2.out.trans (hbq.mono HB2.out.size)); have HMq := Lib.hid (HM2.out.keeps kp)
        have HCq := Lib.hid (HC2.out.below hbq); have HRq := Lib.hid (own_below HR2.out hbq); have HOq := Lib.hid (own_below HW2.out hbq)
        have hzq : wx.heap.size ≤ wq.heap.size := by have := hbq.size; omega
        clear kp hbq hat0 HL2 HB2 HM2 HC2 HR2 HW2 HATC HG2 HX2
        by_cases hok : ((dec (body l)).lay AC AR AO cC cR cO CA cc).Ok
        case neg =>
          rw [tf_no hok]
          have HGB : Hid (¬ GoodB l) := Lib.hid (fun h => hok (lay_ok.2 h.ok))
          clear hok x0 x1 x2 x3 x4 x5 x6 x7
          go_wp2_with fail
          refine wp_region_z (fun w' => w'.cell? ⟨v1.heap.size, 3, none⟩ = some (.bool false)) [0, 1, 2, 3, 4, 5, 6, 7, 8, 9, 10, 11, 12, 13, 14, 15] [] (by kernel_rfl) (by kernel_rfl) (by kernel_rfl) (by rfl) (fun _ _ _ _ e h => ⟨e.symm.trans h.1, h.2⟩) co ?_
          iterate 9
            refine Heads.step (v := ?_) rfl (by first | (go_simp; done) | rfl) (fun W hW => ?_) ?_
            rotate_left
            · (have t0 := hW; go_simp; try with_reducible rfl)
          iterate 6
            refine Heads.skip rfl (by first | (go_simp; done) | rfl) ?_
          iterate 1
            refine Heads.step (v := ?_) rfl (by first | (go_simp; done) | rfl) (fun W hW => ?_) ?_
            rotate_left
            · (have t0 := hW; go_simp; try with_reducible rfl)
          refine AnyZ.done (by kernel_rfl) ?_
          go_simp
          replace HLq := Lib.hid HLq.out.drew; replace HBq := Lib.hid HBq.out.drew
          clear co
          generalize wq.drew = wz at *
          obtain ⟨⟨f0, f1⟩, fz⟩ := cells2 HLq.out.r2
          obtain ⟨⟨c0, c1, c2, c3, c4, c5, c6, c7⟩, hz⟩ := cells8 HLq.out.r0
          go_wp2_with fail
          refine wp_region_z (fun w' => w'.cell? ⟨w.heap.size + 1 + 1, 0, none⟩ = some (.int .i64 18) ∧ w'.cell? ⟨w.heap.size + 1 + 1, 1, none⟩ = some (.int .i64 0)) [0, 1] [] (by kernel_rfl) (by kernel_rfl) (by kernel_rfl) (by rfl) (fun _ _ _ _ e h => ⟨e.symm.trans h.1, h.2⟩) ⟨f0, f1⟩ ?_
          iterate 2
            refine Heads.step (v := ?_) rfl (by first | (go_simp; done) | rfl) (fun W hW => ?_) ?_
            rotate_left
            · (obtain ⟨t0, t1⟩ := hW; go_simp; try with_reducible rfl)
          refine AnyZ.one (i := 2) (by kernel_rfl) rfl (fun K hK => ?_)
          go_simp
          rw [fold_zap]
          obtain ⟨hL5, hB5⟩ := bad_zap HLq.out HBq.out (Nat.le_refl _)
          clear c0 c1 c2 c3 c4 c5 c6 c7 hz f0 f1 fz
          generalize (zap wz w.heap.size).drew = v5 at *
          obtain ⟨⟨f0, f1⟩, fz⟩ := cells2 hL5.r2
          refine hK _ _ (fun _ => ⟨f0, f1⟩) ?_
          clear hK
          obtain ⟨⟨d0, d1⟩, dz⟩ := cells2 hL5.r1
          refine AnyZ.one (i := 3) (by kernel_rfl) rfl (fun K hK => ?_)
          go_simp
          rw [fold2]
          obtain ⟨hL6, hB6⟩ := bad_set hL5 hB5 (Nat.le_refl _)
          clear d0 d1 dz f0 f1 fz
          generalize set2 v5 (w.heap.size + 1) (.int .i64 18) (.int .i64 0) = v6 at *
          refine hK _ _ (fun _ => ⟨hL6.f0, hL6.f1⟩) (AnyZ.done (by kernel_rfl) ?_)
          clear hK
          go_simp
          obtain ⟨⟨c0, c1, c2, c3, c4, c5, c6, c7⟩, hz⟩ := cells8 hL6.r0
          obtain ⟨⟨d0, d1⟩, dz⟩ := cells2 hL6.r1
          go_wp2_with fail
          exact ⟨rfl, _, outsR rfl rfl hL6.r0 hL6.r1, .inr ⟨HGB.out, rfl⟩, hB6⟩
        rw [tf_yes hok]
        have HOK := Lib.hid hok
        clear hok
        have hcb : (convert 22 9 (.slice (some ⟨ba, oa, none⟩) l.length c)).run Tryd.prog wq.drew = .ok (.string (str l)) wq.drew := conv_mem (w := wq.drew) l.length c rfl (HMq.out.keeps (Keeps.of_below (Below.refl _ wq).drew)) (by omega)
        go_wp2_with fail
        refine wp_region_z (fun w' => w'.cell? ⟨v1.heap.size, 3, none⟩ = some (.bool false) ∧ w'.cell? ⟨wh.heap.size, 0, none⟩ = some (.int .i64 (shD (body l) 0)) ∧ w'.cell? ⟨wh.heap.size, 1, none⟩ = some (.int .i64 (shD (body l) 1)) ∧ w'.cell? ⟨wh.heap.size, 2, none⟩ = some (.int .i64 (shD (body l) 2)) ∧ w'.cell? ⟨wh.heap.size, 3, none⟩ = some (.int .i64 (shD (body l) 3)) ∧ w'.cell? ⟨wh.heap.size, 4, none⟩ = some (.int .i64 (shD (body l) 4)) ∧ w'.cell? ⟨wh.heap.size, 5, none⟩ = some (.slice AC (dec (body l)).nc cC) ∧ w'.cell? ⟨wh.heap.size, 6, none⟩ = some (.slice AR (dec (body l)).nr cR) ∧ w'.cell? ⟨wh.heap.size, 7, none⟩ = some (.slice AO (dec (body l)).no cO) ∧ (convert 22 9 (.slice (some ⟨ba, oa, none⟩) l.length c)).run Tryd.prog w' = .ok (.string (str l)) w') [0, 1, 2, 3, 4, 5, 6, 7, 8, 9, 12, 13] [] (by kernel_rfl) (by kernel_rfl) (by kernel_rfl) (by rfl) (fun _ _ _ _ e h => ⟨e.symm.trans h.1, h.2⟩) ⟨co, x0, x1, x2, x3, x4, x5, x6, x7, hcb⟩ ?_
        iterate 12
          refine Heads.step (v := ?_) rfl (by first | (go_simp; done) | rfl) (fun W hW => ?_) ?_
          rotate_left
          · (obtain ⟨t0, t1, t2, t3, t4, t5, t6, t7, t8, t9⟩ := hW; go_simp; try with_reducible rfl)
        refine AnyZ.one (i := 10) (by kernel_rfl) rfl (fun K hK => ?_)
        go_simp
        have hbd : Below wq.heap.size wq wq.drew := (Below.refl _ wq).drew
        refine (refEncode_any ((dec (body l)).lay AC AR AO cC cR cO CA cc) AC AR AO wq.drew (dec_at (HCq.out.below hbd) HCOLS.out (own_below HRq.out hbd) HRS.out (own_below HOq.out hbd) HXS.out) (dec_fits HSH.out) HOK.out rfl rfl rfl).mono ?_
        rintro e wn ⟨⟨An, cn, rfl, hby⟩, hbn⟩
        have hbn' : Below wq.heap.size wq wn := hbd.trans hbn
        have kp := Keeps.of_below hbn'
        replace co := kp _ _ co
        replace x0 := kp _ _ x0; replace x1 := kp _ _ x1; replace x2 := kp _ _ x2; replace x3 := kp _ _ x3; replace x4 := kp _ _ x4; replace x5 := kp _ _ x5; replace x6 := kp _ _ x6; replace x7 := kp _ _ x7
        have hcs := conv_mem _ cn rfl (Byt.mem hby) (List.length_pos_iff.2 (be4_ne2 ((dec (body l)).lay AC AR AO cC cR cO CA cc)))
        have hcb2 := conv_mem (w := wn) l.length c rfl (HMq.out.keeps kp) (by omega)
        replace HLq := Lib.hid (HLq.out.below hbn'); replace HBq := Lib.hid (HBq.out.trans (hbn'.mono HBq.out.size))
        replace HCq := Lib.hid (HCq.out.below hbn'); replace HRq := Lib.hid (own_below HRq.out hbn'); replace HOq := Lib.hid (own_below HOq.out hbn')
        replace hzq := Nat.le_trans hzq hbn'.size
        clear kp hbn hbn' hbd hby HMq
        refine hK _ _ (fun _ => ⟨co, x0, x1, x2, x3, x4, x5, x6, x7, hcb2⟩) ?_
        clear hK
        refine AnyZ.one (i := 11) (by kernel_rfl) rfl (fun K hK => ?_)
        go_simp
        refine hK _ _ (fun _ => ⟨co, x0, x1, x2, x3, x4, x5, x6, x7, hcb2⟩) ?_
        clear hK
        refine AnyZ.one (i := 14) (by kernel_rfl) rfl (fun K hK => ?_)
        go_simp
        refine hK _ _ (fun _ => ⟨co, x0, x1, x2, x3, x4, x5, x6, x7, hcb2⟩) ?_
        clear hK
        refine AnyZ.one (i := 15) (by kernel_rfl) rfl (fun K hK => ?_)
        go_simp
        refine hK _ _ (fun _ => ⟨co, x0, x1, x2, x3, x4, x5, x6, x7, hcb2⟩) (AnyZ.done (by kernel_rfl) ?_)
        clear hK hcs hcb hcb2
        go_simp
        rw [str_toList, str_toList, lay_text]
        by_cases htx : (dec (body l)).text = l
        case neg =>
          have hq : ((dec (body l)).text == l) = false := by simpa using htx
          have HGB : Hid (¬ GoodB l) := Lib.hid (fun h => htx h.text)
          simp only [hq, Bool.not_false]
          clear htx hq co x0 x1 x2 x3 x4 x5 x6 x7
          obtain ⟨⟨f0, f1⟩, fz⟩ := cells2 HLq.out.r2
          obtain ⟨⟨c0, c1, c2, c3, c4, c5, c6, c7⟩, hz⟩ := cells8 HLq.out.r0
          go_wp2_with fail
          refine wp_region_z (fun w' => w'.cell? ⟨w.heap.size + 1 + 1, 0, none⟩ = some (.int .i64 18) ∧ w'.cell? ⟨w.heap.size + 1 + 1, 1, none⟩ = some (.int .i64 0)) [0, 1] [] (by kernel_rfl) (by kernel_rfl) (by kernel_rfl) (by rfl) (fun _ _ _ _ e h => ⟨e.symm.trans h.1, h.2⟩) ⟨f0, f1⟩ ?_
          iterate 2
            refine Heads.step (v := ?_) rfl (by first | (go_simp; done) | rfl) (fun W hW => ?_) ?_
            rotate_left
            · (obtain ⟨t0, t1⟩ := hW; go_simp; try with_reducible rfl)
          refine AnyZ.one (i := 2) (by kernel_rfl) rfl (fun K hK => ?_)
          go_simp
          rw [fold_zap]
          obtain ⟨hL5, hB5⟩ := bad_zap HLq.out HBq.out (Nat.le_refl _)
          clear c0 c1 c2 c3 c4 c5 c6 c7 hz f0 f1 fz
          generalize (zap wn w.heap.size).drew = v5 at *
          obtain ⟨⟨f0, f1⟩, fz⟩ := cells2 hL5.r2
          refine hK _ _ (fun _ => ⟨f0, f1⟩) ?_
          clear hK
          obtain ⟨⟨d0, d1⟩, dz⟩ := cells2 hL5.r1
          refine AnyZ.one (i := 3) (by kernel_rfl) rfl (fun K hK => ?_)
          go_simp
          rw [fold2]
          obtain ⟨hL6, hB6⟩ := bad_set hL5 hB5 (Nat.le_refl _)
          clear d0 d1 dz f0 f1 fz
          generalize set2 v5 (w.heap.size + 1) (.int .i64 18) (.int .i64 0) = v6 at *
          refine hK _ _ (fun _ => ⟨hL6.f0, hL6.f1⟩) (AnyZ.done (by kernel_rfl) ?_)
          clear hK
          go_simp
          obtain ⟨⟨c0, c1, c2, c3, c4, c5, c6, c7⟩, hz⟩ := cells8 hL6.r0
          obtain ⟨⟨d0, d1⟩, dz⟩ := cells2 hL6.r1
          go_wp2_with fail
          exact ⟨rfl, _, outsR rfl rfl hL6.r0 hL6.r1, .inr ⟨HGB.out, rfl⟩, hB6⟩
        have hq : ((dec (body l)).text == l) = true := by simpa using htx
        have HGOOD : Hid (GoodB l) := Lib.hid ⟨h18, HMG.out, HCF.out, HSH.out, hTB.out, lay_ok.1 HOK.out, htx⟩
        simp only [hq, Bool.not_true]
        clear htx hq co
        obtain ⟨⟨c0, c1, c2, c3, c4, c5, c6, c7⟩, hz⟩ := cells8 HLq.out.r0
        obtain ⟨⟨d0, d1⟩, dz⟩ := cells2 HLq.out.r1
        go_wp2_with fail
        rw [fold8, fold2]
        have ho1 := set8_only (Only.refl (fun k => k = w.heap.size) wn) (fun _ => rfl) (.int .i64 (shD (body l) 0)) (.int .i64 (shD (body l) 1)) (.int .i64 (shD (body l) 2)) (.int .i64 (shD (body l) 3)) (.int .i64 (shD (body l) 4)) (.slice AC (tkv (body l) 96 16) cC) (.slice AR (dec (body l)).nr cR) (.slice AO (dec (body l)).no cO)
        have hr0 := set8_heap HLq.out.r0 (.int .i64 (shD (body l) 0)) (.int .i64 (shD (body l) 1)) (.int .i64 (shD (body l) 2)) (.int .i64 (shD (body l) 3)) (.int .i64 (shD (body l) 4)) (.slice AC (tkv (body l) 96 16) cC) (.slice AR (dec (body l)).nr cR) (.slice AO (dec (body l)).no cO)
        have hB8 := set8_below (b := w.heap.size) HBq.out (Nat.le_refl _) (.int .i64 (shD (body l) 0)) (.int .i64 (shD (body l) 1)) (.int .i64 (shD (body l) 2)) (.int .i64 (shD (body l) 3)) (.int .i64 (shD (body l) 4)) (.slice AC (tkv (body l) 96 16) cC) (.slice AR (dec (body l)).nr cR) (.slice AO (dec (body l)).no cO)
        clear c0 c1 c2 c3 c4 c5 c6 c7 hz d0 d1 dz x0 x1 x2 x3 x4 x5 x6 x7
        generalize set8 wn w.heap.size (.int .i64 (shD (body l) 0)) (.int .i64 (shD (body l) 1)) (.int .i64 (shD (body l) 2)) (.int .i64 (shD (body l) 3)) (.int .i64 (shD (body l) 4)) (.slice AC (tkv (body l) 96 16) cC) (.slice AR (dec (body l)).nr cR) (.slice AO (dec (body l)).no cO) = wy at *
        have hr1 := (ho1.block _ (Array.getElem?_eq_some_iff.1 HLq.out.r1).1 (by omega)).trans HLq.out.r1
        have ho2 := set2_only wy (w.heap.size + 1) (.int .i64 0) (.int .i64 0)
        have hf0 := (ho2.block _ (Array.getElem?_eq_some_iff.1 hr0).1 (by omega)).trans hr0
        have hf1 := set2_heap hr1 (.int .i64 0) (.int .i64 0)
        have hB9 := (hB8.setCell (p := ⟨w.heap.size + 1, 0, none⟩) (by show w.heap.size ≤ w.heap.size + 1; omega) (.int .i64 0)).setCell (p := ⟨w.heap.size + 1, 1, none⟩) (by show w.heap.size ≤ w.heap.size + 1; omega) (.int .i64 0)
        rw [fold2] at hB9
        have hOO : Only (fun k => k = w.heap.size ∨ k = w.heap.size + 1) wn (set2 wy (w.heap.size + 1) (.int .i64 0) (.int .i64 0)) := (ho1.mono (fun k _ h => .inl h)).then_ ho2 (fun k _ h => .inr h)
        generalize set2 wy (w.heap.size + 1) (.int .i64 0) (.int .i64 0) = wz at *
        have hzw8 : wx.heap.size ≤ w8.heap.size := hzx8
        have hAtF := dec_at (HCq.out.only hOO (fun b hb _ => by omega)) HCOLS.out (own_only HRq.out hOO (fun b hb hs => by have := own_base HRq.out b hb; omega)) HRS.out (own_only HOq.out hOO (fun b hb hs => by have := own_base HOq.out b hb; omega)) HXS.out
        exact ⟨rfl, _, outsR rfl rfl hf0 hf1, .inl ⟨HGOOD.out, AC, AR, AO, cC, cR, cO, CA, cc, hAtF, rfl⟩, hB9⟩
end Go.Proofs.YtbnjbclkmjjkhaaDoor
