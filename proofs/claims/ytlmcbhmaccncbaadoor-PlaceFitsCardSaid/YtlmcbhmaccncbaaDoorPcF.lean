/- place.Fit, walked: the configuration, or the fault, just where the tables fit or do not. Conditions: the net is valid and lies in memory. -/
import Derived.Test.YtlmcbhmaccncbaaDoorPcE
namespace Go.Proofs.YtlmcbhmaccncbaaDoor
open Go.RowKit

set_option maxRecDepth 100000 in
set_option maxHeartbeats 16000000 in
theorem fit_any (g : Tb) (a : Ta) (s : Nat → Int) (w : World) (hg : g.At w a.A1 a.A2 a.A3 a.A4) (hv : g.Valid) (hfit : g.Fits) :
    Calls Tryd.prog 7 #[.agg #[.int .i64 g.ins, .slice a.A1 g.n1 a.c1, .slice a.A2 g.n2 a.c2, .slice a.A3 g.n3 a.c3, .slice a.A4 g.n4 a.c4], .agg #[.int .i64 (s 0), .int .i64 (s 1), .int .i64 (s 2), .int .i64 (s 3), .int .i64 (s 4)]] w fun e w' =>
      ((g.FitOk s ∧ ∃ AC AR AO cC cR cO CA cc, ({ g.place s with AC := AC, AR := AR, AO := AO, cC := cC, cR := cR, cO := cO, CA := CA, cc := cc } : Cf).At w' ∧ e = .returned (.tuple #[.agg #[.int .i64 (s 0), .int .i64 (s 1), .int .i64 (s 2), .int .i64 (s 3), .int .i64 (s 4), .slice AC (s 4).toNat cC, .slice AR (s 2).toNat cR, .slice AO (s 1).toNat cO], .nilIface])) ∨
       (¬ g.FitOk s ∧ ∃ b, e = .returned (.tuple #[.agg #[.int .i64 0, .int .i64 0, .int .i64 0, .int .i64 0, .int .i64 0, .slice none 0 0, .slice none 0 0, .slice none 0 0], .iface 57 (.pointer (some ⟨b, 0, none⟩))]) ∧ w'.cell? ⟨b, 0, none⟩ = some (.int .i64 17) ∧ w'.cell? ⟨b, 1, none⟩ = some (.int .i64 0))) ∧ Below w.heap.size w w' := by
  have HG := Lib.hid hg; have HV := Lib.hid hv; have HFIT := Lib.hid hfit
  clear hg hv hfit
  have hmm := @run_makeMap Tryd.prog
  go_enter Tryd.func7, Tryd.ntmps7
  go_upto_region 3 with (fail)
  clear hmm
  rw [show (((((w.alloc (.cells #[.int .i64 g.ins, .slice a.A1 g.n1 a.c1, .slice a.A2 g.n2 a.c2, .slice a.A3 g.n3 a.c3, .slice a.A4 g.n4 a.c4] 26)).alloc (.cells #[.int .i64 (s 0), .int .i64 (s 1), .int .i64 (s 2), .int .i64 (s 3), .int .i64 (s 4)] 28)).alloc (.cells #[.int .i64 0, .int .i64 0, .int .i64 0, .int .i64 0, .int .i64 0, .slice none 0 0, .slice none 0 0, .slice none 0 0] 36)).alloc (.map #[] 0)).alloc (.cells #[.int .i64 g.ins, .slice a.A1 g.n1 a.c1, .slice a.A2 g.n2 a.c2, .slice a.A3 g.n3 a.c3, .slice a.A4 g.n4 a.c4, .int .i64 (s 0), .int .i64 (s 1), .int .i64 (s 2), .int .i64 (s 3), .int .i64 (s 4), .int .i64 0, .slice none 0 0, .slice none 0 0, .map (some (w.heap.size + 1 + 1 + 1))] 56)).alloc (.cells #[.int .i64 17, .int .i64 0] 59) = fitW g a s w from rfl]
  obtain ⟨hb6, h1, h2, h4, hm, hP, hF, hz⟩ := fitW_facts g a s w
  have hb6' := hb6
  generalize fitW g a s w = w6 at *
  obtain ⟨bF, hbF⟩ : ∃ b, b = w.heap.size + 1 + 1 + 1 + 1 + 1 := ⟨_, rfl⟩
  rw [← hbF] at hF ⊢
  obtain ⟨P, hbP⟩ : ∃ b, b = w.heap.size + 1 + 1 + 1 + 1 := ⟨_, rfl⟩
  rw [← hbP] at hP ⊢
  obtain ⟨bm, hbm⟩ : ∃ b, b = w.heap.size + 1 + 1 + 1 := ⟨_, rfl⟩
  rw [← hbm] at hm hP ⊢
  obtain ⟨b4, hb4⟩ : ∃ b, b = w.heap.size + 1 + 1 := ⟨_, rfl⟩
  rw [← hb4] at h4 ⊢
  obtain ⟨b2, hb2⟩ : ∃ b, b = w.heap.size + 1 := ⟨_, rfl⟩
  rw [← hb2] at h2 ⊢
  obtain ⟨b1, hb1⟩ : ∃ b, b = w.heap.size := ⟨_, rfl⟩
  rw [← hb1] at h1 ⊢
  have HBS : Hid (b1 = w.heap.size ∧ b2 = w.heap.size + 1 ∧ b4 = w.heap.size + 2 ∧ bm = w.heap.size + 3 ∧ P = w.heap.size + 4 ∧ bF = w.heap.size + 5 ∧ w6.heap.size = w.heap.size + 6) := Lib.hid (by omega)
  have HST : Hid (∀ wr, Only (fun b => b = P ∨ b = bm) w6 wr → (wr.heap[b1]? = some (.cells #[.int .i64 g.ins, .slice a.A1 g.n1 a.c1, .slice a.A2 g.n2 a.c2, .slice a.A3 g.n3 a.c3, .slice a.A4 g.n4 a.c4] 26) ∧ wr.heap[b2]? = some (.cells #[.int .i64 (s 0), .int .i64 (s 1), .int .i64 (s 2), .int .i64 (s 3), .int .i64 (s 4)] 28)) ∧ wr.heap[b4]? = some (.cells #[.int .i64 0, .int .i64 0, .int .i64 0, .int .i64 0, .int .i64 0, .slice none 0 0, .slice none 0 0, .slice none 0 0] 36) ∧ wr.heap[bF]? = some (.cells #[.int .i64 17, .int .i64 0] 59) ∧ Below w.heap.size w wr) := Lib.hid (fun wr h => by
    have hB := HBS.out
    exact ⟨⟨(h.block b1 (by omega) (by omega)).trans h1, (h.block b2 (by omega) (by omega)).trans h2⟩, (h.block b4 (by omega) (by omega)).trans h4, (h.block bF (by omega) (by omega)).trans hF, hb6.trans (h.below (B := w.heap.size) (fun b _ e => by omega) (by omega))⟩)
  have HPX := Lib.hid hP; have HMX := Lib.hid hm; have HB6 := Lib.hid hb6
  clear hbF hbP hbm hb4 hb2 hb1 hb6' hz hF hP hm h4 h2 h1 hb6
  have hst := HST.out w6 (Only.refl _ _)
  obtain ⟨t0, t1, t2, t3, t4⟩ := cell5 hst.1.1
  obtain ⟨y0, y1, y2, y3, y4⟩ := cell5 hst.1.2
  clear hst
  go_wp2_with fail
  refine (fits_any g a s w6 HV.out).mono ?_
  rintro e w7 ⟨rfl, hb7⟩
  have HB7 := Lib.hid hb7
  clear t0 t1 t2 t3 t4 y0 y1 y2 y3 y4 hb7
  have HO7 : Hid (Only (fun b => b = P ∨ b = bm) w6 w7) := Lib.hid ((Only.refl _ _).call HB7.out)
  by_cases hsf : g.ShapeFor s
  rotate_left
  · rw [tf_no hsf]
    obtain ⟨_, h4, hF, hbw⟩ := HST.out w7 HO7.out
    have HNO : Hid (¬ g.FitOk s) := Lib.hid (fun h => hsf h.sh)
    have HF := Lib.hid hF; have HBW := Lib.hid hbw
    clear hF hbw hsf
    have hz := thaw_of h4
    have H4 := Lib.hid h4
    obtain ⟨⟨z0, z1, z2, z3, z4⟩, z5, z6, z7⟩ := cell8 h4
    clear h4
    go_wp2_with fail
    rw [fold_zap]
    have hh : (zap w7 b4).heap[b4]? = some (.cells #[.int .i64 0, .int .i64 0, .int .i64 0, .int .i64 0, .int .i64 0, .slice none 0 0, .slice none 0 0, .slice none 0 0] 36) := set8_heap H4.out _ _ _ _ _ _ _ _
    have hf := zap_fault (b4 := b4) (by have := HBS.out; omega) HF.out
    have hbz : Below w.heap.size w (zap w7 b4) := set8_below HBW.out (by have := HBS.out; omega) _ _ _ _ _ _ _ _
    clear hz z0 z1 z2 z3 z4 z5 z6 z7
    generalize zap w7 b4 = wz at *
    try simp only [Exit.inBlock, Exit.then]
    refine bodyPost_ret (outsF rfl rfl hh) rfl ?_
    exact ⟨.inr ⟨HNO.out, bF, rfl, hf.1, hf.2⟩, hbz⟩
  · rw [tf_yes hsf]
    have hs0 := hsf.sh.s0; have hs1 := hsf.sh.s1; have hs2 := hsf.sh.s2; have hs3 := hsf.sh.s3; have hs4 := hsf.sh.s4
    have hsi := hsf.i; have hso := hsf.o; have hsr := hsf.r
    have HSF := Lib.hid hsf
    have hP7 := (HB7.out.block P (by have := HBS.out; omega)).trans HPX.out
    have hM7 := (HB7.out.block bm (by have := HBS.out; omega)).trans HMX.out
    have HP7 := Lib.hid hP7; have HM7 := Lib.hid hM7
    clear hsf hP7 hM7
    go_wp2_with fail
    refine (look_any g a s P bm w w7 HG.out HV.out HFIT.out (HST.out w7 HO7.out).2.2.2 (by have := HBS.out; omega) HP7.out hs4).mono ?_
    rintro e w8 ⟨⟨rfl, hlk⟩, ho8⟩
    have HO8 : Hid (Only (fun b => b = P ∨ b = bm) w6 w8) := Lib.hid (HO7.out.then_ ho8 (fun b _ e => .inl e))
    have HM8 := Lib.hid ((ho8.block bm (by have := HBS.out; have := HB7.out.size; omega) (by have := HBS.out; omega)).trans HM7.out)
    by_cases hlo : g.LookOk s
    rotate_left
    · rw [tf_no hlo]
      obtain ⟨_, h4, hF, hbw⟩ := HST.out w8 HO8.out
      have HNO : Hid (¬ g.FitOk s) := Lib.hid (fun h => hlo h.look)
      have HF := Lib.hid hF; have HBW := Lib.hid hbw
      clear hF hbw hlo hlk ho8
      have hz := thaw_of h4
      have H4 := Lib.hid h4
      obtain ⟨⟨z0, z1, z2, z3, z4⟩, z5, z6, z7⟩ := cell8 h4
      clear h4
      go_wp2_with fail
      rw [fold_zap]
      have hh : (zap w8 b4).heap[b4]? = some (.cells #[.int .i64 0, .int .i64 0, .int .i64 0, .int .i64 0, .int .i64 0, .slice none 0 0, .slice none 0 0, .slice none 0 0] 36) := set8_heap H4.out _ _ _ _ _ _ _ _
      have hf := zap_fault (b4 := b4) (by have := HBS.out; omega) HF.out
      have hbz : Below w.heap.size w (zap w8 b4) := set8_below HBW.out (by have := HBS.out; omega) _ _ _ _ _ _ _ _
      clear hz z0 z1 z2 z3 z4 z5 z6 z7
      generalize zap w8 b4 = wz at *
      try simp only [Exit.inBlock, Exit.then]
      refine bodyPost_ret (outsF rfl rfl hh) rfl ?_
      exact ⟨.inr ⟨HNO.out, bF, rfl, hf.1, hf.2⟩, hbz⟩
    · rw [tf_yes hlo]
      obtain ⟨bd, bl, hbd, hbl, hne, hP8, hD8, hL8⟩ := hlk hlo
      have HLO := Lib.hid hlo
      have hB8 := HBS.out
      have hs8 := HO8.out.size
      have HBK := Lib.hid (Book.of_heap HM8.out)
      have HKP : Hid (∀ wr, Only (fun b => b = bm) w8 wr → (wr.heap[P]? = some (plO g a s (g.pre : Int) (.slice (some ⟨bd, 0, none⟩) g.num g.num) (.slice (some ⟨bl, 0, none⟩) g.num g.num) bm) ∧ Ints wr bd g.num g.D ∧ Ints wr bl g.num (g.L s)) ∧ Only (fun b => b = P ∨ b = bm) w6 wr) := Lib.hid (fun wr h => by
        have hs7 := HB7.out.size
        exact ⟨⟨(h.block P (by omega) (by omega)).trans hP8, Arr.only hD8 h (by omega), Arr.only hL8 h (by omega)⟩, HO8.out.then_ h (fun b _ e => .inr e)⟩)
      clear hlk hlo hP8 hD8 hL8 ho8 hne hbd hbl HP7 HM7 HO7 HPX HMX HM8
      obtain ⟨I, hI⟩ : ∃ I : Nat, g.ins = I := ⟨g.ins.toNat, by have := HV.out.i0; omega⟩
      have HI := Lib.hid hI
      have hI5 : (I : Int) ≤ s 0 := by omega
      obtain ⟨⟨t0, t1, t2, t3, t4⟩, ⟨y0, y1, y2, y3, y4⟩⟩ := And.intro (cell5 (HST.out w8 HO8.out).1.1) (cell5 (HST.out w8 HO8.out).1.2)
      rw [hI] at t0
      have HBK0 : Hid (Book w8 bm 0 (g.bk s 0 (2 + 0))) := Lib.hid (HBK.out.congr (fun c' x' _ _ => bk_zero c' x'))
      have HOS : Hid (Only (fun b => b = bm) w8 w8) := Lib.hid (Only.refl _ _)
      clear hI hB8 hs8 HBK
      go_wp2_with fail
      clear t0 t1 t2 t3 t4 y0 y1 y2 y3 y4
      go_loopw [39] (fun vi wr => ∃ i : Nat, i ≤ I ∧ vi = .int .i64 i ∧ Hid (Book wr bm i (g.bk s 0 (2 + i))) ∧ Hid (Only (fun b => b = bm) w8 wr)) (fun vi _ => I - (intOf vi).toNat)
      case atStart => exact ⟨0, by omega, rfl, HBK0, HOS⟩
      case round =>
        clear HBK0 HOS
        obtain ⟨i, hi, rfl, HBi, HOi⟩ := hrel
        obtain ⟨_, _, _, _, _, x13⟩ := pl_cell (HKP.out wr HOi.out).1.1
        by_cases hlt : i < I
        · -- QB l1
          obtain ⟨y, hy⟩ : ∃ y : Nat, y = 2 + i := ⟨_, rfl⟩
          have ew : IntKind.i64.wrap (2 + (i : Int)) = (y : Int) := by rw [IntKind.wrap_i64]; omega
          have HY := Lib.hid hy
          have hyb : y ≤ 1000 := by omega
          have HSL : Hid (g.sel s 0 y = y) := Lib.hid (sel_at0 (by have := HI.out; omega))
          clear hy
          go_wp2_with (at_mapUpdate; refine wpList_book rfl (.tmp 45) (.tmp 48) (.tmp 50) rfl HBi.out (by unfold maxLen; omega) (c := 0) (y := y) (by omega) (by omega) (z := (y : Int)) (wf_of (by omega) (by omega)) rfl rfl rfl ?_; intro wm hBm hOm)
          have h1 : Book wm bm (i + 1) (g.bk s 0 (2 + (i + 1))) := hBm.congr (fun c' x' _ _ => by
            show g.bk s 0 (2 + i + 1) c' x' = _
            rw [← HY.out, bk_put (by have := HY.out; omega), HSL.out])
          have h2 := HOi.out.trans hOm
          clear hBm hOm ew x13
          go_roundw
          case rel => exact ⟨i + 1, by omega, by go_num, Lib.hid h1, Lib.hid h2⟩
          case measure => simp [intOf]; omega
          -- QE l1
        · obtain rfl : I = i := by omega
          obtain ⟨w9, hw9⟩ : ∃ x, x = wr := ⟨_, rfl⟩
          subst hw9
          obtain ⟨⟨t0, t1, t2, t3, t4⟩, ⟨y0, y1, y2, y3, y4⟩⟩ := And.intro (cell5 (HST.out w9 (HKP.out w9 HOi.out).2).1.1) (cell5 (HST.out w9 (HKP.out w9 HOi.out).2).1.2)
          rw [HI.out] at t0
          have HB9 : Hid (Book w9 bm (I + 0) (g.bk s 0 (2 + I + 0))) := HBi
          have hn1 : (g.n1 : Int) ≤ 500 := by omega
          clear HBi x13
          go_wp2_with fail
          clear t0 t1 t2 t3 t4 y0 y1 y2 y3 y4
          go_loopw [55] (fun vi wr => ∃ i : Nat, i ≤ g.n1 ∧ vi = .int .i64 i ∧ Hid (Book wr bm (I + i) (g.bk s 0 (2 + I + i))) ∧ Hid (Only (fun b => b = bm) w8 wr)) (fun vi _ => g.n1 - (intOf vi).toNat)
          case atStart => exact ⟨0, by omega, rfl, HB9, HOi⟩
          case round =>
            clear HB9 HOi
            obtain ⟨i, hi, rfl, HBi, HOi⟩ := hrel
            obtain ⟨⟨t0, t1, t2, t3, t4⟩, ⟨y0, y1, y2, y3, y4⟩⟩ := And.intro (cell5 (HST.out wr (HKP.out wr HOi.out).2).1.1) (cell5 (HST.out wr (HKP.out wr HOi.out).2).1.2)
            rw [HI.out] at t0
            obtain ⟨_, _, _, _, _, x13⟩ := pl_cell (HKP.out wr HOi.out).1.1
            by_cases hlt : i < g.n1
            · -- QB l2
              obtain ⟨y, hy⟩ : ∃ y : Nat, y = 2 + I + i := ⟨_, rfl⟩
              obtain ⟨z, hz⟩ : ∃ z : Nat, z = 2 + (s 0).toNat + i := ⟨_, rfl⟩
              have ew1 : IntKind.i64.wrap (2 + (I : Int)) = 2 + (I : Int) := by rw [IntKind.wrap_i64]; omega
              have ew2 : IntKind.i64.wrap (2 + (I : Int) + (i : Int)) = (y : Int) := by rw [IntKind.wrap_i64]; omega
              have ew3 : IntKind.i64.wrap (2 + s 0) = 2 + s 0 := by rw [IntKind.wrap_i64]; omega
              have ew4 : IntKind.i64.wrap (2 + s 0 + (i : Int)) = (z : Int) := by rw [IntKind.wrap_i64]; omega
              have HY := Lib.hid hy
              have hyb : y ≤ 2000 := by omega
              have hzb : z ≤ 2000 := by omega
              have HSL : Hid (g.sel s 0 y = z) := Lib.hid (by have h := sel_at1 (g := g) (s := s) hlt; rw [show g.ins.toNat = I by have := HI.out; omega] at h; rw [hy, hz]; exact h)
              clear hy hz
              go_wp2_with fail
              refine wp_region_z (fun w' => w'.cell? ⟨P, 13, none⟩ = some (.map (some bm)) ∧ w'.cell? ⟨b1, 0, none⟩ = some (.int .i64 (I : Int)) ∧ w'.cell? ⟨b2, 0, none⟩ = some (.int .i64 (s 0))) [0, 1, 2, 3, 4, 5, 6, 7, 8, 9, 10, 11, 12, 13, 14] [15] (by kernel_rfl) (by kernel_rfl) (by kernel_rfl) (by rfl) (fun _ _ _ _ e h => ⟨e.symm.trans h.1, h.2⟩) ⟨x13, t0, y0⟩ ?_
              iterate 15
                refine Heads.step (v := ?_) rfl (by first | (go_simp; done) | rfl) (fun W hW => ?_) ?_
                rotate_left
                · (obtain ⟨t0, t1, t2⟩ := hW; go_simp; try with_reducible rfl)
              obtain ⟨wm, hrun, hBm, hgm⟩ := Book.store (w := wr.drew) (b := bm) (n := I + i) (V := g.bk s 0 (2 + I + i)) HBi.out (by unfold maxLen; omega) (c := 0) (x := y) (by omega) (by omega) (v := (z : Int)) (wf_of (by omega) (by omega))
              have hrun2 : (Instr.mapUpdate 54 (.map (some bm)) (.agg #[.int .i64 0, .int .i64 (y : Int)]) (.int .i64 (z : Int))).run Tryd.prog wr.drew = .ok () wm := hrun
              have hOm : Only (fun k => k = bm) wr.drew wm := ⟨hgm.os, hgm.tape, hgm.output, hgm.size, fun k hk hne => hgm.block k hk (fun e => hne (by injection e))⟩
              clear hrun hgm
              refine AnyZ.one (i := 15) (by kernel_rfl) rfl (fun K hK => ?_)
              go_simp
              refine hK _ _ (fun h => by cases h) (AnyZ.done (by kernel_rfl) ?_)
              clear hK
              go_simp
              have h1 : Book wm bm (I + (i + 1)) (g.bk s 0 (2 + I + (i + 1))) := hBm.congr (fun c' x' _ _ => by
                show g.bk s 0 (2 + I + i + 1) c' x' = _
                rw [← HY.out, bk_put (by have := HY.out; omega), HSL.out])
              have h2 := HOi.out.drew.trans hOm
              clear hBm hOm hrun2 ew1 ew2 ew3 ew4 x13 t0 t1 t2 t3 t4 y0 y1 y2 y3 y4
              go_wp2_with fail
              go_roundw
              case rel => exact ⟨i + 1, by omega, by go_num, Lib.hid h1, Lib.hid h2⟩
              case measure => simp [intOf]; omega
              -- QE l2
            · obtain hin : i = g.n1 := by omega
              obtain ⟨w10, hw10⟩ : ∃ x, x = wr := ⟨_, rfl⟩
              subst hw10
              have HB10 : Hid (Book w10 bm 1000 (g.bk s 1 2)) := Lib.hid (by
                have hp : g.pre = 2 + I + i := by have := HI.out; unfold Tb.pre; omega
                refine (HBi.out.congr (fun c' x' _ _ => bk_next (c := 0) (X := 2 + I + i) (fun x hx hx2 => sel_at2 (by omega) hx2) c' x')).mono ?_
                omega)
              have HO10 := HOi
              clear HBi HOi x13 t0 t1 t2 t3 t4 hin hi
              go_upto_region 16 with (fail)
              have hbl1 : Below w10.heap.size w10 (w10.alloc (.cells #[.int .i64 (s 0), .int .i64 (s 1), .int .i64 (s 2), .int .i64 (s 3), .int .i64 (s 4), .slice none 0 0, .slice none 0 0, .slice none 0 0] 36)) := (Below.refl _ _).alloc (Nat.le_refl _) _
              have hXC : (w10.alloc (.cells #[.int .i64 (s 0), .int .i64 (s 1), .int .i64 (s 2), .int .i64 (s 3), .int .i64 (s 4), .slice none 0 0, .slice none 0 0, .slice none 0 0] 36)).heap[w10.heap.size]? = some (.cells #[.int .i64 (s 0), .int .i64 (s 1), .int .i64 (s 2), .int .i64 (s 3), .int .i64 (s 4), .slice none 0 0, .slice none 0 0, .slice none 0 0] 36) := heap_alloc_new w10 _
              have hsz1 : (w10.alloc (.cells #[.int .i64 (s 0), .int .i64 (s 1), .int .i64 (s 2), .int .i64 (s 3), .int .i64 (s 4), .slice none 0 0, .slice none 0 0, .slice none 0 0] 36)).heap.size = w10.heap.size + 1 := by simp
              have hB11 := HB10.out.kept (hbl1.block bm HB10.out.lt)
              have hO11 := HO10.out.call hbl1
              obtain ⟨bC, hbC⟩ : ∃ b, b = w10.heap.size := ⟨_, rfl⟩
              rw [← hbC] at hXC hsz1 ⊢
              generalize w10.alloc (.cells #[.int .i64 (s 0), .int .i64 (s 1), .int .i64 (s 2), .int .i64 (s 3), .int .i64 (s 4), .slice none 0 0, .slice none 0 0, .slice none 0 0] 36) = w11 at *
              have hbC8 : w8.heap.size ≤ bC := by rw [hbC]; exact HO10.out.size
              have hbmC : bm < w8.heap.size := by have := HBS.out; have := HO8.out.size; omega
              have HB11 := Lib.hid hB11; have HXC := Lib.hid hXC
              have HK11 : Hid (∀ wr, Only (fun b => b = bm ∨ b = bC) w11 wr → Only (fun b => b = bm) w8 wr) := Lib.hid (fun wr h => hO11.then_ h (fun b hb e => e.resolve_right (by omega)))
              obtain ⟨R, hR⟩ : ∃ R : Nat, s 3 = R := ⟨(s 3).toNat, by omega⟩
              obtain ⟨C, hC⟩ : ∃ C : Nat, s 4 = C := ⟨(s 4).toNat, by omega⟩
              have HR := Lib.hid hR; have HC := Lib.hid hC
              have hR2 : 1 ≤ R ∧ R ≤ 500 := by omega
              have hC2 : 1 ≤ C ∧ C ≤ 100 := by omega
              have HZ1 := Lib.hid hsz1
              clear hbl1 hXC hB11 hO11 hbC hR hC hsz1 y0 y1 y2 y3 y4 HB10 HO10 hlt
              have HC0 : Hid (RCols w11 w11.heap.size none 0 0 (fun _ => R) (fun _ => none) (fun _ => 0) (g.place s).B (g.place s).L) := Lib.hid (RCols.nil _ _)
              have HR0 : Hid (∀ c, 1 ≤ c → c < 1 → g.cnt s c g.num ≤ R) := Lib.hid (fun c h1 h2 => by omega)
              have HB0 : Hid (Book w11 bm (1000 + 501 * 0) (g.bk s 1 2)) := HB11
              have HO0 : Hid (Only (fun b => b = bm ∨ b = bC) w11 w11) := Lib.hid (Only.refl _ _)
              clear HB11
              go_wp2_with fail
              go_loopw [11] (fun vk wr => ∃ (j k : Nat) (AC : Option Addr) (cC : Nat) (CA : Nat → Option Addr) (cc : Nat → Nat), Hid (k = j + 1) ∧ (1 ≤ k ∧ k ≤ C + 1) ∧ vk = .int .i64 k ∧ Hid (RCols wr w11.heap.size AC j cC (fun _ => R) CA cc (g.place s).B (g.place s).L) ∧ Hid (Book wr bm (1000 + 501 * j) (g.bk s k 2)) ∧ Hid (∀ c, 1 ≤ c → c < k → g.cnt s c g.num ≤ R) ∧ Hid (wr.heap[bC]? = some (.cells #[.int .i64 (s 0), .int .i64 (s 1), .int .i64 (s 2), .int .i64 (s 3), .int .i64 (s 4), .slice AC j cC, .slice none 0 0, .slice none 0 0] 36)) ∧ Hid (Only (fun b => b = bm ∨ b = bC) w11 wr)) (fun vk _ => C + 1 - (intOf vk).toNat)
              case atStart => exact ⟨0, 1, none, 0, fun _ => none, fun _ => 0, Lib.hid rfl, by omega, rfl, HC0, HB0, HR0, HXC, HO0⟩
              case round =>
                clear HC0 HB0 HR0 HXC HO0
                obtain ⟨j, k, AC, cC, CA, cc, HKJ, hk, rfl, HCo, HBo, HRo, HXo, HOo⟩ := hrel
                obtain ⟨wo, hwo⟩ : ∃ x, x = wr := ⟨_, rfl⟩
                subst hwo
                have ho8 := HK11.out wo HOo.out
                obtain ⟨⟨hPo, hDo, hLo⟩, ho6⟩ := HKP.out wo ho8
                obtain ⟨⟨_, hSo⟩, h4, hF, hbw⟩ := HST.out wo ho6
                obtain ⟨y0, y1, y2, y3, y4⟩ := cell5 hSo
                rw [HC.out] at y4
                have HPO := Lib.hid hPo; have HDO := Lib.hid hDo; have HLO2 := Lib.hid hLo; have HBW := Lib.hid hbw; have HSO := Lib.hid hSo; have H4O := Lib.hid h4; have HFO := Lib.hid hF
                clear ho8 hPo hDo hLo ho6 hSo h4 hF hbw
                by_cases hlt : k ≤ C
                · -- QB l3
                  go_wp2_with fail
                  clear y0 y1 y2 y3 y4
                  have hszo := HOo.out.size
                  refine (column_any g a s P bd bl bm k R (1000 + 501 * j) w wo HG.out HV.out HFIT.out HBW.out (by have := HBS.out; omega) HPO.out HDO.out HLO2.out HBo.out (by omega) HR.out hR2 (by have := HKJ.out; omega)).mono ?_
                  rintro e wc ⟨⟨hcn, A, cA, rfl, hrow, hbk⟩ | ⟨hcn, rfl⟩, ho⟩
                  · have hXc := (ho.block bC (Array.getElem?_eq_some_iff.1 HXo.out).1 (by omega)).trans HXo.out
                    have hRc := HCo.out.only ho (fun b e _ => .inl (by have e : b = bm := e; have := HZ1.out; omega))
                    have hOc := HOo.out.then_ ho (fun b _ e => .inl e)
                    have x5 := (cell8 hXc).2.1
                    have hszc : w11.heap.size ≤ wc.heap.size := hOc.size
                    have hjb : j ≤ 100 := by have := HKJ.out; omega
                    have HXc := Lib.hid hXc; have HRc := Lib.hid hRc; have HOc := Lib.hid hOc; have HROW := Lib.hid hrow; have HBc := Lib.hid hbk; have HCN := Lib.hid hcn
                    have hbl2 : Below wc.heap.size wc (wc.alloc (.cells #[.slice A R cA] 63)) := (Below.refl _ _).alloc (Nat.le_refl _) _
                    have HBL2 := Lib.hid hbl2
                    clear hXc hRc hOc hrow hbk hcn ho hbl2 HXo HCo HOo HBo
                    go_wp2_with (at_builtin; refine wp_append rfl (.tmp 94) (.tmp 96) _ rfl elCol w11.heap.size AC j cC _ rfl (HRc.out.own.alloc _) _ 1 1 [.slice A R cA] rfl (src_new _ _ _ rfl) (by omega) (sz_alloc hszc) ?_; intro A2 c2' w5 ho2 hk' hb'; have hX5 := (hk'.block bC (Nat.lt_of_lt_of_le (Array.getElem?_eq_some_iff.1 HXc.out).1 HBL2.out.size) (fun e => by have := own_base HRc.out.own bC e; have := HZ1.out; omega)).trans ((HBL2.out.block bC (Array.getElem?_eq_some_iff.1 HXc.out).1).trans HXc.out); have z5 := thaw_of hX5 5; have x55 := (cell8 hX5).2.1; have HX5 := Lib.hid hX5; clear hX5)
                    have hO5 : Only (fun b => b = bm ∨ b = bC) w11 w5 := (HOc.out.call HBL2.out).then_ hk' (fun b hb e => by have := own_base HRc.out.own b e; omega)
                    have hB5 := HBc.out.kept ((hk'.block bm (Nat.lt_of_lt_of_le HBc.out.lt HBL2.out.size) (fun e => by have := own_base HRc.out.own bm e; have := HZ1.out; omega)).trans (HBL2.out.block bm HBc.out.lt))
                    have hR5 := (HRc.out.below HBL2.out).push (Ak := A) (nk := R) (ck := cA) (B0 := (g.place s).B j) (L0 := (g.place s).L j) (((HROW.out.mono (p' := fun b => w11.heap.size ≤ b) (fun b _ h => by omega)).below HBL2.out).congr2 (by
                      intro k' _
                      rw [HKJ.out]; rfl)) ho2 hk'
                    have hs5 : Only (fun b => b = bC) w5 (w5.setCell ⟨bC, 5, none⟩ (.slice A2 (j + 1) c2')) := Only.setCell (p := ⟨bC, 5, none⟩) (Only.refl (fun b => b = bC) w5) (fun _ => rfl) _
                    have hR6 : RCols (w5.setCell ⟨bC, 5, none⟩ (.slice A2 (j + 1) c2')) w11.heap.size A2 (j + 1) c2' (fun _ => R) (fun i => if i = j then A else CA i) (fun i => if i = j then cA else cc i) (g.place s).B (g.place s).L := by
                      have h := hR5.only hs5 (fun b e _ => .inl (by have e : b = bC := e; have := HZ1.out; omega))
                      rw [show (fun i => if i = j then R else R) = (fun _ : Nat => R) by funext i; split <;> rfl, show (fun i => if i = j then (g.place s).B j else (g.place s).B i) = (g.place s).B by funext i; split <;> (try rename_i e; subst e) <;> rfl, show (fun i => if i = j then (g.place s).L j else (g.place s).L i) = (g.place s).L by funext i; split <;> (try rename_i e; subst e) <;> rfl] at h
                      exact h
                    have hX6 : (w5.setCell ⟨bC, 5, none⟩ (.slice A2 (j + 1) c2')).heap[bC]? = some (.cells #[.int .i64 (s 0), .int .i64 (s 1), .int .i64 (s 2), .int .i64 (s 3), .int .i64 (s 4), .slice A2 (j + 1) c2', .slice none 0 0, .slice none 0 0] 36) := by rw [set1_heap HX5.out]; simp
                    have hB6 := hB5.kept (hs5.block bm hB5.lt (by omega))
                    have hO6 := hO5.then_ hs5 (fun b _ e => .inr e)
                    have HR6 := Lib.hid hR6; have HX6 := Lib.hid hX6; have HO6 := Lib.hid hO6
                    have HB6b : Hid (Book (w5.setCell ⟨bC, 5, none⟩ (.slice A2 (j + 1) c2')) bm (1000 + 501 * (j + 1)) (g.bk s (k + 1) 2)) := Lib.hid (hB6.mono (by omega))
                    have HRR : Hid (∀ c, 1 ≤ c → c < k + 1 → g.cnt s c g.num ≤ R) := Lib.hid (fun c h1 h2 => if e : c = k then e ▸ HCN.out else HRo.out c h1 (by omega))
                    have HKJ2 : Hid (k + 1 = j + 1 + 1) := Lib.hid (by rw [HKJ.out])
                    clear hO5 hB5 hR5 hs5 hR6 hX6 hB6 hO6 x5 x55 z5 ho2 hk' hb'
                    go_roundw
                    case rel => exact ⟨j + 1, k + 1, A2, c2', _, _, HKJ2, by omega, by go_num, HR6, HB6b, HRR, HX6, HO6⟩
                    case measure => simp [intOf]; omega
                  · have h4 := (ho.block b4 (Array.getElem?_eq_some_iff.1 H4O.out).1 (by have := HBS.out; omega)).trans H4O.out
                    have HF := Lib.hid ((ho.block bF (Array.getElem?_eq_some_iff.1 HFO.out).1 (by have := HBS.out; omega)).trans HFO.out)
                    have hbw := HBW.out.trans (ho.below (B := w.heap.size) (fun b _ e => by have := HBS.out; omega) HBW.out.size)
                    have HNO : Hid (¬ g.FitOk s) := Lib.hid (fun h => hcn (by have h2 := h.rows k hk.1 (by rw [HC.out]; omega); rw [HR.out] at h2; omega))
                    replace HBW := Lib.hid hbw
                    clear hbw hcn ho
                    have hz := thaw_of h4
                    have H4 := Lib.hid h4
                    obtain ⟨⟨z0, z1, z2, z3, z4⟩, z5, z6, z7⟩ := cell8 h4
                    clear h4
                    go_wp2_with fail
                    rw [fold_zap]
                    have hh : (zap wc b4).heap[b4]? = some (.cells #[.int .i64 0, .int .i64 0, .int .i64 0, .int .i64 0, .int .i64 0, .slice none 0 0, .slice none 0 0, .slice none 0 0] 36) := set8_heap H4.out _ _ _ _ _ _ _ _
                    have hf := zap_fault (b4 := b4) (by have := HBS.out; omega) HF.out
                    have hbz : Below w.heap.size w (zap wc b4) := set8_below HBW.out (by have := HBS.out; omega) _ _ _ _ _ _ _ _
                    clear hz z0 z1 z2 z3 z4 z5 z6 z7
                    generalize zap wc b4 = wz at *
                    try simp only [Exit.inBlock, Exit.then]
                    refine bodyPost_ret (outsF rfl rfl hh) rfl ?_
                    exact ⟨.inr ⟨HNO.out, bF, rfl, hf.1, hf.2⟩, hbz⟩
                  -- QE l3
                · obtain ⟨w12, hw12⟩ : ∃ x, x = wo := ⟨_, rfl⟩
                  subst hw12
                  obtain rfl : C = j := by have := HKJ.out; omega
                  have hok : g.FitOk s := ⟨HSF.out, HLO.out, fun c h1 h2 => by have h3 := HRo.out c h1 (by have := HC.out; have := HKJ.out; omega); rw [HR.out]; omega⟩
                  have HOK := Lib.hid hok
                  obtain ⟨Rg, hRg⟩ : ∃ Rg : Nat, s 2 = Rg := ⟨(s 2).toNat, by omega⟩
                  obtain ⟨No, hNo⟩ : ∃ No : Nat, s 1 = No := ⟨(s 1).toNat, by omega⟩
                  rw [hRg] at y2
                  have HRG := Lib.hid hRg; have HNO := Lib.hid hNo
                  have hRgb : Rg ≤ 500 := by omega
                  have hNob : No ≤ 500 := by omega
                  have hn4 : g.n4 ≤ No := by omega
                  have hn1r : g.n1 ≤ Rg := by omega
                  have hbC12 : bC < w12.heap.size := (Array.getElem?_eq_some_iff.1 HXo.out).1
                  have HK12 : Hid (∀ wr, Only (fun b => b = bC) w12 wr → (wr.heap[P]? = some (plO g a s (g.pre : Int) (.slice (some ⟨bd, 0, none⟩) g.num g.num) (.slice (some ⟨bl, 0, none⟩) g.num g.num) bm) ∧ Book wr bm (1000 + 501 * C) (g.bk s k 2)) ∧ (wr.heap[b1]? = some (.cells #[.int .i64 g.ins, .slice a.A1 g.n1 a.c1, .slice a.A2 g.n2 a.c2, .slice a.A3 g.n3 a.c3, .slice a.A4 g.n4 a.c4] 26) ∧ wr.heap[b2]? = some (.cells #[.int .i64 (s 0), .int .i64 (s 1), .int .i64 (s 2), .int .i64 (s 3), .int .i64 (s 4)] 28)) ∧ wr.heap[b4]? = some (.cells #[.int .i64 0, .int .i64 0, .int .i64 0, .int .i64 0, .int .i64 0, .slice none 0 0, .slice none 0 0, .slice none 0 0] 36) ∧ Below w.heap.size w wr ∧ RCols wr w11.heap.size AC C cC (fun _ => R) CA cc (g.place s).B (g.place s).L) := Lib.hid (fun wr h => by
                    have h2 := HK11.out wr (HOo.out.then_ h (fun b _ e => .inr e))
                    obtain ⟨⟨hP, _, _⟩, h6⟩ := HKP.out wr h2
                    obtain ⟨hTS, h4, _, hbw⟩ := HST.out wr h6
                    exact ⟨⟨hP, HBo.out.kept (h.block bm HBo.out.lt (by omega))⟩, hTS, h4, hbw, HCo.out.only h (fun b e _ => .inl (by have e : b = bC := e; have := HZ1.out; omega))⟩)
                  have hmk := fun W => mk_regs Rg (by omega) W
                  have hblR : Below w12.heap.size w12 (w12.alloc (.cells (madeCells #[.int .i64 0, .bool false] (Rg * 2)) 68)) := (Below.refl _ _).alloc (Nat.le_refl _) _
                  have hX13 := (hblR.block bC hbC12).trans HXo.out
                  have x6 := (cell8 hX13).2.2.1
                  have z6 := thaw_of hX13 6
                  clear hok hRg hNo hX13 hblR HPO HDO HLO2 HBW HSO H4O HFO
                  go_upto_region 24 with (fail)
                  clear hmk x6 z6 y0 y1 y2 y3 y4
                  obtain ⟨bR, hbR⟩ : ∃ b, b = w12.heap.size := ⟨_, rfl⟩
                  rw [← hbR]
                  have hRC : bR ≠ bC := by omega
                  have hs : Only (fun b => b = bC) w12 (w12.setCell ⟨bC, 6, none⟩ (.slice (some ⟨bR, 0, none⟩) Rg Rg)) := Only.setCell (p := ⟨bC, 6, none⟩) (Only.refl (fun b => b = bC) w12) (fun _ => rfl) _
                  have hX13 : (w12.setCell ⟨bC, 6, none⟩ (.slice (some ⟨bR, 0, none⟩) Rg Rg)).heap[bC]? = some (.cells #[.int .i64 (s 0), .int .i64 (s 1), .int .i64 (s 2), .int .i64 (s 3), .int .i64 (s 4), .slice AC C cC, .slice (some ⟨bR, 0, none⟩) Rg Rg, .slice none 0 0] 36) := by rw [set1_heap HXo.out]; simp
                  have hsz3 : (w12.setCell ⟨bC, 6, none⟩ (.slice (some ⟨bR, 0, none⟩) Rg Rg)).heap.size = bR := by rw [hbR]; simp [World.setCell]
                  generalize w12.setCell ⟨bC, 6, none⟩ (.slice (some ⟨bR, 0, none⟩) Rg Rg) = w13 at *
                  have hbl3 : Below w13.heap.size w13 (w13.alloc (.cells (madeCells #[.int .i64 0, .bool false] (Rg * 2)) 68)) := (Below.refl _ _).alloc (Nat.le_refl _) _
                  have hA14 : Arr (w13.alloc (.cells (madeCells #[.int .i64 0, .bool false] (Rg * 2)) 68)) bR 68 (Rg * 2) (rgV g s 0) := by
                    have h := (Arr.made2 w13 (.int .i64 0) (.bool false) Rg 68).congr (V' := rgV g s 0) (fun p _ => by unfold rgV; rw [if_neg (by omega)])
                    rwa [hsz3] at h
                  have HX14 := Lib.hid ((hbl3.block bC (by omega)).trans hX13)
                  have HA14 := Lib.hid hA14
                  have HO14 := Lib.hid (hs.call hbl3)
                  have hbRge : w12.heap.size ≤ bR := by omega
                  clear hs hX13 hsz3 hbl3 hA14 hbR
                  generalize w13.alloc (.cells (madeCells #[.int .i64 0, .bool false] (Rg * 2)) 68) = w14 at *
                  obtain ⟨t0, t1, t2, t3, t4⟩ := cell5 (HK12.out w14 HO14.out).2.1.1
                  go_wp2_with fail
                  clear t0 t1 t2 t3 t4
                  go_loopw [106] (fun vi wr => ∃ i : Nat, i ≤ g.n3 ∧ vi = .int .i64 i ∧ Hid (Arr wr bR 68 (Rg * 2) (rgV g s i)) ∧ Hid (Only (fun b => b = bR) w14 wr)) (fun vi _ => g.n3 - (intOf vi).toNat)
                  case atStart => exact ⟨0, by omega, rfl, HA14, Lib.hid (Only.refl _ _)⟩
                  case round =>
                    clear HA14
                    obtain ⟨i, hi, rfl, HAi, HOi⟩ := hrel
                    obtain ⟨wi, hwi⟩ : ∃ x, x = wr := ⟨_, rfl⟩
                    subst hwi
                    have hOr : Only (fun b => b = bC) w12 wi := HO14.out.then_ HOi.out (fun b hb e => by have e : b = bR := e; omega)
                    obtain ⟨⟨hPi, hBi⟩, ⟨hTi, hSi⟩, _, hbwi, _⟩ := HK12.out wi hOr
                    have hXi := (HOi.out.block bC (Array.getElem?_eq_some_iff.1 HX14.out).1 hRC.symm).trans HX14.out
                    have hkw := Keeps.of_below hbwi
                    have HPI := Lib.hid hPi; have HBI := Lib.hid hBi; have HTI := Lib.hid hTi; have HSI := Lib.hid hSi; have HXI := Lib.hid hXi; have HKW := Lib.hid hkw; have HOR := Lib.hid hOr
                    clear hOr hPi hBi hTi hSi hbwi hXi hkw
                    by_cases hlt : i < g.n3
                    · -- QB l4
                      obtain ⟨t0, t1, t2, t3, t4⟩ := cell5 HTI.out
                      obtain ⟨y0, y1, y2, y3, y4⟩ := cell5 HSI.out
                      rw [HC.out] at y4
                      have x6 := (cell8 HXI.out).2.2.1
                      obtain ⟨bI, oI, hA1, i0⟩ := (HG.out.init.keeps HKW.out).at_ (k := i) (by have := HV.out.n3; omega)
                      obtain ⟨bN, oN, hA3, n0⟩ := (HG.out.next.keeps HKW.out).at_ hlt
                      have hnx := HV.out.next i hlt
                      obtain ⟨m, hm⟩ : ∃ m : Nat, g.N i = (m : Int) := ⟨(g.N i).toNat, by omega⟩
                      have hmb := num_of HV.out hnx
                      rw [hm, Int.toNat_natCast] at hmb
                      have HM : Hid ((g.N i).toNat = m) := Lib.hid (by rw [hm]; rfl)
                      obtain ⟨nv, _, _, _, hnvb, _⟩ := HV.out.nums HFIT.out
                      rw [hm] at n0
                      rw [hA1] at t1
                      clear hA1
                      rw [hA3]
                      have hmx : m ≤ 70368744177664 := by have h := HV.out.nums HFIT.out; obtain ⟨nv, h1, _, _, h2, _⟩ := h; have h3 : g.num = nv := by rw [h1]; rfl
                                                          omega
                      obtain ⟨c0, c1⟩ := rgV_cell HAi.out (i := i) (by have := HV.out.n3; omega)
                      have cz0 := Arr.thaw HAi.out (i * 2)
                      have cz1 := Arr.thaw HAi.out (i * 2 + 1)
                      have hir : i < Rg := by have := HV.out.n3; omega
                      have hi1 : i < g.n1 := by have := HV.out.n3; omega
                      clear hm hnx hmb
                      go_wp2_with fail
                      refine wp_region_z (fun w' => w'.cell? ⟨bC, 6, none⟩ = some (.slice (some ⟨bR, 0, none⟩) Rg Rg) ∧ w'.cell? ⟨b2, 4, none⟩ = some (.int .i64 (C : Nat)) ∧ w'.cell? ⟨b1, 1, none⟩ = some (.slice (some ⟨bI, oI, none⟩) g.n1 a.c1) ∧ w'.cell? ⟨bI, oI + i, none⟩ = some (.bool (g.I i))) [0, 1, 2, 3, 4, 5, 6, 8, 9, 10, 11, 12] [15] (by kernel_rfl) (by kernel_rfl) (by kernel_rfl) (by rfl) (fun _ _ _ _ e h => ⟨e.symm.trans h.1, h.2⟩) ⟨x6, y4, t1, i0⟩ ?_
                      iterate 12
                        refine Heads.step (v := ?_) rfl (by first | (go_simp; done) | rfl) (fun W hW => ?_) ?_
                        rotate_left
                        · (obtain ⟨t0, t1, t2, t3⟩ := hW; go_simp; try with_reducible rfl)
                      refine AnyZ.one (i := 7) (by kernel_rfl) rfl (fun K hK => ?_)
                      go_simp
                      refine (sel_any g a s (g.pre : Int) _ _ P bm _ (g.bk s k 2) wi.drew HPI.out HBI.out C m (by omega) hmx).mono ?_
                      rintro e wt ⟨he, hwt⟩
                      rw [bk_sel (by have := HKJ.out; omega)] at he
                      subst he; subst hwt
                      obtain ⟨sv, hsv⟩ : ∃ sv : Nat, sv = g.sel s C m := ⟨_, rfl⟩
                      rw [← hsv]
                      have HSV := Lib.hid hsv
                      clear hsv hmx
                      refine hK _ _ (fun _ => ⟨x6, y4, t1, i0⟩) ?_
                      clear hK
                      refine AnyZ.mid [13, 14] [15] 1 rfl (by kernel_rfl) (by kernel_rfl) (by kernel_rfl) (fun _ _ _ _ e h => ⟨e.symm.trans h.1, h.2⟩) ⟨x6, y4, t1, i0⟩ ?_
                      iterate 2
                        refine Heads.step (v := ?_) rfl (by first | (go_simp; done) | rfl) (fun W hW => ?_) ?_
                        rotate_left
                        · (obtain ⟨t0, t1, t2, t3⟩ := hW; go_simp; try with_reducible rfl)
                      have c0d : wi.drew.cell? ⟨bR, i * 2, none⟩ = _ := c0
                      have c1d : wi.drew.cell? ⟨bR, i * 2 + 1, none⟩ = _ := c1
                      have cz0d : wi.drew.frozen? ⟨bR, i * 2, none⟩ = _ := cz0
                      have cz1d : wi.drew.frozen? ⟨bR, i * 2 + 1, none⟩ = _ := cz1
                      refine AnyZ.one (i := 15) (by kernel_rfl) rfl (fun K hK => ?_)
                      go_simp
                      refine hK _ _ (fun h => by cases h) (AnyZ.done (by kernel_rfl) ?_)
                      clear hK
                      go_simp
                      clear c0 c1 cz0 cz1 c0d c1d cz0d cz1d x6 y0 y1 y2 y3 y4 t0 t1 t2 t3 t4 i0 n0
                      have h1 : Arr ((wi.setCell ⟨bR, i * 2, none⟩ (.int .i64 (sv : Int))).setCell ⟨bR, i * 2 + 1, none⟩ (.bool (g.I i))).drew bR 68 (Rg * 2) (rgV g s (i + 1)) :=
                        Arr.heap (w := (wi.setCell ⟨bR, i * 2, none⟩ (.int .i64 (sv : Int))).setCell ⟨bR, i * 2 + 1, none⟩ (.bool (g.I i))) (rgV_put HAi.out (by rw [HSV.out, HM.out, show (s 4).toNat = C by have := HC.out; omega]) rfl) rfl
                      have h2 := ((HOi.out.setCell (p := ⟨bR, i * 2, none⟩) (fun _ => rfl) (.int .i64 (sv : Int))).setCell (p := ⟨bR, i * 2 + 1, none⟩) (fun _ => rfl) (.bool (g.I i))).drew
                      go_wp2_with fail
                      go_roundw
                      case rel => exact ⟨i + 1, by omega, by go_num, Lib.hid h1, Lib.hid h2⟩
                      case measure => simp [intOf]; omega
                      -- QE l4
                    · obtain ⟨w15, hw15⟩ : ∃ x, x = wi := ⟨_, rfl⟩
                      subst hw15
                      have hin : i = g.n3 := by omega
                      rw [hin] at HAi
                      obtain ⟨y0, y1, y2, y3, y4⟩ := cell5 HSI.out
                      rw [HNO.out] at y1
                      have hbC15 : bC < w15.heap.size := (Array.getElem?_eq_some_iff.1 HXI.out).1
                      have hbR15 : bR < w15.heap.size := Arr.lt HAi.out
                      have hmk := fun W => mk_ints No (by omega) W
                      have hblR : Below w15.heap.size w15 (w15.alloc (.cells (madeCells #[.int .i64 0] No) 3)) := (Below.refl _ _).alloc (Nat.le_refl _) _
                      have hX15 := (hblR.block bC hbC15).trans HXI.out
                      have x7 := (cell8 hX15).2.2.2
                      have z7 := thaw_of hX15 7
                      have HO15 := HOR
                      clear hin hblR hX15 HPI HBI HTI HSI HKW HOi HOR HX14 HO14
                      go_upto_region 30 with (fail)
                      clear hmk x7 z7 y0 y1 y2 y3 y4
                      obtain ⟨bO, hbO⟩ : ∃ b, b = w15.heap.size := ⟨_, rfl⟩
                      rw [← hbO]
                      have hOC : bO ≠ bC := by omega
                      have hOR : bR ≠ bO := by omega
                      have hs : Only (fun b => b = bC) w15 (w15.setCell ⟨bC, 7, none⟩ (.slice (some ⟨bO, 0, none⟩) No No)) := Only.setCell (p := ⟨bC, 7, none⟩) (Only.refl (fun b => b = bC) w15) (fun _ => rfl) _
                      have hX16 : (w15.setCell ⟨bC, 7, none⟩ (.slice (some ⟨bO, 0, none⟩) No No)).heap[bC]? = some (.cells #[.int .i64 (s 0), .int .i64 (s 1), .int .i64 (s 2), .int .i64 (s 3), .int .i64 (s 4), .slice AC C cC, .slice (some ⟨bR, 0, none⟩) Rg Rg, .slice (some ⟨bO, 0, none⟩) No No] 36) := by rw [set1_heap HXI.out]; simp
                      have hsz3 : (w15.setCell ⟨bC, 7, none⟩ (.slice (some ⟨bO, 0, none⟩) No No)).heap.size = bO := by rw [hbO]; simp [World.setCell]
                      have hA16 := Arr.only HAi.out hs (by omega)
                      have hO16 := HO15.out.then_ hs (fun _ _ e => e)
                      have hbO12 : w12.heap.size ≤ bO := by rw [hbO]; exact HO15.out.size
                      generalize w15.setCell ⟨bC, 7, none⟩ (.slice (some ⟨bO, 0, none⟩) No No) = w16 at *
                      have hbl3 : Below w16.heap.size w16 (w16.alloc (.cells (madeCells #[.int .i64 0] No) 3)) := (Below.refl _ _).alloc (Nat.le_refl _) _
                      have hI17 : Ints (w16.alloc (.cells (madeCells #[.int .i64 0] No) 3)) bO No (fun _ => 0) := by
                        have h : Ints (w16.alloc (.cells (madeCells #[.int .i64 0] No) 3)) w16.heap.size No (fun _ => 0) := Arr.made w16 (.int .i64 0) No 3
                        rwa [hsz3] at h
                      have HX17 := Lib.hid ((hbl3.block bC (by omega)).trans hX16)
                      have HA17 := Lib.hid (hA16.below hbl3)
                      have HI17 := Lib.hid hI17
                      have HO17 := Lib.hid (hO16.call hbl3)
                      clear hs hX16 hsz3 hbl3 hA16 hO16 hI17 HXI HAi HO15 hbO hbC15 hbR15
                      generalize w16.alloc (.cells (madeCells #[.int .i64 0] No) 3) = w17 at *
                      have HI0 : Hid (Ints w17 bO No (fun p => if p < 0 then ((g.sel s C (g.O p).toNat : Nat) : Int) else 0)) := Lib.hid (HI17.out.congr (fun p _ => if_neg (by omega)))
                      clear HI17
                      obtain ⟨t0, t1, t2, t3, t4⟩ := cell5 (HK12.out w17 HO17.out).2.1.1
                      go_wp2_with fail
                      clear t0 t1 t2 t3 t4
                      go_loopw [134] (fun vi wr => ∃ i : Nat, i ≤ g.n4 ∧ vi = .int .i64 i ∧ Hid (Ints wr bO No (fun p => if p < i then ((g.sel s C (g.O p).toNat : Nat) : Int) else 0)) ∧ Hid (Only (fun b => b = bO) w17 wr)) (fun vi _ => g.n4 - (intOf vi).toNat)
                      case atStart => exact ⟨0, by omega, rfl, HI0, Lib.hid (Only.refl _ _)⟩
                      case round =>
                        clear HI0
                        obtain ⟨q, hq, rfl, HIq, HOq⟩ := hrel
                        obtain ⟨wq, hwq⟩ : ∃ x, x = wr := ⟨_, rfl⟩
                        subst hwq
                        have hOr : Only (fun b => b = bC) w12 wq := HO17.out.then_ HOq.out (fun b hb e => by have e : b = bO := e; omega)
                        obtain ⟨⟨hPi, hBi⟩, ⟨hTi, hSi⟩, h4i, hbwi, hRC9⟩ := HK12.out wq hOr
                        have hXi := (HOq.out.block bC (Array.getElem?_eq_some_iff.1 HX17.out).1 hOC.symm).trans HX17.out
                        have hAq := Arr.only HA17.out HOq.out hOR
                        have hkw := Keeps.of_below hbwi
                        have HPI := Lib.hid hPi; have HBI := Lib.hid hBi; have HSI := Lib.hid hSi; have HXI := Lib.hid hXi; have HKW := Lib.hid hkw; have HBW := Lib.hid hbwi; have HRC9 := Lib.hid hRC9; have HAQ := Lib.hid hAq; have H4I := Lib.hid h4i
                        clear hOr hPi hBi hTi hSi hbwi hXi hkw h4i hRC9 hAq
                        by_cases hlq : q < g.n4
                        · -- QB l5
                          obtain ⟨y0, y1, y2, y3, y4⟩ := cell5 HSI.out
                          rw [HC.out] at y4
                          have x7 := (cell8 HXI.out).2.2.2
                          obtain ⟨bN, oN, hA4, n0⟩ := (HG.out.outs.keeps HKW.out).at_ hlq
                          have hnx := HV.out.outs q hlq
                          obtain ⟨m, hm⟩ : ∃ m : Nat, g.O q = (m : Int) := ⟨(g.O q).toNat, by omega⟩
                          have hmb := num_of HV.out hnx
                          rw [hm, Int.toNat_natCast] at hmb
                          have HM : Hid ((g.O q).toNat = m) := Lib.hid (by rw [hm]; rfl)
                          rw [hm] at n0
                          rw [hA4]
                          have hmx : m ≤ 70368744177664 := by
                            obtain ⟨nv, h1, _, _, h2, _⟩ := HV.out.nums HFIT.out
                            have h3 : g.num = nv := by rw [h1]; rfl
                            omega
                          have hqr : q < No := by omega
                          have c0 := Arr.cell HIq.out hqr
                          have cz0 := Arr.thaw HIq.out q
                          clear hm hnx hmb
                          go_wp2_with fail
                          refine wp_region_z (fun w' => w'.cell? ⟨bC, 7, none⟩ = some (.slice (some ⟨bO, 0, none⟩) No No) ∧ w'.cell? ⟨b2, 4, none⟩ = some (.int .i64 (C : Nat))) [0, 1, 2, 3, 4, 5, 6] [9] (by kernel_rfl) (by kernel_rfl) (by kernel_rfl) (by rfl) (fun _ _ _ _ e h => ⟨e.symm.trans h.1, h.2⟩) ⟨x7, y4⟩ ?_
                          iterate 7
                            refine Heads.step (v := ?_) rfl (by first | (go_simp; done) | rfl) (fun W hW => ?_) ?_
                            rotate_left
                            · (obtain ⟨t0, t1⟩ := hW; go_simp; try with_reducible rfl)
                          refine AnyZ.one (i := 7) (by kernel_rfl) rfl (fun K hK => ?_)
                          go_simp
                          refine (sel_any g a s (g.pre : Int) _ _ P bm _ (g.bk s k 2) wq.drew HPI.out HBI.out C m (by omega) hmx).mono ?_
                          rintro e wt ⟨he, hwt⟩
                          rw [bk_sel (by have := HKJ.out; omega)] at he
                          subst he; subst hwt
                          obtain ⟨sv, hsv⟩ : ∃ sv : Nat, sv = g.sel s C m := ⟨_, rfl⟩
                          rw [← hsv]
                          have HSV := Lib.hid hsv
                          clear hsv hmx
                          refine hK _ _ (fun _ => ⟨x7, y4⟩) ?_
                          clear hK
                          refine AnyZ.mid [8] [9] 1 rfl (by kernel_rfl) (by kernel_rfl) (by kernel_rfl) (fun _ _ _ _ e h => ⟨e.symm.trans h.1, h.2⟩) ⟨x7, y4⟩ ?_
                          iterate 1
                            refine Heads.step (v := ?_) rfl (by first | (go_simp; done) | rfl) (fun W hW => ?_) ?_
                            rotate_left
                            · (obtain ⟨t0, t1⟩ := hW; go_simp; try with_reducible rfl)
                          replace c0 : wq.drew.cell? ⟨bO, q, none⟩ = _ := c0
                          replace cz0 : wq.drew.frozen? ⟨bO, q, none⟩ = _ := cz0
                          refine AnyZ.one (i := 9) (by kernel_rfl) rfl (fun K hK => ?_)
                          go_simp
                          refine hK _ _ (fun h => by cases h) (AnyZ.done (by kernel_rfl) ?_)
                          clear hK
                          go_simp
                          clear c0 cz0 x7 y0 y1 y2 y3 y4 n0
                          have h1 : Ints (wq.setCell ⟨bO, q, none⟩ (.int .i64 (sv : Int))).drew bO No (fun p => if p < q + 1 then ((g.sel s C (g.O p).toNat : Nat) : Int) else 0) :=
                            Arr.heap (w := wq.setCell ⟨bO, q, none⟩ (.int .i64 (sv : Int))) (Ints.congr (Ints.upd HIq.out q (sv : Int)) (fun p _ => by
                              unfold upd
                              by_cases e : p = q
                              · subst e; rw [if_pos (by omega), if_pos rfl, HSV.out, HM.out]
                              · rw [if_neg e]
                                by_cases h : p < q
                                · simp only [if_pos h, if_pos (show p < q + 1 by omega)]
                                · simp only [if_neg h, if_neg (show ¬ p < q + 1 by omega)])) rfl
                          have h2 := (HOq.out.setCell (p := ⟨bO, q, none⟩) (fun _ => rfl) (.int .i64 (sv : Int))).drew
                          go_wp2_with fail
                          go_roundw
                          case rel => exact ⟨q + 1, by omega, by go_num, Lib.hid h1, Lib.hid h2⟩
                          case measure => simp [intOf]; omega
                          -- QE l5
                        · obtain hqn : q = g.n4 := by omega
                          rw [hqn] at HIq
                          have hz := thaw_of H4I.out
                          obtain ⟨⟨z0, z1, z2, z3, z4⟩, z5, z6, z7⟩ := cell8 H4I.out
                          obtain ⟨⟨x0, x1, x2, x3, x4⟩, x5, x6, x7⟩ := cell8 HXI.out
                          clear hqn
                          go_wp2_with fail
                          rw [fold8]
                          have hh : (set8 wq b4 (.int .i64 (s 0)) (.int .i64 (s 1)) (.int .i64 (s 2)) (.int .i64 (s 3)) (.int .i64 (s 4)) (.slice AC C cC) (.slice (some ⟨bR, 0, none⟩) Rg Rg) (.slice (some ⟨bO, 0, none⟩) No No)).heap[b4]? = _ := set8_heap H4I.out _ _ _ _ _ _ _ _
                          have hoz : Only (fun b => b = b4) wq (set8 wq b4 (.int .i64 (s 0)) (.int .i64 (s 1)) (.int .i64 (s 2)) (.int .i64 (s 3)) (.int .i64 (s 4)) (.slice AC C cC) (.slice (some ⟨bR, 0, none⟩) Rg Rg) (.slice (some ⟨bO, 0, none⟩) No No)) := set8_only (Only.refl (fun b => b = b4) wq) (fun _ => rfl) _ _ _ _ _ _ _ _
                          have hbz : Below w.heap.size w (set8 wq b4 (.int .i64 (s 0)) (.int .i64 (s 1)) (.int .i64 (s 2)) (.int .i64 (s 3)) (.int .i64 (s 4)) (.slice AC C cC) (.slice (some ⟨bR, 0, none⟩) Rg Rg) (.slice (some ⟨bO, 0, none⟩) No No)) := set8_below HBW.out (by have := HBS.out; omega) _ _ _ _ _ _ _ _
                          clear hz z0 z1 z2 z3 z4 z5 z6 z7 x0 x1 x2 x3 x4 x5 x6 x7
                          generalize set8 wq b4 (.int .i64 (s 0)) (.int .i64 (s 1)) (.int .i64 (s 2)) (.int .i64 (s 3)) (.int .i64 (s 4)) (.slice AC C cC) (.slice (some ⟨bR, 0, none⟩) Rg Rg) (.slice (some ⟨bO, 0, none⟩) No No) = wz at *
                          try simp only [Exit.inBlock, Exit.then]
                          refine bodyPost_ret (outsF (v := .nilIface) rfl rfl hh) rfl ?_
                          have e1 : (s 4).toNat = C := by have := HC.out; omega
                          have e2 : (s 3).toNat = R := by have := HR.out; omega
                          have e3 : (s 2).toNat = Rg := by have := HRG.out; omega
                          have e4 : (s 1).toNat = No := by have := HNO.out; omega
                          have hb11 : b4 < w11.heap.size := by have h1 := HBS.out; have h2 := HO8.out.size; have h3 := HZ1.out; omega
                          have hb48 : b4 < w8.heap.size := by have h1 := HBS.out; have h2 := HO8.out.size; omega
                          have hb12 : w11.heap.size ≤ w12.heap.size := HOo.out.size
                          have hrz : RCols wz w11.heap.size AC C cC (fun _ => R) CA cc (g.place s).B (g.place s).L := HRC9.out.only hoz (fun b e _ => .inl (by have e : b = b4 := e; omega))
                          have haz := Arr.only HAQ.out hoz (show ¬ bR = b4 by omega)
                          have hiz := Arr.only HIq.out hoz (show ¬ bO = b4 by omega)
                          refine ⟨.inl ⟨HOK.out, AC, some ⟨bR, 0, none⟩, some ⟨bO, 0, none⟩, cC, Rg, No, CA, cc, ⟨?_, fun i hi => ?_, ?_, ?_⟩, by rw [e1, e3, e4]⟩, hbz⟩
                          · show Row1 wz AC (s 4).toNat (fun i => .slice (CA i) (s 3).toNat (cc i))
                            rw [e1, e2]; exact hrz.row
                          · have hi' : i < (s 4).toNat := hi
                            show RowS wz 5 (CA i) (s 3).toNat _
                            rw [e2]; exact (hrz.cells i (by omega)).row
                          · show RowS wz 2 (some ⟨bR, 0, none⟩) (s 2).toNat _
                            rw [e3]; exact rgV_row haz
                          · show Row1 wz (some ⟨bO, 0, none⟩) (s 1).toNat (fun k => .int .i64 (if k < g.n4 then (g.sel s (s 4).toNat (g.O k).toNat : Nat) else (0 : Nat) : Int))
                            rw [e4, e1]; exact Arr.row hiz
end Go.Proofs.YtlmcbhmaccncbaaDoor
