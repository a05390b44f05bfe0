/- The printer's module, and parse.Print, walked: the text of modules in memory. Conditions: the modules lie in memory, the tables read as laid. -/
import Derived.Test.YtbdcpealkllfnaaDoorPfI
import Derived.Test.YtbdcpealkllfnaaDoorMoB
namespace Go.Proofs.YtbdcpealkllfnaaDoor
open Go.RowKit Go.Deep

theorem oneP2 {d : Nat} {w : World} {p : Nat → Prop} {cs : List Value} {t : PoT} (h : PrP d w p cs t) : ∀ v ∈ cs.toArray.toList, v.oneCell' = true := fun v hv => oneP (p := p) (w := w) (t := t) ⟨d, h⟩ v (by simpa using hv)
theorem modL_pos {d : Nat} {w : World} {p : Nat → Prop} {cs : List Value} {t : LB} (h : PrM d w p cs t) : 0 < t.length := by
 obtain ⟨a1, a2, a3, a4, a5, a6, a7, a8, a9, b1, b2, b3, b4, b5, e, hn, h1, h2, h3, h4⟩ := h
 rw [h4]
 simp [modL]
set_option maxRecDepth 100000 in
set_option maxHeartbeats 8000000 in
theorem moP_any {d B b : Nat} {l : LB} {w : World} {cs : List Value} {t : LB} (hT : Tabs B w) (hp : PS B b l w w) (h : PrM d w (Lo B) cs t) (hlen : l.length + t.length ≤ BP) :
  Calls Tryd.prog 11 #[.pointer (some ⟨b, 0, none⟩), .agg cs.toArray] w (PrO B b (l ++ t) w) := by
 obtain ⟨nm, at_, AP, AQ, AI, np, cp, nq, cq, ni, ci, TP, TQ, TI, e, hnm, hP, hQ, hI, ht⟩ := h
 subst e
 have hp3 : np ≤ 3000000 := hP.1
 have hq3 : nq ≤ 3000000 := hQ.1
 have hi3 : ni ≤ 3000000 := hI.1
 obtain ⟨ta, hta⟩ : ∃ x : Nat → LB, x = fun i => [109, 111, 100, 117, 108, 101, 32] ++ nm ++ [32] ++ catL (fun i => parT i (TP i)) i := ⟨_, rfl⟩
 obtain ⟨tb, htb⟩ : ∃ x : LB, x = ta np ++ (if 0 < np then [41, 32] else []) ++ [40] := ⟨_, rfl⟩
 obtain ⟨tc, htc⟩ : ∃ x : Nat → LB, x = fun i => tb ++ catL (fun i => portT i (TQ i)) i := ⟨_, rfl⟩
 obtain ⟨td, htd⟩ : ∃ x : Nat → LB, x = fun i => tc nq ++ [41, 59, 10] ++ catL TI i := ⟨_, rfl⟩
 replace ht : t = td ni ++ [101, 110, 100, 109, 111, 100, 117, 108, 101, 10] := by rw [ht, htd, htc, htb, hta]; simp only [modL, List.append_assoc]
 have HT := Lib.hid ht
 have hL := hlen
 rw [ht] at hL
 simp only [List.length_append, List.length_cons, List.length_nil, BP] at hL
 have HTA := Lib.hid hta
 have HTB := Lib.hid htb
 have HTC := Lib.hid htc
 have HTD := Lib.hid htd
 have HMA : Hid (∀ i, i ≤ np → (ta i).length ≤ (ta np).length) := Lib.hid (fun i hi => by
  have := catL_mono (T := fun i => parT i (TP i)) (n := np) i hi
  rw [hta]; simp only [List.length_append]; omega)
 have HMC : Hid (∀ i, i ≤ nq → (tc i).length ≤ (tc nq).length) := Lib.hid (fun i hi => by
  have := catL_mono (T := fun i => portT i (TQ i)) (n := nq) i hi
  rw [htc]; simp only [List.length_append]; omega)
 have HMD : Hid (∀ i, i ≤ ni → (td i).length ≤ (td ni).length) := Lib.hid (fun i hi => by
  have := catL_mono (T := TI) (n := ni) i hi
  rw [htd]; simp only [List.length_append]; omega)
 have HX0 : Hid (ta 0 = [109, 111, 100, 117, 108, 101, 32] ++ nm ++ [32]) := Lib.hid (by rw [hta]; simp [catL])
 have HC0 : Hid (tc 0 = tb) := Lib.hid (by rw [htc]; simp [catL])
 have HD0 : Hid (td 0 = tc nq ++ [41, 59, 10]) := Lib.hid (by rw [htd]; simp [catL])
 have hd0 := HMD.out 0 (Nat.zero_le _)
 rw [HD0.out] at hd0
 simp only [List.length_append, List.length_cons, List.length_nil] at hd0
 have hb0 := HMC.out 0 (Nat.zero_le _)
 rw [HC0.out] at hb0
 have hab : (ta np).length + 1 ≤ tb.length := by rw [htb]; simp only [List.length_append, List.length_cons, List.length_nil]; omega
 have ha0 := HMA.out 0 (Nat.zero_le _)
 rw [HX0.out] at ha0
 simp only [List.length_append, List.length_cons, List.length_nil] at ha0
 have HRP := Lib.hid hP
 have HRQ := Lib.hid hQ
 have HRI := Lib.hid hI
 have hBw := hp.sz
 have HTb := Lib.hid hT
 have H0 := Lib.hid hp
 clear hlen hta htb htc htd ht hP hQ hI hnm hT hp
 go_enter Tryd.func11, Tryd.ntmps11
 go_wp2_with (refine wpl_boxv rfl 40 (.tmp 1) rfl (some 3) rfl (cells := ([.string (bstr nm), .int .i64 at_, .slice AP np cp, .slice AQ nq cq, .slice AI ni ci] : List Value).toArray) rfl ?_)
 refine ⟨fun w1 b1 HK ho1 ha1 hb1 => ?_⟩
 have H01 := Lib.hid (H0.out.only ho1.out)
 have HKn : b1 ≠ b := H01.out.ne HK.out (by decide)
 have HO : Hid (Only (fun i => B ≤ i) w w1) := Lib.hid (ho1.out.mono (fun _ _ h => h.elim))
 clear ho1 H0
 go_upto_region 1 with (fail)
 refine rs (S := PS B b _ w1) H01.out.here ?_
 refine qs uMp ?_
 refine qs (uF fd_Module_0) ?_
 refine qs (uC ctstring fun W hW => cellB (hW.heap HK.out (by decide) HKn) rfl) ?_
 refine putS [[109, 111, 100, 117, 108, 101, 32], nm, [32]] (bs3 _ _ _) (by simp [BP]; omega) (fun _ => ?_)
 simp only [setT, sC, sZ]
 refine ds fun u0 hU0 => ?_
 replace hU0 : PS B b (l ++ (ta 0)) w1 u0 := by rw [HX0.out]; simpa using hU0
 go_upto_region 2 with (fail)
 refine rs hU0 ?_
 refine qs (uF fd_Module_2) ?_
 refine qs (uC ctS_Bind fun W hW => cellB (hW.heap HK.out (by decide) HKn) rfl) ?_
 refine qs (uL euS_Bind) ?_
 refine qs uMi ?_
 simp only [setT, sC, sZ]
 refine ds fun u1 hU1 => ?_
 have HU1 := Lib.hid hU1
 clear hU0 hU1
 go_wp2_with fail
 go_loopw [18] (fun vi wr => ∃ (i : Nat), i ≤ np ∧ vi = .int .i64 i ∧ Hid (PS B b (l ++ ta i) w1 wr)) (fun vi _ => np - (intOf vi).toNat)
 case atStart => exact ⟨0, Nat.zero_le _, rfl, HU1⟩
 case round =>
  obtain ⟨i, hi, rfl, HW⟩ := hrel
  have hm := HMA.out i hi
  by_cases hlt : i < np
  ·
   have hm1 := HMA.out (i + 1) (by omega)
   have hili : (i : Int) < (np : Int) := by omega
   obtain ⟨bA, oA, C, rfl, hpA, hrng, hel⟩ := Rw.open_ HRP.out (by omega)
   have HRng := Lib.hid hrng
   have hstep : ta (i + 1) = ta i ++ parT i (TP i) := by rw [HTA.out]; simp only [catL, List.append_assoc]
   have heli := hel i hlt
   obtain ⟨⟨bn, bg, bv⟩, hti⟩ : ∃ x, x = TP i := ⟨_, rfl⟩
   rw [← hti] at hstep heli
   have HON := Lib.hid (oneB2 heli.2)
   have lc := Lib.hid heli.1
   obtain ⟨hC10, ab, V, kV, hCi, hnl, hV⟩ := heli
   replace hCi : C i = .string (bstr bn) :: .int .i64 ab :: .bool bg :: V := hCi
   replace hV : PrE d w (Lo B) V bv kV := hV
   have HC := Lib.hid hCi
   have HV := Lib.hid hV
   have lv := Lib.hid hV.len
   have hgi : ∀ k, k = i → ta (k + 1) = ta k ++ ((if k = 0 then [35, 40] else [44, 32]) ++ bn ++ [32, 61, 32] ++ bv) := fun k hk => by subst hk; exact hstep
   clear hrng hel hti hCi hV hC10 hstep hnl
   by_cases h0 : i = 0
   ·
    subst h0
    have HST : Hid (ta (0 + 1) = ta 0 ++ [35, 40] ++ bn ++ [32, 61, 32] ++ bv) := Lib.hid (by rw [hgi _ rfl, if_pos rfl]; simp only [List.append_assoc])
    have hm2 := hm1
    rw [HST.out] at hm2
    simp only [List.length_append, List.length_cons, List.length_nil] at hm2
    clear hgi
    go_upto_region 4 with (fail)
    refine rs (S := PS B b _ w1) HW.out ?_
    refine qs uMi ?_
    simp only [setT, sC, sZ]
    refine qs (uI 0 euS_Bind ezS_Bind (hlt := hlt)) ?_
    simp only [setT, sC, sZ]
    refine qs (uW stt_Bind lc.out fun W hW => (HRng.out.at_ (HO.out.trans hW.low) (Nat.not_le.2 hpA) hlt)) ?_
    simp only [setT, sC, sZ]
    intro w3 hW3
    refine wpl_box3 rfl rfl rfl 58 rfl 5 rfl (.tmp 20) rfl (.tmp 22) rfl rfl Tryd.zeroValue58 (cells := (C 0).toArray) (.int .i64 ((0 : Nat) : Int)) (fun _ => rfl) (fun _ => rfl) (fun _ => rfl) stt_Bind (by simp [lc.out]) rfl HON.out ?_
    refine ⟨fun w4 b5 HK5 ho4 ha5 hb5 => ?_⟩
    have HW4 := Lib.hid (hW3.only ho4.out)
    have HK5n : b5 ≠ b := HW4.out.ne HK5.out (by decide)
    have HO4 := Lib.hid (HO.out.trans HW4.out.low)
    clear hW3 ho4
    simp only [Act.put, List.setIfInBounds_toArray, sC, sZ]
    go_upto_region 5 with (fail)
    refine rs (S := PS B b _ w4) HW4.out.here ?_
    refine qs uMp ?_
    intro W0 hW0
    refine wpl_map2 rfl rfl rfl 24 rfl rfl (bstr [35, 40]) (bstr [44, 32]) rfl rfl rfl rfl (fun _ => rfl) ?_
    refine ⟨fun wm1 rm1 HMm1 hom1 ham1 => ?_⟩
    have HWm1 := Lib.hid (hW0.only hom1.out)
    have hrm1 : rm1 ≠ b := HWm1.out.neM HMm1.out
    have HK5m1 := Lib.hid (HWm1.out.heap HK5.out (by decide) HK5n)
    have HOm1 := Lib.hid (HO4.out.trans HWm1.out.low)
    have H0m1 := Lib.hid (HW4.out.trans HWm1.out)
    clear hW0 hom1
    refine toT (S := PS B b _ wm1) HWm1.out.here ?_
    refine qs uMm ?_
    refine qs uMi ?_
    refine qs (uE (r := true) (hr := rfl)) ?_
    simp only [setT, sC, sZ]
    refine qs (uB (z := [35, 40]) (fun W hW => hW.map HMm1.out hrm1) rfl) ?_
    refine qs (uF fd_Bind_0) ?_
    refine qs (uC ctstring fun W hW => cellB (m := 0) (v := .string (bstr bn)) (hW.heap HK5m1.out (by decide) HK5n) (by rw [HC.out]; rfl)) ?_
    refine putS [[35, 40], bn, [32, 61, 32]] (bs3 _ _ _) (by simp [BP]; omega) (fun _ => ?_)
    simp only [setT, sC, sZ]
    refine ds fun u2 hU2 => ?_
    go_upto_region 6 with (fail)
    refine rs hU2 ?_
    refine qs uMp ?_
    refine qs (uF fd_Bind_3) ?_
    refine qs (uW stt_Expr lv.out fun W hW => segB (hW.heap HK5m1.out (by decide) HK5n) (by rw [HC.out]; exact seg3)) ?_
    refine qs (uK (enter_p_expr _) fun W hW => PrO.up hW (fe_all d B b _ W _ _ _ (HTb.out.next (HOm1.out.trans hW.low) hBw) hW.here (HV.out.only (HOm1.out.trans hW.low) (fun _ h h2 => absurd h (Nat.not_lt.2 h2))) (by simp [BP]; omega))) ?_
    simp only [setT, sC, sZ]
    refine ds fun u3 hU3 => ?_
    replace hU3 : PS B b (l ++ (ta (0 + 1))) wm1 u3 := by rw [HST.out]; simpa using hU3
    go_wp2_with fail
    go_roundw
    case rel => exact ⟨0 + 1, by omega, by go_num, Lib.hid (H0m1.out.trans hU3)⟩
    case measure => simp [intOf]; omega
   ·
    have hne : ((i : Int) == 0) = false := by rw [beq_eq_false_iff_ne]; omega
    have HST : Hid (ta (i + 1) = ta i ++ [44, 32] ++ bn ++ [32, 61, 32] ++ bv) := Lib.hid (by rw [hgi _ rfl, if_neg h0]; simp only [List.append_assoc])
    have hm2 := hm1
    rw [HST.out] at hm2
    simp only [List.length_append, List.length_cons, List.length_nil] at hm2
    clear hgi h0
    go_upto_region 4 with (fail)
    refine rs (S := PS B b _ w1) HW.out ?_
    refine qs uMi ?_
    simp only [setT, sC, sZ]
    refine qs (uI i euS_Bind ezS_Bind (hlt := hlt)) ?_
    simp only [setT, sC, sZ]
    refine qs (uW stt_Bind lc.out fun W hW => (HRng.out.at_ (HO.out.trans hW.low) (Nat.not_le.2 hpA) hlt)) ?_
    simp only [setT, sC, sZ]
    intro w3 hW3
    refine wpl_box3 rfl rfl rfl 58 rfl 5 rfl (.tmp 20) rfl (.tmp 22) rfl rfl Tryd.zeroValue58 (cells := (C i).toArray) (.int .i64 (i : Int)) (fun _ => rfl) (fun _ => rfl) (fun _ => rfl) stt_Bind (by simp [lc.out]) rfl HON.out ?_
    refine ⟨fun w4 b5 HK5 ho4 ha5 hb5 => ?_⟩
    have HW4 := Lib.hid (hW3.only ho4.out)
    have HK5n : b5 ≠ b := HW4.out.ne HK5.out (by decide)
    have HO4 := Lib.hid (HO.out.trans HW4.out.low)
    clear hW3 ho4
    simp only [Act.put, List.setIfInBounds_toArray, sC, sZ]
    go_upto_region 5 with (fail)
    refine rs (S := PS B b _ w4) HW4.out.here ?_
    refine qs uMp ?_
    intro W0 hW0
    refine wpl_map2 rfl rfl rfl 24 rfl rfl (bstr [35, 40]) (bstr [44, 32]) rfl rfl rfl rfl (fun _ => rfl) ?_
    refine ⟨fun wm1 rm1 HMm1 hom1 ham1 => ?_⟩
    have HWm1 := Lib.hid (hW0.only hom1.out)
    have hrm1 : rm1 ≠ b := HWm1.out.neM HMm1.out
    have HK5m1 := Lib.hid (HWm1.out.heap HK5.out (by decide) HK5n)
    have HOm1 := Lib.hid (HO4.out.trans HWm1.out.low)
    have H0m1 := Lib.hid (HW4.out.trans HWm1.out)
    clear hW0 hom1
    refine toT (S := PS B b _ wm1) HWm1.out.here ?_
    refine qs uMm ?_
    refine qs uMi ?_
    refine qs (uE (r := false) (hr := hne)) ?_
    simp only [setT, sC, sZ]
    refine qs (uB (z := [44, 32]) (fun W hW => hW.map HMm1.out hrm1) rfl) ?_
    refine qs (uF fd_Bind_0) ?_
    refine qs (uC ctstring fun W hW => cellB (m := 0) (v := .string (bstr bn)) (hW.heap HK5m1.out (by decide) HK5n) (by rw [HC.out]; rfl)) ?_
    refine putS [[44, 32], bn, [32, 61, 32]] (bs3 _ _ _) (by simp [BP]; omega) (fun _ => ?_)
    simp only [setT, sC, sZ]
    refine ds fun u2 hU2 => ?_
    go_upto_region 6 with (fail)
    refine rs hU2 ?_
    refine qs uMp ?_
    refine qs (uF fd_Bind_3) ?_
    refine qs (uW stt_Expr lv.out fun W hW => segB (hW.heap HK5m1.out (by decide) HK5n) (by rw [HC.out]; exact seg3)) ?_
    refine qs (uK (enter_p_expr _) fun W hW => PrO.up hW (fe_all d B b _ W _ _ _ (HTb.out.next (HOm1.out.trans hW.low) hBw) hW.here (HV.out.only (HOm1.out.trans hW.low) (fun _ h h2 => absurd h (Nat.not_lt.2 h2))) (by simp [BP]; omega))) ?_
    simp only [setT, sC, sZ]
    refine ds fun u3 hU3 => ?_
    replace hU3 : PS B b (l ++ (ta (i + 1))) wm1 u3 := by rw [HST.out]; simpa using hU3
    go_wp2_with fail
    go_roundw
    case rel => exact ⟨i + 1, by omega, by go_num, Lib.hid (H0m1.out.trans hU3)⟩
    case measure => simp [intOf]; omega
  ·
   obtain rfl : np = i := by omega
   obtain ⟨bn, hbn⟩ : ∃ b : Bool, decide ((0 : Int) < (np : Int)) = b := ⟨_, rfl⟩
   go_upto_region 8 with (fail)
   refine rs (S := PS B b _ w1) HW.out ?_
   refine qs (uF fd_Module_2) ?_
   refine qs (uC ctS_Bind fun W hW => cellB (hW.heap HK.out (by decide) HKn) rfl) ?_
   refine qs (uL euS_Bind) ?_
   refine qs (uQ (r := bn) (hr := hbn)) ?_
   simp only [setT, sC, sZ]
   refine ds fun w3 hW3 => ?_
   have HBN := Lib.hid hbn
   have HW3 := Lib.hid hW3
   obtain ⟨tm, htm⟩ : ∃ x, x = ta np ++ (if bn = true then [41, 32] else []) := ⟨_, rfl⟩
   have HTM := Lib.hid htm
   clear hbn htm hW3
   go_upto_if 41 with (fail)
   go_cut [] (fun wd => Hid (PS B b (l ++ tm) w1 wd))
   case first =>
    cases bn with
    | true =>
     have hnp : 0 < np := by have := of_decide_eq_true HBN.out; omega
     have hb2 : tm.length + 1 ≤ tb.length := by rw [HTB.out, if_pos hnp, HTM.out, if_pos rfl]; simp only [List.length_append, List.length_cons, List.length_nil]; omega
     have HTM2 : Hid (tm = ta np ++ [41, 32]) := Lib.hid (by rw [HTM.out, if_pos rfl])
     have hb3 := hb2
     rw [HTM2.out] at hb3
     simp only [List.length_append, List.length_cons, List.length_nil] at hb3
     go_upto_region 9 with (fail)
     refine rs (S := PS B b _ w1) HW3.out ?_
     refine qs uMp ?_
     refine putS [[41, 32]] (bs1 _) (by simp [BP]; omega) (fun _ => ?_)
     refine ds fun w4 hW4 => ?_
     simp only [setT, sC, sZ]
     replace hW4 : PS B b (l ++ (tm)) w1 w4 := by rw [HTM2.out]; simpa using hW4
     go_wp2_with fail
     go_meet
     case rel => exact Lib.hid hW4
    | false =>
     have hnp : ¬ 0 < np := by have := of_decide_eq_false HBN.out; omega
     go_wp2_with fail
     go_meet
     case rel => exact Lib.hid (by rw [HTM.out]; simpa using HW3.out)
   case rest =>
    have HTB2 : Hid (tb = tm ++ [40]) := Lib.hid (by
     rw [HTB.out, HTM.out]
     have : (bn = true) ↔ 0 < np := by rw [← HBN.out, decide_eq_true_iff]; omega
     by_cases h : 0 < np
     ·
      rw [if_pos h, if_pos (this.2 h)]
     ·
      rw [if_neg h, if_neg (fun h' => h (this.1 h'))])
    have hb4 := hb0
    rw [HTB2.out] at hb4
    simp only [List.length_append, List.length_cons, List.length_nil] at hb4
    go_upto_region 10 with (fail)
    refine rs (S := PS B b _ w1) hcut.out ?_
    refine qs uMp ?_
    refine putS [[40]] (bs1 _) (by simp [BP]; omega) (fun _ => ?_)
    refine ds fun v0 hV0 => ?_
    simp only [setT, sC, sZ]
    replace hV0 : PS B b (l ++ (tb)) w1 v0 := by rw [HTB2.out]; simpa using hV0
    go_upto_region 11 with (fail)
    refine rs hV0 ?_
    refine qs (uF fd_Module_3) ?_
    refine qs (uC ctS_Port fun W hW => cellB (hW.heap HK.out (by decide) HKn) rfl) ?_
    refine qs (uL euS_Port) ?_
    refine qs uMi ?_
    simp only [setT, sC, sZ]
    refine ds fun v1 hV1 => ?_
    have HV1 := Lib.hid hV1
    clear hcut hV0 hV1 HW3 HW hm hlt HRP hi
    go_wp2_with fail
    go_loopw [51] (fun vi wr => ∃ (i : Nat), i ≤ nq ∧ vi = .int .i64 i ∧ Hid (PS B b (l ++ tc i) w1 wr)) (fun vi _ => nq - (intOf vi).toNat)
    case atStart => exact ⟨0, Nat.zero_le _, rfl, Lib.hid (by rw [HC0.out]; exact HV1.out)⟩
    case round =>
     obtain ⟨i, hi, rfl, HW⟩ := hrel
     have hm := HMC.out i hi
     by_cases hlt : i < nq
     ·
      have hm1 := HMC.out (i + 1) (by omega)
      have hili : (i : Int) < (nq : Int) := by omega
      obtain ⟨bA, oA, C, rfl, hpA, hrng, hel⟩ := Rw.open_ HRQ.out (by omega)
      have HRng := Lib.hid hrng
      have hstep : tc (i + 1) = tc i ++ portT i (TQ i) := by rw [HTC.out]; simp only [catL, List.append_assoc]
      have heli := hel i hlt
      obtain ⟨⟨bo, bg, br, bn⟩, hti⟩ : ∃ x, x = TQ i := ⟨_, rfl⟩
      rw [← hti] at hstep heli
      obtain ⟨hC19, hpp⟩ := heli
      have HON := Lib.hid (oneP2 hpp)
      obtain ⟨ab, V, hCi, hnl, hog, hV⟩ := hpp
      replace hCi : C i = .string (bstr bn) :: .int .i64 ab :: .bool bo :: .bool bg :: V := hCi
      replace hog : bg = true → bo = true := hog
      replace hV : PrR d w (Lo B) V br := hV
      have HC := Lib.hid hCi
      have lc := Lib.hid hC19
      have HV := Lib.hid hV
      have lv := Lib.hid (PrR.len hV)
      have hgi : ∀ k, k = i → tc (k + 1) = tc k ++ ((if k = 0 then [] else [44, 32]) ++ (if bo = true ∧ bg = true then [111, 117, 116, 112, 117, 116, 32, 114, 101, 103, 32] else if bo = true then [111, 117, 116, 112, 117, 116, 32] else [105, 110, 112, 117, 116, 32]) ++ spanT br ++ bn) := fun k hk => by subst hk; exact hstep
      clear hrng hel hti hCi hV hC19 hstep hnl
      by_cases h0 : i = 0
      ·
       subst h0
       cases bg with
       | true =>
        obtain rfl : bo = true := hog rfl
        have HST : Hid (tc (0 + 1) = tc 0 ++ [111, 117, 116, 112, 117, 116, 32, 114, 101, 103, 32] ++ spanT br ++ bn) := Lib.hid (by rw [hgi _ rfl, if_pos rfl]; simp)
        have hm2 := hm1
        rw [HST.out] at hm2
        simp only [List.length_append, List.length_cons, List.length_nil] at hm2
        clear hgi hog
        go_upto_region 13 with (fail)
        refine rs (S := PS B b _ w1) HW.out ?_
        refine qs uMi ?_
        simp only [setT, sC, sZ]
        refine qs (uI 0 euS_Port ezS_Port (hlt := hlt)) ?_
        simp only [setT, sC, sZ]
        refine qs (uW stt_Port lc.out fun W hW => (HRng.out.at_ (HO.out.trans hW.low) (Nat.not_le.2 hpA) hlt)) ?_
        simp only [setT, sC, sZ]
        intro w3 hW3
        refine wpl_box3 rfl rfl rfl 63 rfl 7 rfl (.tmp 53) rfl (.tmp 55) rfl rfl Tryd.zeroValue63 (cells := (C 0).toArray) (.int .i64 ((0 : Nat) : Int)) (fun _ => rfl) (fun _ => rfl) (fun _ => rfl) stt_Port (by simp [lc.out]) rfl HON.out ?_
        refine ⟨fun w4 b7 HK7 ho4 ha7 hb7 => ?_⟩
        have HW4 := Lib.hid (hW3.only ho4.out)
        have HK7n : b7 ≠ b := HW4.out.ne HK7.out (by decide)
        have HO4 := Lib.hid (HO.out.trans HW4.out.low)
        clear hW3 ho4
        simp only [Act.put, List.setIfInBounds_toArray, sC, sZ]
        go_upto_region 17 with (fail)
        refine rs (S := PS B b _ w4) HW4.out.here ?_
        refine qs (uF fd_Port_3) ?_
        refine qs (uC ctbool fun W hW => cellB (m := 3) (v := .bool true) (hW.heap HK7.out (by decide) HK7n) (by rw [HC.out]; rfl)) ?_
        refine qs (uA (.bool true)) ?_
        refine ds fun u0 hU0 => ?_
        simp only [setT, sC, sZ]
        go_upto_region 18 with (fail)
        refine rs hU0 ?_
        refine qs uMp ?_
        refine putS [[111, 117, 116, 112, 117, 116, 32, 114, 101, 103, 32]] (bs1 _) (by simp [BP]; omega) (fun _ => ?_)
        refine ds fun u1 hU1 => ?_
        simp only [setT, sC, sZ]
        go_upto_region 21 with (fail)
        refine rs hU1 ?_
        refine qs uMp ?_
        refine qs (uF fd_Port_4) ?_
        refine qs (uW stt_Range lv.out fun W hW => segB (hW.heap HK7.out (by decide) HK7n) (by rw [HC.out]; exact seg4)) ?_
        refine qs (uK (enter_p_span _) fun W hW => PrO.up hW (spanP_any (l := _) (HTb.out.next (HO4.out.trans hW.low) hBw) hW.here (FR.only (HO4.out.trans hW.low) (fun _ h h2 => absurd h (Nat.not_lt.2 h2)) HV.out) (by simp [BP]; omega))) ?_
        simp only [setT, sC, sZ]
        refine ds fun u2 hU2 => ?_
        go_upto_region 22 with (fail)
        refine rs hU2 ?_
        refine qs uMp ?_
        refine qs (uF fd_Port_0) ?_
        refine qs (uC ctstring fun W hW => cellB (m := 0) (v := .string (bstr bn)) (hW.heap HK7.out (by decide) HK7n) (by rw [HC.out]; rfl)) ?_
        refine putS [bn] (bs1 _) (by simp [BP]; omega) (fun _ => ?_)
        simp only [setT, sC, sZ]
        refine ds fun u9 hU9 => ?_
        replace hU9 : PS B b (l ++ (tc (0 + 1))) w4 u9 := by rw [HST.out]; simpa using hU9
        go_wp2_with fail
        go_roundw
        case rel => exact ⟨0 + 1, by omega, by go_num, Lib.hid (HW4.out.trans hU9)⟩
        case measure => simp [intOf]; omega
       | false =>
        cases bo with
        | true =>
         have HST : Hid (tc (0 + 1) = tc 0 ++ [111, 117, 116, 112, 117, 116, 32] ++ spanT br ++ bn) := Lib.hid (by rw [hgi _ rfl, if_pos rfl]; simp)
         have hm2 := hm1
         rw [HST.out] at hm2
         simp only [List.length_append, List.length_cons, List.length_nil] at hm2
         clear hgi hog
         go_upto_region 13 with (fail)
         refine rs (S := PS B b _ w1) HW.out ?_
         refine qs uMi ?_
         simp only [setT, sC, sZ]
         refine qs (uI 0 euS_Port ezS_Port (hlt := hlt)) ?_
         simp only [setT, sC, sZ]
         refine qs (uW stt_Port lc.out fun W hW => (HRng.out.at_ (HO.out.trans hW.low) (Nat.not_le.2 hpA) hlt)) ?_
         simp only [setT, sC, sZ]
         intro w3 hW3
         refine wpl_box3 rfl rfl rfl 63 rfl 7 rfl (.tmp 53) rfl (.tmp 55) rfl rfl Tryd.zeroValue63 (cells := (C 0).toArray) (.int .i64 ((0 : Nat) : Int)) (fun _ => rfl) (fun _ => rfl) (fun _ => rfl) stt_Port (by simp [lc.out]) rfl HON.out ?_
         refine ⟨fun w4 b7 HK7 ho4 ha7 hb7 => ?_⟩
         have HW4 := Lib.hid (hW3.only ho4.out)
         have HK7n : b7 ≠ b := HW4.out.ne HK7.out (by decide)
         have HO4 := Lib.hid (HO.out.trans HW4.out.low)
         clear hW3 ho4
         simp only [Act.put, List.setIfInBounds_toArray, sC, sZ]
         go_upto_region 17 with (fail)
         refine rs (S := PS B b _ w4) HW4.out.here ?_
         refine qs (uF fd_Port_3) ?_
         refine qs (uC ctbool fun W hW => cellB (m := 3) (v := .bool false) (hW.heap HK7.out (by decide) HK7n) (by rw [HC.out]; rfl)) ?_
         refine qs (uA (.bool false)) ?_
         refine ds fun u0 hU0 => ?_
         simp only [setT, sC, sZ]
         go_upto_region 19 with (fail)
         refine rs hU0 ?_
         refine qs (uF fd_Port_2) ?_
         refine qs (uC ctbool fun W hW => cellB (m := 2) (v := .bool true) (hW.heap HK7.out (by decide) HK7n) (by rw [HC.out]; rfl)) ?_
         refine qs (uA (.bool true)) ?_
         refine ds fun u1 hU1 => ?_
         simp only [setT, sC, sZ]
         go_upto_region 20 with (fail)
         refine rs hU1 ?_
         refine qs uMp ?_
         refine putS [[111, 117, 116, 112, 117, 116, 32]] (bs1 _) (by simp [BP]; omega) (fun _ => ?_)
         refine ds fun u2 hU2 => ?_
         simp only [setT, sC, sZ]
         go_upto_region 21 with (fail)
         refine rs hU2 ?_
         refine qs uMp ?_
         refine qs (uF fd_Port_4) ?_
         refine qs (uW stt_Range lv.out fun W hW => segB (hW.heap HK7.out (by decide) HK7n) (by rw [HC.out]; exact seg4)) ?_
         refine qs (uK (enter_p_span _) fun W hW => PrO.up hW (spanP_any (l := _) (HTb.out.next (HO4.out.trans hW.low) hBw) hW.here (FR.only (HO4.out.trans hW.low) (fun _ h h2 => absurd h (Nat.not_lt.2 h2)) HV.out) (by simp [BP]; omega))) ?_
         simp only [setT, sC, sZ]
         refine ds fun u3 hU3 => ?_
         go_upto_region 22 with (fail)
         refine rs hU3 ?_
         refine qs uMp ?_
         refine qs (uF fd_Port_0) ?_
         refine qs (uC ctstring fun W hW => cellB (m := 0) (v := .string (bstr bn)) (hW.heap HK7.out (by decide) HK7n) (by rw [HC.out]; rfl)) ?_
         refine putS [bn] (bs1 _) (by simp [BP]; omega) (fun _ => ?_)
         simp only [setT, sC, sZ]
         refine ds fun u9 hU9 => ?_
         replace hU9 : PS B b (l ++ (tc (0 + 1))) w4 u9 := by rw [HST.out]; simpa using hU9
         go_wp2_with fail
         go_roundw
         case rel => exact ⟨0 + 1, by omega, by go_num, Lib.hid (HW4.out.trans hU9)⟩
         case measure => simp [intOf]; omega
        | false =>
         have HST : Hid (tc (0 + 1) = tc 0 ++ [105, 110, 112, 117, 116, 32] ++ spanT br ++ bn) := Lib.hid (by rw [hgi _ rfl, if_pos rfl]; simp)
         have hm2 := hm1
         rw [HST.out] at hm2
         simp only [List.length_append, List.length_cons, List.length_nil] at hm2
         clear hgi hog
         go_upto_region 13 with (fail)
         refine rs (S := PS B b _ w1) HW.out ?_
         refine qs uMi ?_
         simp only [setT, sC, sZ]
         refine qs (uI 0 euS_Port ezS_Port (hlt := hlt)) ?_
         simp only [setT, sC, sZ]
         refine qs (uW stt_Port lc.out fun W hW => (HRng.out.at_ (HO.out.trans hW.low) (Nat.not_le.2 hpA) hlt)) ?_
         simp only [setT, sC, sZ]
         intro w3 hW3
         refine wpl_box3 rfl rfl rfl 63 rfl 7 rfl (.tmp 53) rfl (.tmp 55) rfl rfl Tryd.zeroValue63 (cells := (C 0).toArray) (.int .i64 ((0 : Nat) : Int)) (fun _ => rfl) (fun _ => rfl) (fun _ => rfl) stt_Port (by simp [lc.out]) rfl HON.out ?_
         refine ⟨fun w4 b7 HK7 ho4 ha7 hb7 => ?_⟩
         have HW4 := Lib.hid (hW3.only ho4.out)
         have HK7n : b7 ≠ b := HW4.out.ne HK7.out (by decide)
         have HO4 := Lib.hid (HO.out.trans HW4.out.low)
         clear hW3 ho4
         simp only [Act.put, List.setIfInBounds_toArray, sC, sZ]
         go_upto_region 17 with (fail)
         refine rs (S := PS B b _ w4) HW4.out.here ?_
         refine qs (uF fd_Port_3) ?_
         refine qs (uC ctbool fun W hW => cellB (m := 3) (v := .bool false) (hW.heap HK7.out (by decide) HK7n) (by rw [HC.out]; rfl)) ?_
         refine qs (uA (.bool false)) ?_
         refine ds fun u0 hU0 => ?_
         simp only [setT, sC, sZ]
         go_upto_region 19 with (fail)
         refine rs hU0 ?_
         refine qs (uF fd_Port_2) ?_
         refine qs (uC ctbool fun W hW => cellB (m := 2) (v := .bool false) (hW.heap HK7.out (by decide) HK7n) (by rw [HC.out]; rfl)) ?_
         refine qs (uA (.bool false)) ?_
         refine ds fun u1 hU1 => ?_
         simp only [setT, sC, sZ]
         go_upto_region 16 with (fail)
         refine rs hU1 ?_
         refine qs uMp ?_
         refine putS [[105, 110, 112, 117, 116, 32]] (bs1 _) (by simp [BP]; omega) (fun _ => ?_)
         refine ds fun u2 hU2 => ?_
         simp only [setT, sC, sZ]
         go_upto_region 21 with (fail)
         refine rs hU2 ?_
         refine qs uMp ?_
         refine qs (uF fd_Port_4) ?_
         refine qs (uW stt_Range lv.out fun W hW => segB (hW.heap HK7.out (by decide) HK7n) (by rw [HC.out]; exact seg4)) ?_
         refine qs (uK (enter_p_span _) fun W hW => PrO.up hW (spanP_any (l := _) (HTb.out.next (HO4.out.trans hW.low) hBw) hW.here (FR.only (HO4.out.trans hW.low) (fun _ h h2 => absurd h (Nat.not_lt.2 h2)) HV.out) (by simp [BP]; omega))) ?_
         simp only [setT, sC, sZ]
         refine ds fun u3 hU3 => ?_
         go_upto_region 22 with (fail)
         refine rs hU3 ?_
         refine qs uMp ?_
         refine qs (uF fd_Port_0) ?_
         refine qs (uC ctstring fun W hW => cellB (m := 0) (v := .string (bstr bn)) (hW.heap HK7.out (by decide) HK7n) (by rw [HC.out]; rfl)) ?_
         refine putS [bn] (bs1 _) (by simp [BP]; omega) (fun _ => ?_)
         simp only [setT, sC, sZ]
         refine ds fun u9 hU9 => ?_
         replace hU9 : PS B b (l ++ (tc (0 + 1))) w4 u9 := by rw [HST.out]; simpa using hU9
         go_wp2_with fail
         go_roundw
         case rel => exact ⟨0 + 1, by omega, by go_num, Lib.hid (HW4.out.trans hU9)⟩
         case measure => simp [intOf]; omega
      ·
       have hip : (0 : Int) < (i : Int) := by omega
       cases bg with
       | true =>
        obtain rfl : bo = true := hog rfl
        have HST : Hid (tc (i + 1) = tc i ++ [44, 32] ++ [111, 117, 116, 112, 117, 116, 32, 114, 101, 103, 32] ++ spanT br ++ bn) := Lib.hid (by rw [hgi _ rfl, if_neg h0]; simp)
        have hm2 := hm1
        rw [HST.out] at hm2
        simp only [List.length_append, List.length_cons, List.length_nil] at hm2
        clear hgi hog h0
        go_upto_region 13 with (fail)
        refine rs (S := PS B b _ w1) HW.out ?_
        refine qs uMi ?_
        simp only [setT, sC, sZ]
        refine qs (uI i euS_Port ezS_Port (hlt := hlt)) ?_
        simp only [setT, sC, sZ]
        refine qs (uW stt_Port lc.out fun W hW => (HRng.out.at_ (HO.out.trans hW.low) (Nat.not_le.2 hpA) hlt)) ?_
        simp only [setT, sC, sZ]
        intro w3 hW3
        refine wpl_box3 rfl rfl rfl 63 rfl 7 rfl (.tmp 53) rfl (.tmp 55) rfl rfl Tryd.zeroValue63 (cells := (C i).toArray) (.int .i64 (i : Int)) (fun _ => rfl) (fun _ => rfl) (fun _ => rfl) stt_Port (by simp [lc.out]) rfl HON.out ?_
        refine ⟨fun w4 b7 HK7 ho4 ha7 hb7 => ?_⟩
        have HW4 := Lib.hid (hW3.only ho4.out)
        have HK7n : b7 ≠ b := HW4.out.ne HK7.out (by decide)
        have HO4 := Lib.hid (HO.out.trans HW4.out.low)
        clear hW3 ho4
        simp only [Act.put, List.setIfInBounds_toArray, sC, sZ]
        go_upto_region 15 with (fail)
        refine rs (S := PS B b _ w4) HW4.out.here ?_
        refine qs uMp ?_
        refine putS [[44, 32]] (bs1 _) (by simp [BP]; omega) (fun _ => ?_)
        refine ds fun u0 hU0 => ?_
        simp only [setT, sC, sZ]
        go_upto_region 17 with (fail)
        refine rs hU0 ?_
        refine qs (uF fd_Port_3) ?_
        refine qs (uC ctbool fun W hW => cellB (m := 3) (v := .bool true) (hW.heap HK7.out (by decide) HK7n) (by rw [HC.out]; rfl)) ?_
        refine qs (uA (.bool true)) ?_
        refine ds fun u1 hU1 => ?_
        simp only [setT, sC, sZ]
        go_upto_region 18 with (fail)
        refine rs hU1 ?_
        refine qs uMp ?_
        refine putS [[111, 117, 116, 112, 117, 116, 32, 114, 101, 103, 32]] (bs1 _) (by simp [BP]; omega) (fun _ => ?_)
        refine ds fun u2 hU2 => ?_
        simp only [setT, sC, sZ]
        go_upto_region 21 with (fail)
        refine rs hU2 ?_
        refine qs uMp ?_
        refine qs (uF fd_Port_4) ?_
        refine qs (uW stt_Range lv.out fun W hW => segB (hW.heap HK7.out (by decide) HK7n) (by rw [HC.out]; exact seg4)) ?_
        refine qs (uK (enter_p_span _) fun W hW => PrO.up hW (spanP_any (l := _) (HTb.out.next (HO4.out.trans hW.low) hBw) hW.here (FR.only (HO4.out.trans hW.low) (fun _ h h2 => absurd h (Nat.not_lt.2 h2)) HV.out) (by simp [BP]; omega))) ?_
        simp only [setT, sC, sZ]
        refine ds fun u3 hU3 => ?_
        go_upto_region 22 with (fail)
        refine rs hU3 ?_
        refine qs uMp ?_
        refine qs (uF fd_Port_0) ?_
        refine qs (uC ctstring fun W hW => cellB (m := 0) (v := .string (bstr bn)) (hW.heap HK7.out (by decide) HK7n) (by rw [HC.out]; rfl)) ?_
        refine putS [bn] (bs1 _) (by simp [BP]; omega) (fun _ => ?_)
        simp only [setT, sC, sZ]
        refine ds fun u9 hU9 => ?_
        replace hU9 : PS B b (l ++ (tc (i + 1))) w4 u9 := by rw [HST.out]; simpa using hU9
        go_wp2_with fail
        go_roundw
        case rel => exact ⟨i + 1, by omega, by go_num, Lib.hid (HW4.out.trans hU9)⟩
        case measure => simp [intOf]; omega
       | false =>
        cases bo with
        | true =>
         have HST : Hid (tc (i + 1) = tc i ++ [44, 32] ++ [111, 117, 116, 112, 117, 116, 32] ++ spanT br ++ bn) := Lib.hid (by rw [hgi _ rfl, if_neg h0]; simp)
         have hm2 := hm1
         rw [HST.out] at hm2
         simp only [List.length_append, List.length_cons, List.length_nil] at hm2
         clear hgi hog h0
         go_upto_region 13 with (fail)
         refine rs (S := PS B b _ w1) HW.out ?_
         refine qs uMi ?_
         simp only [setT, sC, sZ]
         refine qs (uI i euS_Port ezS_Port (hlt := hlt)) ?_
         simp only [setT, sC, sZ]
         refine qs (uW stt_Port lc.out fun W hW => (HRng.out.at_ (HO.out.trans hW.low) (Nat.not_le.2 hpA) hlt)) ?_
         simp only [setT, sC, sZ]
         intro w3 hW3
         refine wpl_box3 rfl rfl rfl 63 rfl 7 rfl (.tmp 53) rfl (.tmp 55) rfl rfl Tryd.zeroValue63 (cells := (C i).toArray) (.int .i64 (i : Int)) (fun _ => rfl) (fun _ => rfl) (fun _ => rfl) stt_Port (by simp [lc.out]) rfl HON.out ?_
         refine ⟨fun w4 b7 HK7 ho4 ha7 hb7 => ?_⟩
         have HW4 := Lib.hid (hW3.only ho4.out)
         have HK7n : b7 ≠ b := HW4.out.ne HK7.out (by decide)
         have HO4 := Lib.hid (HO.out.trans HW4.out.low)
         clear hW3 ho4
         simp only [Act.put, List.setIfInBounds_toArray, sC, sZ]
         go_upto_region 15 with (fail)
         refine rs (S := PS B b _ w4) HW4.out.here ?_
         refine qs uMp ?_
         refine putS [[44, 32]] (bs1 _) (by simp [BP]; omega) (fun _ => ?_)
         refine ds fun u0 hU0 => ?_
         simp only [setT, sC, sZ]
         go_upto_region 17 with (fail)
         refine rs hU0 ?_
         refine qs (uF fd_Port_3) ?_
         refine qs (uC ctbool fun W hW => cellB (m := 3) (v := .bool false) (hW.heap HK7.out (by decide) HK7n) (by rw [HC.out]; rfl)) ?_
         refine qs (uA (.bool false)) ?_
         refine ds fun u1 hU1 => ?_
         simp only [setT, sC, sZ]
         go_upto_region 19 with (fail)
         refine rs hU1 ?_
         refine qs (uF fd_Port_2) ?_
         refine qs (uC ctbool fun W hW => cellB (m := 2) (v := .bool true) (hW.heap HK7.out (by decide) HK7n) (by rw [HC.out]; rfl)) ?_
         refine qs (uA (.bool true)) ?_
         refine ds fun u2 hU2 => ?_
         simp only [setT, sC, sZ]
         go_upto_region 20 with (fail)
         refine rs hU2 ?_
         refine qs uMp ?_
         refine putS [[111, 117, 116, 112, 117, 116, 32]] (bs1 _) (by simp [BP]; omega) (fun _ => ?_)
         refine ds fun u3 hU3 => ?_
         simp only [setT, sC, sZ]
         go_upto_region 21 with (fail)
         refine rs hU3 ?_
         refine qs uMp ?_
         refine qs (uF fd_Port_4) ?_
         refine qs (uW stt_Range lv.out fun W hW => segB (hW.heap HK7.out (by decide) HK7n) (by rw [HC.out]; exact seg4)) ?_
         refine qs (uK (enter_p_span _) fun W hW => PrO.up hW (spanP_any (l := _) (HTb.out.next (HO4.out.trans hW.low) hBw) hW.here (FR.only (HO4.out.trans hW.low) (fun _ h h2 => absurd h (Nat.not_lt.2 h2)) HV.out) (by simp [BP]; omega))) ?_
         simp only [setT, sC, sZ]
         refine ds fun u4 hU4 => ?_
         go_upto_region 22 with (fail)
         refine rs hU4 ?_
         refine qs uMp ?_
         refine qs (uF fd_Port_0) ?_
         refine qs (uC ctstring fun W hW => cellB (m := 0) (v := .string (bstr bn)) (hW.heap HK7.out (by decide) HK7n) (by rw [HC.out]; rfl)) ?_
         refine putS [bn] (bs1 _) (by simp [BP]; omega) (fun _ => ?_)
         simp only [setT, sC, sZ]
         refine ds fun u9 hU9 => ?_
         replace hU9 : PS B b (l ++ (tc (i + 1))) w4 u9 := by rw [HST.out]; simpa using hU9
         go_wp2_with fail
         go_roundw
         case rel => exact ⟨i + 1, by omega, by go_num, Lib.hid (HW4.out.trans hU9)⟩
         case measure => simp [intOf]; omega
        | false =>
         have HST : Hid (tc (i + 1) = tc i ++ [44, 32] ++ [105, 110, 112, 117, 116, 32] ++ spanT br ++ bn) := Lib.hid (by rw [hgi _ rfl, if_neg h0]; simp)
         have hm2 := hm1
         rw [HST.out] at hm2
         simp only [List.length_append, List.length_cons, List.length_nil] at hm2
         clear hgi hog h0
         go_upto_region 13 with (fail)
         refine rs (S := PS B b _ w1) HW.out ?_
         refine qs uMi ?_
         simp only [setT, sC, sZ]
         refine qs (uI i euS_Port ezS_Port (hlt := hlt)) ?_
         simp only [setT, sC, sZ]
         refine qs (uW stt_Port lc.out fun W hW => (HRng.out.at_ (HO.out.trans hW.low) (Nat.not_le.2 hpA) hlt)) ?_
         simp only [setT, sC, sZ]
         intro w3 hW3
         refine wpl_box3 rfl rfl rfl 63 rfl 7 rfl (.tmp 53) rfl (.tmp 55) rfl rfl Tryd.zeroValue63 (cells := (C i).toArray) (.int .i64 (i : Int)) (fun _ => rfl) (fun _ => rfl) (fun _ => rfl) stt_Port (by simp [lc.out]) rfl HON.out ?_
         refine ⟨fun w4 b7 HK7 ho4 ha7 hb7 => ?_⟩
         have HW4 := Lib.hid (hW3.only ho4.out)
         have HK7n : b7 ≠ b := HW4.out.ne HK7.out (by decide)
         have HO4 := Lib.hid (HO.out.trans HW4.out.low)
         clear hW3 ho4
         simp only [Act.put, List.setIfInBounds_toArray, sC, sZ]
         go_upto_region 15 with (fail)
         refine rs (S := PS B b _ w4) HW4.out.here ?_
         refine qs uMp ?_
         refine putS [[44, 32]] (bs1 _) (by simp [BP]; omega) (fun _ => ?_)
         refine ds fun u0 hU0 => ?_
         simp only [setT, sC, sZ]
         go_upto_region 17 with (fail)
         refine rs hU0 ?_
         refine qs (uF fd_Port_3) ?_
         refine qs (uC ctbool fun W hW => cellB (m := 3) (v := .bool false) (hW.heap HK7.out (by decide) HK7n) (by rw [HC.out]; rfl)) ?_
         refine qs (uA (.bool false)) ?_
         refine ds fun u1 hU1 => ?_
         simp only [setT, sC, sZ]
         go_upto_region 19 with (fail)
         refine rs hU1 ?_
         refine qs (uF fd_Port_2) ?_
         refine qs (uC ctbool fun W hW => cellB (m := 2) (v := .bool false) (hW.heap HK7.out (by decide) HK7n) (by rw [HC.out]; rfl)) ?_
         refine qs (uA (.bool false)) ?_
         refine ds fun u2 hU2 => ?_
         simp only [setT, sC, sZ]
         go_upto_region 16 with (fail)
         refine rs hU2 ?_
         refine qs uMp ?_
         refine putS [[105, 110, 112, 117, 116, 32]] (bs1 _) (by simp [BP]; omega) (fun _ => ?_)
         refine ds fun u3 hU3 => ?_
         simp only [setT, sC, sZ]
         go_upto_region 21 with (fail)
         refine rs hU3 ?_
         refine qs uMp ?_
         refine qs (uF fd_Port_4) ?_
         refine qs (uW stt_Range lv.out fun W hW => segB (hW.heap HK7.out (by decide) HK7n) (by rw [HC.out]; exact seg4)) ?_
         refine qs (uK (enter_p_span _) fun W hW => PrO.up hW (spanP_any (l := _) (HTb.out.next (HO4.out.trans hW.low) hBw) hW.here (FR.only (HO4.out.trans hW.low) (fun _ h h2 => absurd h (Nat.not_lt.2 h2)) HV.out) (by simp [BP]; omega))) ?_
         simp only [setT, sC, sZ]
         refine ds fun u4 hU4 => ?_
         go_upto_region 22 with (fail)
         refine rs hU4 ?_
         refine qs uMp ?_
         refine qs (uF fd_Port_0) ?_
         refine qs (uC ctstring fun W hW => cellB (m := 0) (v := .string (bstr bn)) (hW.heap HK7.out (by decide) HK7n) (by rw [HC.out]; rfl)) ?_
         refine putS [bn] (bs1 _) (by simp [BP]; omega) (fun _ => ?_)
         simp only [setT, sC, sZ]
         refine ds fun u9 hU9 => ?_
         replace hU9 : PS B b (l ++ (tc (i + 1))) w4 u9 := by rw [HST.out]; simpa using hU9
         go_wp2_with fail
         go_roundw
         case rel => exact ⟨i + 1, by omega, by go_num, Lib.hid (HW4.out.trans hU9)⟩
         case measure => simp [intOf]; omega
     ·
      obtain rfl : nq = i := by omega
      go_upto_region 24 with (fail)
      refine rs (S := PS B b _ w1) HW.out ?_
      refine qs uMp ?_
      refine putS [[41, 59, 10]] (bs1 _) (by simp [BP]; omega) (fun _ => ?_)
      refine ds fun x0 hX0 => ?_
      simp only [setT, sC, sZ]
      replace hX0 : PS B b (l ++ (td 0)) w1 x0 := by rw [HD0.out]; simpa using hX0
      go_upto_region 25 with (fail)
      refine rs hX0 ?_
      refine qs (uF fd_Module_4) ?_
      refine qs (uC ctS_Item fun W hW => cellB (hW.heap HK.out (by decide) HKn) rfl) ?_
      refine qs (uL euS_Item) ?_
      refine qs uMi ?_
      simp only [setT, sC, sZ]
      refine ds fun x1 hX1 => ?_
      have HX1 := Lib.hid hX1
      clear hX0 hX1 HW hm hlt HRQ hi HV1
      go_wp2_with fail
      go_loopw [92] (fun vi wr => ∃ (i : Nat), i ≤ ni ∧ vi = .int .i64 i ∧ Hid (PS B b (l ++ td i) w1 wr)) (fun vi _ => ni - (intOf vi).toNat)
      case atStart => exact ⟨0, Nat.zero_le _, rfl, HX1⟩
      case round =>
       obtain ⟨i, hi, rfl, HW⟩ := hrel
       have hm := HMD.out i hi
       by_cases hlt : i < ni
       ·
        have hm1 := HMD.out (i + 1) (by omega)
        have hili : (i : Int) < (ni : Int) := by omega
        obtain ⟨bA, oA, C, rfl, hpA, hrng, hel⟩ := Rw.open_ HRI.out (by omega)
        have HRng := Lib.hid hrng
        have HEl := Lib.hid hel
        have HST : Hid (td (i + 1) = td i ++ TI i) := Lib.hid (by rw [HTD.out]; simp only [catL, List.append_assoc])
        have hm2 := hm1
        rw [HST.out] at hm2
        simp only [List.length_append] at hm2
        have HON := Lib.hid (oneI2 (hel i hlt).2)
        clear hrng hel
        go_upto_region 27 with (fail)
        refine rs (S := PS B b _ w1) HW.out ?_
        refine qs (uI i euS_Item ezS_Item (hlt := hlt)) ?_
        simp only [setT, sC, sZ]
        refine qs (uW stt_Item (HEl.out i hlt).1 fun W hW => (HRng.out.at_ (HO.out.trans hW.low) (Nat.not_le.2 hpA) hlt)) ?_
        simp only [setT, sC, sZ]
        intro w3 hW3
        refine wpl_box rfl rfl 75 rfl 9 rfl (.tmp 95) rfl rfl Tryd.zeroValue75 (cells := (C i).toArray) (fun _ => rfl) (fun _ => rfl) stt_Item (by simp [(HEl.out i hlt).1]) rfl HON.out ?_
        refine ⟨fun w4 b9 HK9 ho4 ha9 hb9 => ?_⟩
        have HW4 := Lib.hid (hW3.only ho4.out)
        have HK9n : b9 ≠ b := HW4.out.ne HK9.out (by decide)
        have HO4 := Lib.hid (HO.out.trans HW4.out.low)
        clear hW3 ho4
        simp only [Act.put, List.setIfInBounds_toArray, sC, sZ]
        go_upto_region 28 with (fail)
        refine rs (S := PS B b _ w4) HW4.out.here ?_
        refine qs uMp ?_
        refine qs (uW stt_Item (HEl.out i hlt).1 fun W hW => wholeB (hW.heap HK9.out (by decide) HK9n)) ?_
        refine qs (uK (enter_p_item _) fun W hW => PrO.up hW (fi_all d B b _ W _ _ (HTb.out.next (HO4.out.trans hW.low) hBw) hW.here ((HEl.out i hlt).2.only (HO4.out.trans hW.low) (fun _ h h2 => absurd h (Nat.not_lt.2 h2))) (by simp [BP]; omega))) ?_
        refine ds fun u1 hU1 => ?_
        simp only [setT, sC, sZ]
        replace hU1 : PS B b (l ++ (td (i + 1))) w4 u1 := by rw [HST.out]; simpa using hU1
        go_wp2_with fail
        go_roundw
        case rel => exact ⟨i + 1, by omega, by go_num, Lib.hid (HW4.out.trans hU1)⟩
        case measure => simp [intOf]; omega
       ·
        obtain rfl : i = ni := by omega
        go_upto_region 30 with (fail)
        refine rs (S := PS B b _ w1) HW.out ?_
        refine qs uMp ?_
        refine putS [[101, 110, 100, 109, 111, 100, 117, 108, 101, 10]] (bs1 _) (by simp [BP]; omega) (fun _ => ?_)
        refine ds fun we hWe => ?_
        simp only [setT, sC, sZ]
        go_wp2_with fail
        go_end0
        exact ⟨rfl, by rw [HT.out]; simpa using H01.out.trans hWe⟩
set_option maxRecDepth 100000 in
set_option maxHeartbeats 8000000 in
theorem printP_any {d : Nat} {w : World} {A : Option Addr} {n c : Nat} {T : Nat → LB} (hT : Tabs w.heap.size w) (hr : Rw 40 5 w (Lo w.heap.size) A n (fun cs t => PrM d w (Lo w.heap.size) cs t) T) (hlen : (catL T n).length ≤ BP) :
  Calls Tryd.prog 7 #[.slice A n c] w (StrO (catL T n) w) := by
 have hn3 : n ≤ 3000000 := hr.1
 obtain ⟨tx, htx⟩ : ∃ x, x = catL T := ⟨_, rfl⟩
 rw [← htx] at hlen ⊢
 have HTX := Lib.hid htx
 have HMON := Lib.hid (catL_mono (T := T) (n := n))
 rw [← htx] at HMON
 have hl2 := hlen
 unfold BP at hl2
 obtain ⟨B, hB⟩ : ∃ x, x = w.heap.size := ⟨_, rfl⟩
 rw [← hB] at hT hr
 have HB := Lib.hid hB
 have hBw : B ≤ w.heap.size := by omega
 have HTb := Lib.hid hT
 have HR := Lib.hid hr
 have HNE : Hid (0 < n → tx n ≠ []) := Lib.hid (fun h0 h => by
  obtain ⟨_, C, _, hc⟩ := hr
  have h1 := modL_pos (hc 0 h0).2
  have h2 := catL_mono (T := T) (n := n) 1 (by omega)
  rw [htx] at h
  rw [h] at h2
  simp only [catL, List.nil_append, List.length_nil] at h2
  omega)
 clear hr htx hlen hT hB
 go_enter Tryd.func7, Tryd.ntmps7
 go_wp2_with (refine wpl_boxv rfl 48 (.tmp 6) rfl (some 7) rfl (cells := #[.pointer none, .slice none 0 0]) rfl ?_)
 refine ⟨fun w1 b HK ho1 ha1 hb1 => ?_⟩
 have hbl : B ≤ b := by have := HB.out; omega
 have HW1 : Hid (PS B b [] w1 w1) := Lib.hid (.refl (.inl ⟨hbl, .slice none 0 0, HK.out, World.ownsRowF_nil _ _ _ _, by simp [Value.ownBlock]⟩))
 have HO : Hid (Only (fun i => B ≤ i) w w1) := Lib.hid (ho1.out.mono (fun _ _ h => h.elim))
 have HO1 := ho1
 clear ho1
 go_wp2_with fail
 go_loopw [10] (fun vi wr => ∃ (i : Nat), i ≤ n ∧ vi = .int .i64 i ∧ Hid (PS B b (tx i) w1 wr) ∧ Hid (i = 0 → wr.heap[b]? = some (.cells #[.pointer none, .slice none 0 0] 48))) (fun vi _ => n - (intOf vi).toNat)
 case atStart => exact ⟨0, Nat.zero_le _, rfl, Lib.hid (by rw [HTX.out]; exact HW1.out), Lib.hid (fun _ => HK.out)⟩
 case round =>
  obtain ⟨i, hi, rfl, HW, HZ⟩ := hrel
  have hm := HMON.out i hi
  by_cases hlt : i < n
  ·
   have hm1 := HMON.out (i + 1) (by omega)
   have hili : (i : Int) < (n : Int) := by omega
   obtain ⟨bA, oA, C, rfl, hpA, hrng, hel⟩ := Rw.open_ HR.out (by omega)
   have HRng := Lib.hid hrng
   have HEl := Lib.hid hel
   have HST : Hid (tx (i + 1) = tx i ++ T i) := Lib.hid (by rw [HTX.out]; rfl)
   have hm2 := hm1
   rw [HST.out] at hm2
   simp only [List.length_append] at hm2
   have HON : Hid (∀ v ∈ (C i).toArray.toList, v.oneCell' = true) := Lib.hid (by simpa using (lenM (p := Lo B) (w := w) (t := T i) ⟨d, (hel i hlt).2⟩).2)
   clear hrng hel HZ
   go_upto_region 4 with (fail)
   refine rs (S := PS B b _ w1) HW.out ?_
   refine qs (uI i euS_Module ezS_Module (hlt := hlt)) ?_
   simp only [setT, sC, sZ]
   refine qs (uW stt_Module (HEl.out i hlt).1 fun W hW => (HRng.out.at_ (HO.out.trans hW.low) (Nat.not_le.2 hpA) hlt)) ?_
   simp only [setT, sC, sZ]
   intro w3 hW3
   refine wpl_box rfl rfl 40 rfl 5 rfl (.tmp 13) rfl rfl Tryd.zeroValue40 (cells := (C i).toArray) (fun _ => rfl) (fun _ => rfl) stt_Module (by simp [(HEl.out i hlt).1]) rfl HON.out ?_
   refine ⟨fun w4 b5 HK5 ho4 ha5 hb5 => ?_⟩
   have HW4 := Lib.hid (hW3.only ho4.out)
   have HK5n : b5 ≠ b := HW4.out.ne HK5.out (by decide)
   have HO4 := Lib.hid (HO.out.trans HW4.out.low)
   clear hW3 ho4
   simp only [Act.put, List.setIfInBounds_toArray, sC, sZ]
   go_upto_region 5 with (fail)
   refine rs (S := PS B b _ w4) HW4.out.here ?_
   refine qs uMp ?_
   refine qs (uW stt_Module (HEl.out i hlt).1 fun W hW => wholeB (hW.heap HK5.out (by decide) HK5n)) ?_
   refine qs (uK (enter_p_module _) fun W hW => PrO.up hW (moP_any (l := _) (HTb.out.next (HO4.out.trans hW.low) hBw) hW.here (FM.only (HO4.out.trans hW.low) (fun _ h h2 => absurd h (Nat.not_lt.2 h2)) (HEl.out i hlt).2) (by unfold BP; omega))) ?_
   refine ds fun u1 hU1 => ?_
   simp only [setT, sC, sZ]
   replace hU1 : PS B b (tx (i + 1)) w4 u1 := by rw [HST.out]; simpa using hU1
   go_wp2_with fail
   go_roundw
   case rel => exact ⟨i + 1, by omega, by go_num, Lib.hid (HW4.out.trans hU1), Lib.hid (fun h => absurd h (Nat.succ_ne_zero _))⟩
   case measure => simp [intOf]; omega
  ·
   obtain rfl : i = n := by omega
   have hfin : Calls Tryd.prog 12 #[.pointer (some ⟨b, 0, none⟩)] wr fun e w' => e = .returned (.string (bstr (tx i))) ∧ Below B wr w' := by
    by_cases h0 : i = 0
    ·
     have h1 := HZ.out h0
     have h2 : tx i = [] := by rw [HTX.out, h0]; rfl
     rw [h2]
     exact string_nil B b _ wr h1
    ·
     exact string_some B b (tx i) wr HW.out.bld (HNE.out (by omega))
   have HF := Lib.hid hfin
   clear hfin HZ
   go_wp2_with fail
   refine HF.out.mono ?_
   rintro e w' ⟨rfl, hbb⟩
   have HBB := Lib.hid hbb
   clear hbb
   go_wp2_with fail
   go_ret
   refine StrO.mk rfl ?_
   have k1 : Below B w w1 := ⟨HO1.out.os, HO1.out.tape, HO1.out.output, HO1.out.size, fun k hk => HO1.out.block k (by omega) (fun h => h)⟩
   have k2 := (k1.trans HW.out.bel).trans HBB.out
   rw [HB.out] at k2
   exact Below.only k2
end Go.Proofs.YtbdcpealkllfnaaDoor
