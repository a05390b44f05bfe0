/- The reference's printModule, PrintText, walked: the text of modules in memory. No condition. -/
import Derived.Test.YtbdcpealkllfnaaDoorPtI
namespace Go.Proofs.YtbdcpealkllfnaaDoor
open Go.RowKit Go.Deep

theorem seg4 {a b c d : Value} {V : List Value} : Seg (a :: b :: c :: d :: V) 4 V := ⟨[a, b, c, d], [], by simp, rfl⟩
set_option maxRecDepth 100000 in
set_option maxHeartbeats 8000000 in
theorem moR_any {d : Nat} {w : World} {p : Nat → Prop} {cs : List Value} {t : LB} (h : PrM d w p cs t) (hlen : t.length ≤ BT) :
  Calls Tryd.prog 13 #[.agg cs.toArray] w (StrO t w) := by
 obtain ⟨nm, at_, AP, AQ, AI, np, cp, nq, cq, ni, ci, TP, TQ, TI, e, hnm, hP, hQ, hI, ht⟩ := h
 subst e
 have hp3 : np ≤ 3000000 := hP.1
 have hq3 : nq ≤ 3000000 := hQ.1
 obtain ⟨ta, hta⟩ : ∃ x : Nat → LB, x = fun i => [109, 111, 100, 117, 108, 101, 32] ++ nm ++ [32] ++ catL (fun i => parT i (TP i)) i := ⟨_, rfl⟩
 obtain ⟨tb, htb⟩ : ∃ x : LB, x = ta np ++ (if 0 < np then [41, 32] else []) ++ [40] := ⟨_, rfl⟩
 obtain ⟨tc, htc⟩ : ∃ x : Nat → LB, x = fun i => tb ++ catL (fun i => portT i (TQ i)) i := ⟨_, rfl⟩
 obtain ⟨tI, htI⟩ : ∃ x, x = catL TI ni := ⟨_, rfl⟩
 replace ht : t = tc nq ++ [41, 59, 10] ++ tI ++ [101, 110, 100, 109, 111, 100, 117, 108, 101, 10] := by rw [ht, htc, htb, hta, htI]; simp only [modL, List.append_assoc]
 have HT := Lib.hid ht
 have hL2 := hlen
 unfold BT at hL2
 have hL := hL2
 rw [ht] at hL
 simp only [List.length_append, List.length_cons, List.length_nil] at hL
 have HTA := Lib.hid hta
 have HTB := Lib.hid htb
 have HTC := Lib.hid htc
 have HTI := Lib.hid htI
 have HMA : Hid (∀ i, i ≤ np → (ta i).length ≤ (ta np).length) := Lib.hid (fun i hi => by
  have := catL_mono (T := fun i => parT i (TP i)) (n := np) i hi
  rw [hta]; simp only [List.length_append]; omega)
 have HMC : Hid (∀ i, i ≤ nq → (tc i).length ≤ (tc nq).length) := Lib.hid (fun i hi => by
  have := catL_mono (T := fun i => portT i (TQ i)) (n := nq) i hi
  rw [htc]; simp only [List.length_append]; omega)
 have HX0 : Hid (ta 0 = [109, 111, 100, 117, 108, 101, 32] ++ nm ++ [32]) := Lib.hid (by rw [hta]; simp [catL])
 have HC0 : Hid (tc 0 = tb) := Lib.hid (by rw [htc]; simp [catL])
 have hb0 := HMC.out 0 (Nat.zero_le _)
 rw [HC0.out] at hb0
 have hab : (ta np).length + 1 ≤ tb.length := by rw [htb]; simp only [List.length_append, List.length_cons, List.length_nil]; omega
 have ha0 := HMA.out 0 (Nat.zero_le _)
 have ha00 := ha0
 rw [HX0.out] at ha00
 simp only [List.length_append, List.length_cons, List.length_nil] at ha00
 have HRP := Lib.hid hP
 have HRQ := Lib.hid hQ
 have HRI := Lib.hid hI
 clear hlen hta htb htc htI ht hP hQ hI hnm
 go_enter Tryd.func13, Tryd.ntmps13
 go_wp2_with (refine wpl_boxv rfl 40 (.tmp 0) rfl (some 1) rfl (cells := ([.string (bstr nm), .int .i64 at_, .slice AP np cp, .slice AQ nq cq, .slice AI ni ci] : List Value).toArray) rfl ?_)
 refine ⟨fun w1 b1 HK HO ha1 hb1 => ?_⟩
 go_upto_region 1 with (fail)
 refine rs (S := Only (fun _ => False) w1) (Only.refl _ _) ?_
 refine qs (uF fd_Module_0) ?_
 refine qs (uC ctstring fun W hW => cellB (boxG HK hW) rfl) ?_
 refine qs uS ?_
 refine qs (uSn HX0.out) ?_
 simp only [setT, sC, sZ]
 refine qs (uA (.string (bstr (ta 0)))) ?_
 refine ds fun w2 hW2 => ?_
 simp only [setT, sC, sZ]
 have HO0 := Lib.hid (HO.out.trans hW2)
 have HK0 := Lib.hid (boxG HK hW2)
 clear hW2
 go_wp2
 go_loopw [3, 4] (fun vs vi wr => ∃ (i : Nat), i ≤ np ∧ vi = .int .i64 i ∧ vs = .string (bstr (ta i)) ∧ Hid (Only (fun _ => False) w2 wr)) (fun _ vi _ => np - (intOf vi).toNat)
 case atStart => exact ⟨0, Nat.zero_le _, rfl, rfl, Lib.hid (Only.refl _ _)⟩
 case round =>
  obtain ⟨i, hi, rfl, rfl, HOr⟩ := hrel
  have HO2 := Lib.hid (HO0.out.trans HOr.out)
  have hm := HMA.out i hi
  have HK2 := Lib.hid (boxG HK0 HOr.out)
  by_cases hlt : i < np
  ·
   have hm1 := HMA.out (i + 1) (by omega)
   obtain ⟨bA, oA, C, rfl, hpA, hrng, hel⟩ := Rw.open_ HRP.out (by omega)
   have HRng := Lib.hid hrng
   have c2 : wr.cell? ⟨b1, 2, none⟩ = some (.slice (some ⟨bA, oA, none⟩) np cp) := cellB HK2.out rfl
   have hstep : ta (i + 1) = ta i ++ parT i (TP i) := by rw [HTA.out]; simp only [catL, List.append_assoc]
   have heli := hel i hlt
   obtain ⟨⟨bn, bg, bv⟩, hti⟩ : ∃ x, x = TP i := ⟨_, rfl⟩
   rw [← hti] at hstep heli
   obtain ⟨hC10, ab, V, kV, hCi, hnl, hV⟩ := heli
   replace hCi : C i = .string (bstr bn) :: .int .i64 ab :: .bool bg :: V := hCi
   replace hV : PrE d w p V bv kV := hV
   have HC := Lib.hid hCi
   have HV := Lib.hid hV
   have lv := Lib.hid hV.len
   have hgi : ∀ k, k = i → ta (k + 1) = ta k ++ ((if k = 0 then [35, 40] else [44, 32]) ++ bn ++ [32, 61, 32] ++ bv) := fun k hk => by subst hk; exact hstep
   clear hrng hel hti hCi hV hC10 hstep hnl
   by_cases h0 : i = 0
   ·
    subst h0
    have HST : Hid (ta (0 + 1) = ta 0 ++ [35, 40] ++ bn ++ [32, 61, 32] ++ bv) := Lib.hid (by rw [hgi _ rfl, if_pos rfl]; simp only [List.append_assoc])
    have hm2 := hm1
    rw [HST.out] at hm2
    simp only [List.length_append, List.length_cons, List.length_nil] at hm2
    clear hgi
    go_upto_region 6 with (fail)
    refine rs (S := Only (fun _ => False) wr) (Only.refl _ _) ?_
    refine qs uMt ?_
    refine qs uS ?_
    refine qs (uA (.string (bstr ((ta 0) ++ [35, 40])))) ?_
    refine ds fun w3 hW3 => ?_
    simp only [setT, sC, sZ]
    go_upto_region 8 with (fail)
    refine ro (S := Only (fun _ => False) wr) hW3.drew (by kernel_rfl) (by kernel_rfl) (by kernel_rfl) ?_
    refine qo uMt ?_
    refine qo (uF fd_Module_2) ?_
    refine qo (uC ctS_Bind fun W hW => cellB (boxG HK2 hW) rfl) ?_
    refine qo uMi ?_
    simp only [setT, sC, sZ]
    refine qo (uI 0 euS_Bind ezS_Bind (hlt := hlt)) ?_
    refine qo (uF fd_Bind_0) ?_
    refine qo (uC ctstring fun W hW => cellE (off := oA + 0 * 10) (m := 0) (v := .string (bstr bn)) (HRng.out.at_ (HO2.out.trans hW) (fun h => h) hlt) (by rw [HC.out]; rfl)) ?_
    refine qo uS ?_
    simp only [setT, sC, sZ]
    refine qo uS ?_
    refine qo (uF fd_Module_2) ?_
    refine qo (uC ctS_Bind fun W hW => cellB (boxG HK2 hW) rfl) ?_
    refine qo uMi ?_
    simp only [setT, sC, sZ]
    refine qo (uI 0 euS_Bind ezS_Bind (hlt := hlt)) ?_
    refine qo (uF fd_Bind_3) ?_
    refine qo (uW stt_Expr lv.out fun W hW => segE (off := oA + 0 * 10) (m := 3) (HRng.out.at_ (HO2.out.trans hW) (fun h => h) hlt) (by rw [HC.out]; exact seg3)) ?_
    refine qo (uK (enter_PrintExpr _) fun W hW => StrO.up hW (pe_all d W p _ _ _ (HV.out.only (HO2.out.trans hW) (fun _ _ h => h)) (by unfold BT; omega))) ?_
    simp only [setT, sC, sZ]
    refine qo (uSn HST.out) ?_
    refine qo (uA (.string (bstr (ta (0 + 1))))) ?_
    refine dO fun w4 hW4 => ?_
    simp only [setT, sC, sZ]
    go_wp2
    go_roundw
    case rel => exact ⟨0 + 1, by omega, by go_num, rfl, Lib.hid (HOr.out.trans hW4)⟩
    case measure => simp [intOf]; omega
   ·
    have hne : ((i : Int) == 0) = false := by rw [beq_eq_false_iff_ne]; omega
    have hne2 : ((i : Int) != 0) = true := by rw [bne_iff_ne]; omega
    have HST : Hid (ta (i + 1) = ta i ++ [44, 32] ++ bn ++ [32, 61, 32] ++ bv) := Lib.hid (by rw [hgi _ rfl, if_neg h0]; simp only [List.append_assoc])
    have hm2 := hm1
    rw [HST.out] at hm2
    simp only [List.length_append, List.length_cons, List.length_nil] at hm2
    clear hgi h0
    go_upto_region 7 with (fail)
    refine rs (S := Only (fun _ => False) wr) (Only.refl _ _) ?_
    refine qs uMt ?_
    refine qs uS ?_
    refine qs (uA (.string (bstr ((ta i) ++ [44, 32])))) ?_
    refine ds fun w3 hW3 => ?_
    simp only [setT, sC, sZ]
    go_upto_region 8 with (fail)
    refine ro (S := Only (fun _ => False) wr) hW3.drew (by kernel_rfl) (by kernel_rfl) (by kernel_rfl) ?_
    refine qo uMt ?_
    refine qo (uF fd_Module_2) ?_
    refine qo (uC ctS_Bind fun W hW => cellB (boxG HK2 hW) rfl) ?_
    refine qo uMi ?_
    simp only [setT, sC, sZ]
    refine qo (uI i euS_Bind ezS_Bind (hlt := hlt)) ?_
    refine qo (uF fd_Bind_0) ?_
    refine qo (uC ctstring fun W hW => cellE (off := oA + i * 10) (m := 0) (v := .string (bstr bn)) (HRng.out.at_ (HO2.out.trans hW) (fun h => h) hlt) (by rw [HC.out]; rfl)) ?_
    refine qo uS ?_
    simp only [setT, sC, sZ]
    refine qo uS ?_
    refine qo (uF fd_Module_2) ?_
    refine qo (uC ctS_Bind fun W hW => cellB (boxG HK2 hW) rfl) ?_
    refine qo uMi ?_
    simp only [setT, sC, sZ]
    refine qo (uI i euS_Bind ezS_Bind (hlt := hlt)) ?_
    refine qo (uF fd_Bind_3) ?_
    refine qo (uW stt_Expr lv.out fun W hW => segE (off := oA + i * 10) (m := 3) (HRng.out.at_ (HO2.out.trans hW) (fun h => h) hlt) (by rw [HC.out]; exact seg3)) ?_
    refine qo (uK (enter_PrintExpr _) fun W hW => StrO.up hW (pe_all d W p _ _ _ (HV.out.only (HO2.out.trans hW) (fun _ _ h => h)) (by unfold BT; omega))) ?_
    simp only [setT, sC, sZ]
    refine qo (uSn HST.out) ?_
    refine qo (uA (.string (bstr (ta (i + 1))))) ?_
    refine dO fun w4 hW4 => ?_
    simp only [setT, sC, sZ]
    go_wp2
    go_roundw
    case rel => exact ⟨i + 1, by omega, by go_num, rfl, Lib.hid (HOr.out.trans hW4)⟩
    case measure => simp [intOf]; omega
  ·
   obtain rfl : np = i := by omega
   have c2 : wr.cell? ⟨b1, 2, none⟩ = some (.slice AP np cp) := cellB HK2.out rfl
   obtain ⟨bn, hbn⟩ : ∃ b : Bool, decide ((0 : Int) < (np : Int)) = b := ⟨_, rfl⟩
   go_upto_region 9 with (fail)
   refine rs (S := Only (fun _ => False) wr) (Only.refl _ _) ?_
   refine qs (uF fd_Module_2) ?_
   refine qs (uC ctS_Bind fun W hW => cellB (boxG HK2 hW) rfl) ?_
   refine qs (uL euS_Bind) ?_
   refine qs (uQ (r := bn) (hr := hbn)) ?_
   simp only [setT, sC, sZ]
   refine ds fun w3 hW3 => ?_
   have HBN := Lib.hid hbn
   clear hbn
   obtain ⟨tm, htm⟩ : ∃ x, x = ta np ++ (if bn = true then [41, 32] else []) := ⟨_, rfl⟩
   have HTM := Lib.hid htm
   clear htm
   go_upto_if 44 with (fail)
   go_cut [3] (fun v3 wd => v3 = .string (bstr tm) ∧ Hid (Only (fun _ => False) wr wd))
   case first =>
    cases bn with
    | true =>
     have hnp : 0 < np := by have := of_decide_eq_true HBN.out; omega
     have hb2 : tm.length + 1 ≤ tb.length := by rw [HTB.out, if_pos hnp, HTM.out, if_pos rfl]; simp only [List.length_append, List.length_cons, List.length_nil]; omega
     go_upto_region 10 with (fail)
     refine rs hW3 ?_
     refine qs uMt ?_
     refine qs (uSn HTM.out) ?_
     refine qs (uA (.string (bstr tm))) ?_
     refine ds fun w4 hW4 => ?_
     simp only [setT, sC, sZ]
     go_wp2
     go_meet
     case rel => exact ⟨rfl, Lib.hid hW4⟩
    | false =>
     have hnp : ¬ 0 < np := by have := of_decide_eq_false HBN.out; omega
     go_wp2
     go_meet
     case rel => exact ⟨by rw [HTM.out]; simp, Lib.hid hW3⟩
   case rest =>
    obtain ⟨rfl, HOd⟩ := hcut
    have HTB2 : Hid (tb = tm ++ [40]) := Lib.hid (by
     rw [HTB.out, HTM.out]
     have : (bn = true) ↔ 0 < np := by rw [← HBN.out, decide_eq_true_iff]; omega
     by_cases h : 0 < np
     ·
      rw [if_pos h, if_pos (this.2 h)]
     ·
      rw [if_neg h, if_neg (fun h' => h (this.1 h'))])
    go_upto_region 11 with (fail)
    refine rs (S := Only (fun _ => False) wr) HOd.out ?_
    refine qs uMt ?_
    refine qs (uSn HTB2.out) ?_
    refine qs (uA (.string (bstr tb))) ?_
    refine ds fun wd0 hWd => ?_
    simp only [setT, sC, sZ]
    have HO4 := Lib.hid (HO2.out.trans hWd)
    have HK4 := Lib.hid (boxG HK2 hWd)
    clear hWd HOd hW3
    obtain ⟨we, hwe⟩ : ∃ x, x = wr := ⟨_, rfl⟩
    clear hwe we HO2 HK2 HOr hm hlt HRP hi
    go_wp2
    go_loopw [3, 5] (fun vs vi wq => ∃ (i : Nat), i ≤ nq ∧ vi = .int .i64 i ∧ vs = .string (bstr (tc i)) ∧ Hid (Only (fun _ => False) wd0 wq)) (fun _ vi _ => nq - (intOf vi).toNat)
    case atStart => exact ⟨0, Nat.zero_le _, rfl, by rw [HC0.out], Lib.hid (Only.refl _ _)⟩
    case round =>
     obtain ⟨i, hi, rfl, rfl, HOr⟩ := hrel
     have HO2 := Lib.hid (HO4.out.trans HOr.out)
     have hm := HMC.out i hi
     have HK2 := Lib.hid (boxG HK4 HOr.out)
     by_cases hlt : i < nq
     ·
      have hm1 := HMC.out (i + 1) (by omega)
      obtain ⟨bA, oA, C, rfl, hpA, hrng, hel⟩ := Rw.open_ HRQ.out (by omega)
      have HRng := Lib.hid hrng
      have c3 : wr.cell? ⟨b1, 3, none⟩ = some (.slice (some ⟨bA, oA, none⟩) nq cq) := cellB HK2.out rfl
      have hstep : tc (i + 1) = tc i ++ portT i (TQ i) := by rw [HTC.out]; simp only [catL, List.append_assoc]
      have heli := hel i hlt
      obtain ⟨⟨bo, bg, br, bn⟩, hti⟩ : ∃ x, x = TQ i := ⟨_, rfl⟩
      rw [← hti] at hstep heli
      obtain ⟨hC19, hpp⟩ := heli
      have HON := Lib.hid (oneP (p := p) (w := w) (t := (bo, bg, br, bn)) ⟨d, hpp⟩)
      obtain ⟨ab, V, hCi, hnl, hog, hV⟩ := hpp
      replace hCi : C i = .string (bstr bn) :: .int .i64 ab :: .bool bo :: .bool bg :: V := hCi
      replace hog : bg = true → bo = true := hog
      replace hV : PrR d w p V br := hV
      have HC := Lib.hid hCi
      have lc := Lib.hid hC19
      have HV := Lib.hid hV
      have lv := Lib.hid (PrR.len hV)
      have hgi : ∀ k, k = i → tc (k + 1) = tc k ++ ((if k = 0 then [] else [44, 32]) ++ (if bo = true ∧ bg = true then [111, 117, 116, 112, 117, 116, 32, 114, 101, 103, 32] else if bo = true then [111, 117, 116, 112, 117, 116, 32] else [105, 110, 112, 117, 116, 32]) ++ spanT br ++ bn) := fun k hk => by subst hk; exact hstep
      clear hrng hel hti hCi hV hC19 hstep hnl
      by_cases h0 : i = 0
      ·
       subst h0
       cases bg with
       | true =>
        obtain rfl : bo = true := hog rfl
        have HST : Hid (tc (0 + 1) = tc 0 ++ [111, 117, 116, 112, 117, 116, 32, 114, 101, 103, 32] ++ spanT br ++ bn) := Lib.hid (by rw [hgi _ rfl, if_pos rfl]; simp)
        have hm2 := hm1
        rw [HST.out] at hm2
        simp only [List.length_append, List.length_cons, List.length_nil] at hm2
        clear hgi hog
        go_upto_region 15 with (fail)
        refine rs (S := Only (fun _ => False) wr) (Only.refl _ _) ?_
        refine qs (uF fd_Module_3) ?_
        simp only [setT, sC, sZ]
        refine qs (uC ctS_Port fun W hW => cellB (boxG HK2 hW) rfl) ?_
        simp only [setT, sC, sZ]
        refine qs uMi ?_
        simp only [setT, sC, sZ]
        refine qs (uI 0 euS_Port ezS_Port (hlt := hlt)) ?_
        simp only [setT, sC, sZ]
        refine qs (uW stt_Port lc.out fun W hW => (HRng.out.at_ (HO2.out.trans hW) (fun h => h) hlt)) ?_
        simp only [setT, sC, sZ]
        intro w3 hW3
        refine wpl_box rfl rfl 63 rfl 6 rfl (.tmp 60) rfl rfl Tryd.zeroValue63 (cells := (C 0).toArray) (fun _ => rfl) (fun _ => rfl) stt_Port (by simp [lc.out]) rfl (by simpa using HON.out) ?_
        refine ⟨fun w4 b6 HK6 ho4 ha6 hb6 => ?_⟩
        have HO6 := Lib.hid (HO2.out.trans (hW3.trans ho4.out))
        have HO4r := Lib.hid (HOr.out.trans (hW3.trans ho4.out))
        clear hW3 ho4
        have d2 : w4.cell? ⟨b6, 2, none⟩ = some (.bool true) := cellB (boxG HK6 (Only.refl _ _)) (by rw [HC.out]; rfl)
        have d3 : w4.cell? ⟨b6, 3, none⟩ = some (.bool true) := cellB (boxG HK6 (Only.refl _ _)) (by rw [HC.out]; rfl)
        go_upto_region 19 with (fail)
        refine rs (S := Only (fun _ => False) w4) (Only.refl _ _) ?_
        refine qs uMt ?_
        refine qs uS ?_
        refine qs (uA (.string (bstr ((tc 0) ++ [111, 117, 116, 112, 117, 116, 32, 114, 101, 103, 32])))) ?_
        refine ds fun w6 hW6 => ?_
        simp only [setT, sC, sZ]
        go_upto_region 23 with (fail)
        refine ro (S := Only (fun _ => False) w4) hW6.drew (by kernel_rfl) (by kernel_rfl) (by kernel_rfl) ?_
        refine qo uMt ?_
        refine qo (uF fd_Port_4) ?_
        refine qo (uW stt_Range lv.out fun W hW => segB (boxG HK6 hW) (by rw [HC.out]; exact seg4)) ?_
        refine qo (uK (enter_printSpan _) fun W hW => StrO.up hW (spanR_any (FR.only (HO6.out.trans hW) (fun _ _ h => h) HV.out) (by unfold BT; omega))) ?_
        simp only [setT, sC, sZ]
        refine qo uS ?_
        refine qo (uF fd_Port_0) ?_
        refine qo (uC ctstring fun W hW => cellB (m := 0) (v := .string (bstr bn)) (boxG HK6 hW) (by rw [HC.out]; rfl)) ?_
        refine qo (uSn HST.out) ?_
        simp only [setT, sC, sZ]
        refine qo (uA (.string (bstr (tc (0 + 1))))) ?_
        refine dO fun w7 hW7 => ?_
        simp only [setT, sC, sZ]
        go_wp2
        go_roundw
        case rel => exact ⟨0 + 1, by omega, by go_num, rfl, Lib.hid (HO4r.out.trans hW7)⟩
        case measure => simp [intOf]; omega
       | false =>
        cases bo with
        | true =>
         have HST : Hid (tc (0 + 1) = tc 0 ++ [111, 117, 116, 112, 117, 116, 32] ++ spanT br ++ bn) := Lib.hid (by rw [hgi _ rfl, if_pos rfl]; simp)
         have hm2 := hm1
         rw [HST.out] at hm2
         simp only [List.length_append, List.length_cons, List.length_nil] at hm2
         clear hgi hog
         go_upto_region 15 with (fail)
         refine rs (S := Only (fun _ => False) wr) (Only.refl _ _) ?_
         refine qs (uF fd_Module_3) ?_
         simp only [setT, sC, sZ]
         refine qs (uC ctS_Port fun W hW => cellB (boxG HK2 hW) rfl) ?_
         simp only [setT, sC, sZ]
         refine qs uMi ?_
         simp only [setT, sC, sZ]
         refine qs (uI 0 euS_Port ezS_Port (hlt := hlt)) ?_
         simp only [setT, sC, sZ]
         refine qs (uW stt_Port lc.out fun W hW => (HRng.out.at_ (HO2.out.trans hW) (fun h => h) hlt)) ?_
         simp only [setT, sC, sZ]
         intro w3 hW3
         refine wpl_box rfl rfl 63 rfl 6 rfl (.tmp 60) rfl rfl Tryd.zeroValue63 (cells := (C 0).toArray) (fun _ => rfl) (fun _ => rfl) stt_Port (by simp [lc.out]) rfl (by simpa using HON.out) ?_
         refine ⟨fun w4 b6 HK6 ho4 ha6 hb6 => ?_⟩
         have HO6 := Lib.hid (HO2.out.trans (hW3.trans ho4.out))
         have HO4r := Lib.hid (HOr.out.trans (hW3.trans ho4.out))
         clear hW3 ho4
         have d2 : w4.cell? ⟨b6, 2, none⟩ = some (.bool true) := cellB (boxG HK6 (Only.refl _ _)) (by rw [HC.out]; rfl)
         have d3 : w4.cell? ⟨b6, 3, none⟩ = some (.bool false) := cellB (boxG HK6 (Only.refl _ _)) (by rw [HC.out]; rfl)
         go_upto_region 21 with (fail)
         refine rs (S := Only (fun _ => False) w4) (Only.refl _ _) ?_
         refine qs uMt ?_
         refine qs uS ?_
         refine qs (uA (.string (bstr ((tc 0) ++ [111, 117, 116, 112, 117, 116, 32])))) ?_
         refine ds fun w6 hW6 => ?_
         simp only [setT, sC, sZ]
         go_upto_region 23 with (fail)
         refine ro (S := Only (fun _ => False) w4) hW6.drew (by kernel_rfl) (by kernel_rfl) (by kernel_rfl) ?_
         refine qo uMt ?_
         refine qo (uF fd_Port_4) ?_
         refine qo (uW stt_Range lv.out fun W hW => segB (boxG HK6 hW) (by rw [HC.out]; exact seg4)) ?_
         refine qo (uK (enter_printSpan _) fun W hW => StrO.up hW (spanR_any (FR.only (HO6.out.trans hW) (fun _ _ h => h) HV.out) (by unfold BT; omega))) ?_
         simp only [setT, sC, sZ]
         refine qo uS ?_
         refine qo (uF fd_Port_0) ?_
         refine qo (uC ctstring fun W hW => cellB (m := 0) (v := .string (bstr bn)) (boxG HK6 hW) (by rw [HC.out]; rfl)) ?_
         refine qo (uSn HST.out) ?_
         simp only [setT, sC, sZ]
         refine qo (uA (.string (bstr (tc (0 + 1))))) ?_
         refine dO fun w7 hW7 => ?_
         simp only [setT, sC, sZ]
         go_wp2
         go_roundw
         case rel => exact ⟨0 + 1, by omega, by go_num, rfl, Lib.hid (HO4r.out.trans hW7)⟩
         case measure => simp [intOf]; omega
        | false =>
         have HST : Hid (tc (0 + 1) = tc 0 ++ [105, 110, 112, 117, 116, 32] ++ spanT br ++ bn) := Lib.hid (by rw [hgi _ rfl, if_pos rfl]; simp)
         have hm2 := hm1
         rw [HST.out] at hm2
         simp only [List.length_append, List.length_cons, List.length_nil] at hm2
         clear hgi hog
         go_upto_region 15 with (fail)
         refine rs (S := Only (fun _ => False) wr) (Only.refl _ _) ?_
         refine qs (uF fd_Module_3) ?_
         simp only [setT, sC, sZ]
         refine qs (uC ctS_Port fun W hW => cellB (boxG HK2 hW) rfl) ?_
         simp only [setT, sC, sZ]
         refine qs uMi ?_
         simp only [setT, sC, sZ]
         refine qs (uI 0 euS_Port ezS_Port (hlt := hlt)) ?_
         simp only [setT, sC, sZ]
         refine qs (uW stt_Port lc.out fun W hW => (HRng.out.at_ (HO2.out.trans hW) (fun h => h) hlt)) ?_
         simp only [setT, sC, sZ]
         intro w3 hW3
         refine wpl_box rfl rfl 63 rfl 6 rfl (.tmp 60) rfl rfl Tryd.zeroValue63 (cells := (C 0).toArray) (fun _ => rfl) (fun _ => rfl) stt_Port (by simp [lc.out]) rfl (by simpa using HON.out) ?_
         refine ⟨fun w4 b6 HK6 ho4 ha6 hb6 => ?_⟩
         have HO6 := Lib.hid (HO2.out.trans (hW3.trans ho4.out))
         have HO4r := Lib.hid (HOr.out.trans (hW3.trans ho4.out))
         clear hW3 ho4
         have d2 : w4.cell? ⟨b6, 2, none⟩ = some (.bool false) := cellB (boxG HK6 (Only.refl _ _)) (by rw [HC.out]; rfl)
         have d3 : w4.cell? ⟨b6, 3, none⟩ = some (.bool false) := cellB (boxG HK6 (Only.refl _ _)) (by rw [HC.out]; rfl)
         go_upto_region 22 with (fail)
         refine rs (S := Only (fun _ => False) w4) (Only.refl _ _) ?_
         refine qs uMt ?_
         refine qs uS ?_
         refine qs (uA (.string (bstr ((tc 0) ++ [105, 110, 112, 117, 116, 32])))) ?_
         refine ds fun w6 hW6 => ?_
         simp only [setT, sC, sZ]
         go_upto_region 23 with (fail)
         refine ro (S := Only (fun _ => False) w4) hW6.drew (by kernel_rfl) (by kernel_rfl) (by kernel_rfl) ?_
         refine qo uMt ?_
         refine qo (uF fd_Port_4) ?_
         refine qo (uW stt_Range lv.out fun W hW => segB (boxG HK6 hW) (by rw [HC.out]; exact seg4)) ?_
         refine qo (uK (enter_printSpan _) fun W hW => StrO.up hW (spanR_any (FR.only (HO6.out.trans hW) (fun _ _ h => h) HV.out) (by unfold BT; omega))) ?_
         simp only [setT, sC, sZ]
         refine qo uS ?_
         refine qo (uF fd_Port_0) ?_
         refine qo (uC ctstring fun W hW => cellB (m := 0) (v := .string (bstr bn)) (boxG HK6 hW) (by rw [HC.out]; rfl)) ?_
         refine qo (uSn HST.out) ?_
         simp only [setT, sC, sZ]
         refine qo (uA (.string (bstr (tc (0 + 1))))) ?_
         refine dO fun w7 hW7 => ?_
         simp only [setT, sC, sZ]
         go_wp2
         go_roundw
         case rel => exact ⟨0 + 1, by omega, by go_num, rfl, Lib.hid (HO4r.out.trans hW7)⟩
         case measure => simp [intOf]; omega
      ·
       have hip : (0 : Int) < (i : Int) := by omega
       cases bg with
       | true =>
        obtain rfl : bo = true := hog rfl
        have HST : Hid (tc (i + 1) = tc i ++ [44, 32] ++ [111, 117, 116, 112, 117, 116, 32, 114, 101, 103, 32] ++ spanT br ++ bn) := Lib.hid (by rw [hgi _ rfl, if_neg h0]; simp)
        have hm2 := hm1
        rw [HST.out] at hm2
        simp only [List.length_append, List.length_cons, List.length_nil] at hm2
        clear hgi hog h0
        go_upto_region 15 with (fail)
        refine rs (S := Only (fun _ => False) wr) (Only.refl _ _) ?_
        refine qs (uF fd_Module_3) ?_
        simp only [setT, sC, sZ]
        refine qs (uC ctS_Port fun W hW => cellB (boxG HK2 hW) rfl) ?_
        simp only [setT, sC, sZ]
        refine qs uMi ?_
        simp only [setT, sC, sZ]
        refine qs (uI i euS_Port ezS_Port (hlt := hlt)) ?_
        simp only [setT, sC, sZ]
        refine qs (uW stt_Port lc.out fun W hW => (HRng.out.at_ (HO2.out.trans hW) (fun h => h) hlt)) ?_
        simp only [setT, sC, sZ]
        intro w3 hW3
        refine wpl_box rfl rfl 63 rfl 6 rfl (.tmp 60) rfl rfl Tryd.zeroValue63 (cells := (C i).toArray) (fun _ => rfl) (fun _ => rfl) stt_Port (by simp [lc.out]) rfl (by simpa using HON.out) ?_
        refine ⟨fun w4 b6 HK6 ho4 ha6 hb6 => ?_⟩
        have HO6 := Lib.hid (HO2.out.trans (hW3.trans ho4.out))
        have HO4r := Lib.hid (HOr.out.trans (hW3.trans ho4.out))
        clear hW3 ho4
        go_upto_region 17 with (fail)
        refine rs (S := Only (fun _ => False) w4) (Only.refl _ _) ?_
        refine qs uMt ?_
        refine qs uS ?_
        refine qs (uA (.string (bstr ((tc i) ++ [44, 32])))) ?_
        refine ds fun w5 hW5 => ?_
        simp only [setT, sC, sZ]
        have d2 : w5.cell? ⟨b6, 2, none⟩ = some (.bool true) := cellB (boxG HK6 hW5) (by rw [HC.out]; rfl)
        have d3 : w5.cell? ⟨b6, 3, none⟩ = some (.bool true) := cellB (boxG HK6 hW5) (by rw [HC.out]; rfl)
        go_upto_region 19 with (fail)
        refine rs hW5 ?_
        refine qs uMt ?_
        refine qs uS ?_
        refine qs (uA (.string (bstr (((tc i) ++ [44, 32]) ++ [111, 117, 116, 112, 117, 116, 32, 114, 101, 103, 32])))) ?_
        refine ds fun w6 hW6 => ?_
        simp only [setT, sC, sZ]
        go_upto_region 23 with (fail)
        refine ro (S := Only (fun _ => False) w4) hW6.drew (by kernel_rfl) (by kernel_rfl) (by kernel_rfl) ?_
        refine qo uMt ?_
        refine qo (uF fd_Port_4) ?_
        refine qo (uW stt_Range lv.out fun W hW => segB (boxG HK6 hW) (by rw [HC.out]; exact seg4)) ?_
        refine qo (uK (enter_printSpan _) fun W hW => StrO.up hW (spanR_any (FR.only (HO6.out.trans hW) (fun _ _ h => h) HV.out) (by unfold BT; omega))) ?_
        simp only [setT, sC, sZ]
        refine qo uS ?_
        refine qo (uF fd_Port_0) ?_
        refine qo (uC ctstring fun W hW => cellB (m := 0) (v := .string (bstr bn)) (boxG HK6 hW) (by rw [HC.out]; rfl)) ?_
        refine qo (uSn HST.out) ?_
        simp only [setT, sC, sZ]
        refine qo (uA (.string (bstr (tc (i + 1))))) ?_
        refine dO fun w7 hW7 => ?_
        simp only [setT, sC, sZ]
        go_wp2
        go_roundw
        case rel => exact ⟨i + 1, by omega, by go_num, rfl, Lib.hid (HO4r.out.trans hW7)⟩
        case measure => simp [intOf]; omega
       | false =>
        cases bo with
        | true =>
         have HST : Hid (tc (i + 1) = tc i ++ [44, 32] ++ [111, 117, 116, 112, 117, 116, 32] ++ spanT br ++ bn) := Lib.hid (by rw [hgi _ rfl, if_neg h0]; simp)
         have hm2 := hm1
         rw [HST.out] at hm2
         simp only [List.length_append, List.length_cons, List.length_nil] at hm2
         clear hgi hog h0
         go_upto_region 15 with (fail)
         refine rs (S := Only (fun _ => False) wr) (Only.refl _ _) ?_
         refine qs (uF fd_Module_3) ?_
         simp only [setT, sC, sZ]
         refine qs (uC ctS_Port fun W hW => cellB (boxG HK2 hW) rfl) ?_
         simp only [setT, sC, sZ]
         refine qs uMi ?_
         simp only [setT, sC, sZ]
         refine qs (uI i euS_Port ezS_Port (hlt := hlt)) ?_
         simp only [setT, sC, sZ]
         refine qs (uW stt_Port lc.out fun W hW => (HRng.out.at_ (HO2.out.trans hW) (fun h => h) hlt)) ?_
         simp only [setT, sC, sZ]
         intro w3 hW3
         refine wpl_box rfl rfl 63 rfl 6 rfl (.tmp 60) rfl rfl Tryd.zeroValue63 (cells := (C i).toArray) (fun _ => rfl) (fun _ => rfl) stt_Port (by simp [lc.out]) rfl (by simpa using HON.out) ?_
         refine ⟨fun w4 b6 HK6 ho4 ha6 hb6 => ?_⟩
         have HO6 := Lib.hid (HO2.out.trans (hW3.trans ho4.out))
         have HO4r := Lib.hid (HOr.out.trans (hW3.trans ho4.out))
         clear hW3 ho4
         go_upto_region 17 with (fail)
         refine rs (S := Only (fun _ => False) w4) (Only.refl _ _) ?_
         refine qs uMt ?_
         refine qs uS ?_
         refine qs (uA (.string (bstr ((tc i) ++ [44, 32])))) ?_
         refine ds fun w5 hW5 => ?_
         simp only [setT, sC, sZ]
         have d2 : w5.cell? ⟨b6, 2, none⟩ = some (.bool true) := cellB (boxG HK6 hW5) (by rw [HC.out]; rfl)
         have d3 : w5.cell? ⟨b6, 3, none⟩ = some (.bool false) := cellB (boxG HK6 hW5) (by rw [HC.out]; rfl)
         go_upto_region 21 with (fail)
         refine rs hW5 ?_
         refine qs uMt ?_
         refine qs uS ?_
         refine qs (uA (.string (bstr (((tc i) ++ [44, 32]) ++ [111, 117, 116, 112, 117, 116, 32])))) ?_
         refine ds fun w6 hW6 => ?_
         simp only [setT, sC, sZ]
         go_upto_region 23 with (fail)
         refine ro (S := Only (fun _ => False) w4) hW6.drew (by kernel_rfl) (by kernel_rfl) (by kernel_rfl) ?_
         refine qo uMt ?_
         refine qo (uF fd_Port_4) ?_
         refine qo (uW stt_Range lv.out fun W hW => segB (boxG HK6 hW) (by rw [HC.out]; exact seg4)) ?_
         refine qo (uK (enter_printSpan _) fun W hW => StrO.up hW (spanR_any (FR.only (HO6.out.trans hW) (fun _ _ h => h) HV.out) (by unfold BT; omega))) ?_
         simp only [setT, sC, sZ]
         refine qo uS ?_
         refine qo (uF fd_Port_0) ?_
         refine qo (uC ctstring fun W hW => cellB (m := 0) (v := .string (bstr bn)) (boxG HK6 hW) (by rw [HC.out]; rfl)) ?_
         refine qo (uSn HST.out) ?_
         simp only [setT, sC, sZ]
         refine qo (uA (.string (bstr (tc (i + 1))))) ?_
         refine dO fun w7 hW7 => ?_
         simp only [setT, sC, sZ]
         go_wp2
         go_roundw
         case rel => exact ⟨i + 1, by omega, by go_num, rfl, Lib.hid (HO4r.out.trans hW7)⟩
         case measure => simp [intOf]; omega
        | false =>
         have HST : Hid (tc (i + 1) = tc i ++ [44, 32] ++ [105, 110, 112, 117, 116, 32] ++ spanT br ++ bn) := Lib.hid (by rw [hgi _ rfl, if_neg h0]; simp)
         have hm2 := hm1
         rw [HST.out] at hm2
         simp only [List.length_append, List.length_cons, List.length_nil] at hm2
         clear hgi hog h0
         go_upto_region 15 with (fail)
         refine rs (S := Only (fun _ => False) wr) (Only.refl _ _) ?_
         refine qs (uF fd_Module_3) ?_
         simp only [setT, sC, sZ]
         refine qs (uC ctS_Port fun W hW => cellB (boxG HK2 hW) rfl) ?_
         simp only [setT, sC, sZ]
         refine qs uMi ?_
         simp only [setT, sC, sZ]
         refine qs (uI i euS_Port ezS_Port (hlt := hlt)) ?_
         simp only [setT, sC, sZ]
         refine qs (uW stt_Port lc.out fun W hW => (HRng.out.at_ (HO2.out.trans hW) (fun h => h) hlt)) ?_
         simp only [setT, sC, sZ]
         intro w3 hW3
         refine wpl_box rfl rfl 63 rfl 6 rfl (.tmp 60) rfl rfl Tryd.zeroValue63 (cells := (C i).toArray) (fun _ => rfl) (fun _ => rfl) stt_Port (by simp [lc.out]) rfl (by simpa using HON.out) ?_
         refine ⟨fun w4 b6 HK6 ho4 ha6 hb6 => ?_⟩
         have HO6 := Lib.hid (HO2.out.trans (hW3.trans ho4.out))
         have HO4r := Lib.hid (HOr.out.trans (hW3.trans ho4.out))
         clear hW3 ho4
         go_upto_region 17 with (fail)
         refine rs (S := Only (fun _ => False) w4) (Only.refl _ _) ?_
         refine qs uMt ?_
         refine qs uS ?_
         refine qs (uA (.string (bstr ((tc i) ++ [44, 32])))) ?_
         refine ds fun w5 hW5 => ?_
         simp only [setT, sC, sZ]
         have d2 : w5.cell? ⟨b6, 2, none⟩ = some (.bool false) := cellB (boxG HK6 hW5) (by rw [HC.out]; rfl)
         have d3 : w5.cell? ⟨b6, 3, none⟩ = some (.bool false) := cellB (boxG HK6 hW5) (by rw [HC.out]; rfl)
         go_upto_region 22 with (fail)
         refine rs hW5 ?_
         refine qs uMt ?_
         refine qs uS ?_
         refine qs (uA (.string (bstr (((tc i) ++ [44, 32]) ++ [105, 110, 112, 117, 116, 32])))) ?_
         refine ds fun w6 hW6 => ?_
         simp only [setT, sC, sZ]
         go_upto_region 23 with (fail)
         refine ro (S := Only (fun _ => False) w4) hW6.drew (by kernel_rfl) (by kernel_rfl) (by kernel_rfl) ?_
         refine qo uMt ?_
         refine qo (uF fd_Port_4) ?_
         refine qo (uW stt_Range lv.out fun W hW => segB (boxG HK6 hW) (by rw [HC.out]; exact seg4)) ?_
         refine qo (uK (enter_printSpan _) fun W hW => StrO.up hW (spanR_any (FR.only (HO6.out.trans hW) (fun _ _ h => h) HV.out) (by unfold BT; omega))) ?_
         simp only [setT, sC, sZ]
         refine qo uS ?_
         refine qo (uF fd_Port_0) ?_
         refine qo (uC ctstring fun W hW => cellB (m := 0) (v := .string (bstr bn)) (boxG HK6 hW) (by rw [HC.out]; rfl)) ?_
         refine qo (uSn HST.out) ?_
         simp only [setT, sC, sZ]
         refine qo (uA (.string (bstr (tc (i + 1))))) ?_
         refine dO fun w7 hW7 => ?_
         simp only [setT, sC, sZ]
         go_wp2
         go_roundw
         case rel => exact ⟨i + 1, by omega, by go_num, rfl, Lib.hid (HO4r.out.trans hW7)⟩
         case measure => simp [intOf]; omega
     ·
      obtain rfl : i = nq := by omega
      have c3 : wr.cell? ⟨b1, 3, none⟩ = some (.slice AQ i cq) := cellB HK2.out rfl
      go_upto_region 24 with (fail)
      refine rs (S := Only (fun _ => False) wr) (Only.refl _ _) ?_
      refine qs uMt ?_
      refine qs uS ?_
      refine qs (uF fd_Module_4) ?_
      refine qs (uC ctS_Item fun W hW => cellB (boxG HK2 hW) rfl) ?_
      simp only [setT, sC, sZ]
      refine qs (uK (enter_printItems _) fun W hW => StrO.upR HTI.out hW (is_of (pi_all d) W p _ _ _ _ (Rw.only HRI.out (HO2.out.trans hW) (fun _ _ h => h) (fun _ _ h => PrI.only (HO2.out.trans hW) (fun _ _ h => h) h)) (by rw [← HTI.out]; unfold BT; omega))) ?_
      refine qs uS ?_
      refine qs (uSn HT.out) ?_
      refine qs (uA (.string (bstr t))) ?_
      simp only [setT, sC, sZ]
      refine ds fun we hWe => ?_
      go_wp2
      go_ret
      exact StrO.mk rfl (HO2.out.trans hWe)
set_option maxRecDepth 100000 in
set_option maxHeartbeats 8000000 in
theorem textR_any {d : Nat} {w : World} {p : Nat → Prop} {A : Option Addr} {n c : Nat} {T : Nat → LB} (hr : Rw 40 5 w p A n (fun cs t => PrM d w p cs t) T) (hlen : (catL T n).length ≤ BT) :
  Calls Tryd.prog 8 #[.slice A n c] w (StrO (catL T n) w) := by
 have hn3 : n ≤ 3000000 := hr.1
 obtain ⟨tx, htx⟩ : ∃ x, x = catL T := ⟨_, rfl⟩
 rw [← htx] at hlen ⊢
 have HTX := Lib.hid htx
 have HMON := Lib.hid (catL_mono (T := T) (n := n))
 rw [← htx] at HMON
 have hl2 := hlen
 unfold BT at hl2
 have HR := Lib.hid hr
 clear hr htx hlen
 go_enter Tryd.func8, Tryd.ntmps8
 go_wp2
 go_loopw [3, 4] (fun vs vi wr => ∃ (i : Nat), i ≤ n ∧ vi = .int .i64 i ∧ vs = .string (bstr (tx i)) ∧ Hid (Only (fun _ => False) w wr)) (fun _ vi _ => n - (intOf vi).toNat)
 case atStart => exact ⟨0, Nat.zero_le _, rfl, by rw [HTX.out]; rfl, Lib.hid (Only.refl _ _)⟩
 case round =>
  obtain ⟨i, hi, rfl, rfl, HO⟩ := hrel
  have hm := HMON.out i hi
  by_cases hlt : i < n
  ·
   have hm1 := HMON.out (i + 1) (by omega)
   have HST : Hid (tx (i + 1) = tx i ++ T i) := Lib.hid (by rw [HTX.out]; rfl)
   have hm2 := hm1
   rw [HST.out] at hm2
   simp only [List.length_append] at hm2
   obtain ⟨bA, oA, C, rfl, hpA, hrng, hel⟩ := Rw.open_ HR.out (by omega)
   have HRng := Lib.hid hrng
   have HEl := Lib.hid hel
   clear hrng hel
   go_upto_region 5 with (fail)
   refine rs (S := Only (fun _ => False) wr) (Only.refl _ _) ?_
   refine qs uMt ?_
   refine qs uMs ?_
   refine qs uMi ?_
   refine qs (uI i euS_Module ezS_Module (hlt := hlt)) ?_
   simp only [setT, sC, sZ]
   refine qs (uW stt_Module (HEl.out i hlt).1 fun W hW => (HRng.out.at_ (HO.out.trans hW) (fun h => h) hlt)) ?_
   refine qs (uK (enter_printModule _) fun W hW => StrO.up hW (moR_any (FM.only (HO.out.trans hW) (fun _ _ h => h) (HEl.out i hlt).2) (by unfold BT; omega))) ?_
   refine qs (uSn HST.out) ?_
   refine qs (uA (.string (bstr (tx (i + 1))))) ?_
   simp only [setT, sC, sZ]
   refine ds fun w3 hW3 => ?_
   go_wp2
   go_roundw
   case rel => exact ⟨i + 1, by omega, by go_num, rfl, Lib.hid (HO.out.trans hW3)⟩
   case measure => simp [intOf]; omega
  ·
   obtain rfl : i = n := by omega
   go_wp2
   go_ret
   exact StrO.mk rfl HO.out
end Go.Proofs.YtbdcpealkllfnaaDoor
