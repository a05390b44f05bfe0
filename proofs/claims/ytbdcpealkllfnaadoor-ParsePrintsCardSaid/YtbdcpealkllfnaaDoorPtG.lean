/- The reference's printLoop, printSpan, printBinds, walked: the text of what lies in memory. No condition. -/
import Derived.Test.YtbdcpealkllfnaaDoorPtE
namespace Go.Proofs.YtbdcpealkllfnaaDoor
open Go.RowKit Go.Deep

theorem seg3 {a b c : Value} {V : List Value} : Seg (a :: b :: c :: V) 3 V := ⟨[a, b, c], [], by simp, rfl⟩
set_option maxRecDepth 100000 in
set_option maxHeartbeats 8000000 in
theorem loopR_any {d : Nat} {w : World} {p : Nat → Prop} {nm : LB} {A : Option Addr} {n c : Nat} {T : Nat → LB × Int} (hr : ExL d w p A n T) (hn : n = 3) (hlen : (loopL nm (fun i => (T i).1)).length ≤ BT) :
  Calls Tryd.prog 67 #[.string (bstr nm), .slice A n c] w (StrO (loopL nm (fun i => (T i).1)) w) := by
 obtain ⟨t, ht⟩ : ∃ t, t = loopL nm (fun i => (T i).1) := ⟨_, rfl⟩
 rw [← ht] at hlen ⊢
 have hL2 := hlen
 unfold BT at hL2
 have hL := hL2
 rw [ht] at hL
 unfold loopL at ht hL
 simp only [List.length_append, List.length_cons, List.length_nil] at hL
 have HT := Lib.hid ht
 obtain ⟨bA, oA, C, rfl, hpA, hrng, hel⟩ := Rw.open_ hr (by omega)
 have HRng := Lib.hid hrng
 have HEl := Lib.hid hel
 have hn3 : 3 ≤ n := by omega
 clear hr hn ht hrng hel hlen
 go_enter Tryd.func67, Tryd.ntmps67
 go_upto_region 1 with (fail)
 refine ro (S := Only (fun _ => False) w) (Only.refl _ _).drew (by kernel_rfl) (by kernel_rfl) (by kernel_rfl) ?_
 refine qo uMt ?_
 refine qo uS ?_
 refine qo uS ?_
 refine qo uMs ?_
 simp only [setT, sC, sZ]
 refine qo (uI 0 euS_Expr ezS_Expr) ?_
 refine qo (uW stt_Expr (HEl.out 0 (by omega)).1 fun W hW => (HRng.out.at_ hW (fun h => h) (show 0 < _ by omega))) ?_
 refine qo (uK (enter_PrintExpr _) fun W hW => StrO.up hW (pe_all d W p _ _ _ ((HEl.out 0 (by omega)).2.only hW (fun _ _ h => h)) (by unfold BT; omega))) ?_
 refine qo uS ?_
 simp only [setT, sC, sZ]
 refine qo uS ?_
 refine qo uMs ?_
 refine qo (uI 1 euS_Expr ezS_Expr) ?_
 refine qo (uW stt_Expr (HEl.out 1 (by omega)).1 fun W hW => (HRng.out.at_ hW (fun h => h) (show 1 < _ by omega))) ?_
 simp only [setT, sC, sZ]
 refine qo (uK (enter_PrintExpr _) fun W hW => StrO.up hW (pe_all d W p _ _ _ ((HEl.out 1 (by omega)).2.only hW (fun _ _ h => h)) (by unfold BT; omega))) ?_
 refine qo uS ?_
 refine qo uS ?_
 refine qo uMt ?_
 simp only [setT, sC, sZ]
 refine qo uS ?_
 refine qo uS ?_
 refine qo uMs ?_
 refine qo (uI 2 euS_Expr ezS_Expr) ?_
 simp only [setT, sC, sZ]
 refine qo (uW stt_Expr (HEl.out 2 (by omega)).1 fun W hW => (HRng.out.at_ hW (fun h => h) (show 2 < _ by omega))) ?_
 refine qo (uK (enter_PrintExpr _) fun W hW => StrO.up hW (pe_all d W p _ _ _ ((HEl.out 2 (by omega)).2.only hW (fun _ _ h => h)) (by unfold BT; omega))) ?_
 refine qo uS ?_
 refine qo (uSn HT.out) ?_
 simp only [setT, sC, sZ]
 refine qo (uA (.string (bstr t))) ?_
 refine dO fun w2 hW2 => ?_
 simp only [setT, sC, sZ]
 go_wp2
 go_ret
 exact StrO.mk rfl hW2
set_option maxRecDepth 100000 in
set_option maxHeartbeats 8000000 in
theorem spanR_any {d : Nat} {w : World} {p : Nat → Prop} {cs : List Value} {r : SpT} (h : PrR d w p cs r) (hlen : (spanT r).length ≤ BT) :
  Calls Tryd.prog 27 #[.agg cs.toArray] w (StrO (spanT r) w) := by
 obtain ⟨on, hi, lo⟩ := r
 obtain ⟨H, L, kH, kL, e, h1, h2⟩ := h
 replace e : cs = .bool on :: (H ++ L) := e
 subst e
 obtain ⟨t, ht⟩ : ∃ t, t = spanT (on, hi, lo) := ⟨_, rfl⟩
 rw [← ht] at hlen ⊢
 have hL2 := hlen
 unfold BT at hL2
 have HH := Lib.hid h1
 have HLo := Lib.hid h2
 have lh := Lib.hid h1.len
 have ll := Lib.hid h2.len
 clear h1 h2 hlen
 cases on with
 | false =>
  have HT : Hid (t = []) := Lib.hid ht
  clear ht
  go_enter Tryd.func27, Tryd.ntmps27
  go_wp2_with (refine wpl_boxv rfl 61 (.tmp 0) rfl (some 1) rfl (cells := (.bool false :: (H ++ L)).toArray) rfl ?_)
  refine ⟨fun w1 b1 HK HO ha1 hb1 => ?_⟩
  have c0 : w1.cell? ⟨b1, 0, none⟩ = some (.bool false) := cellB HK.out rfl
  go_wp2
  go_ret
  exact StrO.mk HT.out.symm HO.out
 | true =>
  have HT : Hid (t = [91] ++ hi ++ [58] ++ lo ++ [93, 32]) := Lib.hid ht
  have hL := hL2
  rw [HT.out] at hL
  simp only [List.length_append, List.length_cons, List.length_nil] at hL
  clear ht
  go_enter Tryd.func27, Tryd.ntmps27
  go_wp2_with (refine wpl_boxv rfl 61 (.tmp 0) rfl (some 1) rfl (cells := (.bool true :: (H ++ L)).toArray) rfl ?_)
  refine ⟨fun w1 b1 HK HO ha1 hb1 => ?_⟩
  have c0 : w1.cell? ⟨b1, 0, none⟩ = some (.bool true) := cellB HK.out rfl
  go_upto_region 3 with (fail)
  refine ro (S := Only (fun _ => False) w1) (Only.refl _ _).drew (by kernel_rfl) (by kernel_rfl) (by kernel_rfl) ?_
  refine qo (uF fd_Range_1) ?_
  refine qo (uW stt_Expr lh.out fun W hW => segB (boxG HK hW) ⟨[_], L, rfl, rfl⟩) ?_
  refine qo (uK (enter_PrintExpr _) fun W hW => StrO.up hW (pe_all d W p _ _ _ (HH.out.only (HO.out.trans hW) (fun _ _ h => h)) (by unfold BT; omega))) ?_
  refine qo uS ?_
  simp only [setT, sC, sZ]
  refine qo uS ?_
  refine qo (uF fd_Range_2) ?_
  refine qo (uW stt_Expr ll.out fun W hW => segB (boxG HK hW) ⟨.bool true :: H, [], by simp, by rw [List.length_cons, lh.out]⟩) ?_
  refine qo (uK (enter_PrintExpr _) fun W hW => StrO.up hW (pe_all d W p _ _ _ (HLo.out.only (HO.out.trans hW) (fun _ _ h => h)) (by unfold BT; omega))) ?_
  simp only [setT, sC, sZ]
  refine qo uS ?_
  refine qo (uSn HT.out) ?_
  refine qo (uA (.string (bstr t))) ?_
  refine dO fun w2 hW2 => ?_
  simp only [setT, sC, sZ]
  go_wp2
  go_ret
  exact StrO.mk rfl (HO.out.trans hW2)
set_option maxRecDepth 100000 in
set_option maxHeartbeats 8000000 in
theorem bindsR_any {d : Nat} {w : World} {p : Nat → Prop} {A : Option Addr} {n c : Nat} {T : Nat → BiT} (hr : Rw 58 10 w p A n (fun cs t => PrB d w p cs t) T) (hlen : (bindsL (fun i => bindT (T i)) n).length ≤ BT) :
  Calls Tryd.prog 66 #[.slice A n c] w (StrO (bindsL (fun i => bindT (T i)) n) w) := by
 have hn3 : n ≤ 3000000 := hr.1
 obtain ⟨tx, htx⟩ : ∃ x : Nat → LB, x = fun i => [40] ++ comL (fun i => bindT (T i)) i := ⟨_, rfl⟩
 have hfin : bindsL (fun i => bindT (T i)) n = tx n ++ [41] := by rw [htx]; rfl
 obtain ⟨tf, htf⟩ : ∃ x, x = tx n ++ [41] := ⟨_, rfl⟩
 rw [hfin, ← htf] at hlen ⊢
 have hl2 := hlen
 unfold BT at hl2
 have hl3 := congrArg List.length htf
 simp only [List.length_append, List.length_cons, List.length_nil] at hl3
 have hl4 : (tx n).length + 1 ≤ 1000000000000 := by omega
 have HTF := Lib.hid htf
 have HTX := Lib.hid htx
 have HMON : Hid (∀ i, i ≤ n → (tx i).length ≤ (tx n).length) := Lib.hid (fun i hi => by
  have := comL_mono (T := fun i => bindT (T i)) (n := n) i hi
  rw [htx]; simp only [List.length_append]; omega)
 have HR := Lib.hid hr
 clear hr htx htf hfin hlen hl3
 go_enter Tryd.func66, Tryd.ntmps66
 go_wp2
 go_loopw [3, 4] (fun vs vi wr => ∃ (i : Nat), i ≤ n ∧ vi = .int .i64 i ∧ vs = .string (bstr (tx i)) ∧ Hid (Only (fun _ => False) w wr)) (fun _ vi _ => n - (intOf vi).toNat)
 case atStart => exact ⟨0, Nat.zero_le _, rfl, by rw [HTX.out]; rfl, Lib.hid (Only.refl _ _)⟩
 case round =>
  obtain ⟨i, hi, rfl, rfl, HO⟩ := hrel
  have hm := HMON.out i hi
  by_cases hlt : i < n
  ·
   have hm1 := HMON.out (i + 1) (by omega)
   obtain ⟨bA, oA, C, rfl, hpA, hrng, hel⟩ := Rw.open_ HR.out (by omega)
   have HRng := Lib.hid hrng
   have hstep : tx (i + 1) = tx i ++ (if i = 0 then [] else [44, 32]) ++ bindT (T i) := by rw [HTX.out]; simp only [comL, List.append_assoc]
   have heli := hel i hlt
   obtain ⟨⟨bn, bg, bv⟩, hti⟩ : ∃ x, x = T i := ⟨_, rfl⟩
   rw [← hti] at hstep heli
   obtain ⟨hC7, at_, V, kV, hCi, hnl, hV⟩ := heli
   replace hCi : C i = .string (bstr bn) :: .int .i64 at_ :: .bool bg :: V := hCi
   replace hV : PrE d w p V bv kV := hV
   have HC := Lib.hid hCi
   have HV := Lib.hid hV
   have lv := Lib.hid hV.len
   have hgi : ∀ k, k = i → tx (k + 1) = tx k ++ (if k = 0 then [] else [44, 32]) ++ ([46] ++ bn ++ [40] ++ (if bg = true then bv else []) ++ [41]) := fun k hk => by subst hk; exact hstep
   clear hrng hel hti hCi hV hC7 hstep
   by_cases h0 : i = 0
   ·
    subst h0
    cases bg with
    | true =>
     have HST : Hid (tx (0 + 1) = tx 0 ++ [46] ++ bn ++ [40] ++ bv ++ [41]) := Lib.hid (by rw [hgi _ rfl]; simp)
     have hm2 := hm1
     rw [HST.out] at hm2
     simp only [List.length_append, List.length_cons, List.length_nil] at hm2
     clear hgi
     go_upto_region 7 with (fail)
     refine rs (S := Only (fun _ => False) wr) (Only.refl _ _) ?_
     refine qs uMt ?_
     refine qs uS ?_
     refine qs uMs ?_
     refine qs uMi ?_
     simp only [setT, sC, sZ]
     refine qs (uI 0 euS_Bind ezS_Bind (hlt := hlt)) ?_
     refine qs (uF fd_Bind_0) ?_
     refine qs (uC ctstring fun W hW => cellE (off := oA + 0 * 10) (m := 0) (v := .string (bstr bn)) (HRng.out.at_ (HO.out.trans hW) (fun h => h) hlt) (by rw [HC.out]; rfl)) ?_
     refine qs uS ?_
     simp only [setT, sC, sZ]
     refine qs uS ?_
     refine qs (uA (.string (bstr ((((tx 0) ++ [46]) ++ bn) ++ [40])))) ?_
     refine ds fun w3 hW3 => ?_
     simp only [setT, sC, sZ]
     go_upto_region 8 with (fail)
     refine rs hW3 ?_
     refine qs uMs ?_
     refine qs uMi ?_
     refine qs (uI 0 euS_Bind ezS_Bind (hlt := hlt)) ?_
     refine qs (uF fd_Bind_2) ?_
     simp only [setT, sC, sZ]
     refine qs (uC ctbool fun W hW => cellE (off := oA + 0 * 10) (m := 2) (v := .bool true) (HRng.out.at_ (HO.out.trans hW) (fun h => h) hlt) (by rw [HC.out]; rfl)) ?_
     refine ds fun w4 hW4 => ?_
     simp only [setT, sC, sZ]
     go_upto_region 9 with (fail)
     refine rs hW4 ?_
     refine qs uMt ?_
     refine qs uMs ?_
     refine qs uMi ?_
     refine qs (uI 0 euS_Bind ezS_Bind (hlt := hlt)) ?_
     simp only [setT, sC, sZ]
     refine qs (uF fd_Bind_3) ?_
     refine qs (uW stt_Expr lv.out fun W hW => segE (off := oA + 0 * 10) (m := 3) (HRng.out.at_ (HO.out.trans hW) (fun h => h) hlt) (by rw [HC.out]; exact seg3)) ?_
     refine qs (uK (enter_PrintExpr _) fun W hW => StrO.up hW (pe_all d W p _ _ _ (HV.out.only (HO.out.trans hW) (fun _ _ h => h)) (by unfold BT; omega))) ?_
     refine qs uS ?_
     simp only [setT, sC, sZ]
     refine qs (uA (.string (bstr (((((tx 0) ++ [46]) ++ bn) ++ [40]) ++ bv)))) ?_
     refine ds fun w5 hW5 => ?_
     simp only [setT, sC, sZ]
     go_upto_region 10 with (fail)
     refine rs hW5 ?_
     refine qs uMt ?_
     refine qs (uSn HST.out) ?_
     refine qs (uA (.string (bstr (tx (0 + 1))))) ?_
     refine ds fun w6 hW6 => ?_
     simp only [setT, sC, sZ]
     go_wp2
     go_roundw
     case rel => exact ⟨0 + 1, by omega, by go_num, rfl, Lib.hid (HO.out.trans hW6)⟩
     case measure => simp [intOf]; omega
    | false =>
     have HST : Hid (tx (0 + 1) = tx 0 ++ [46] ++ bn ++ [40] ++ [41]) := Lib.hid (by rw [hgi _ rfl]; simp)
     have hm2 := hm1
     rw [HST.out] at hm2
     simp only [List.length_append, List.length_cons, List.length_nil] at hm2
     clear hgi
     go_upto_region 7 with (fail)
     refine rs (S := Only (fun _ => False) wr) (Only.refl _ _) ?_
     refine qs uMt ?_
     refine qs uS ?_
     refine qs uMs ?_
     refine qs uMi ?_
     simp only [setT, sC, sZ]
     refine qs (uI 0 euS_Bind ezS_Bind (hlt := hlt)) ?_
     refine qs (uF fd_Bind_0) ?_
     refine qs (uC ctstring fun W hW => cellE (off := oA + 0 * 10) (m := 0) (v := .string (bstr bn)) (HRng.out.at_ (HO.out.trans hW) (fun h => h) hlt) (by rw [HC.out]; rfl)) ?_
     refine qs uS ?_
     simp only [setT, sC, sZ]
     refine qs uS ?_
     refine qs (uA (.string (bstr ((((tx 0) ++ [46]) ++ bn) ++ [40])))) ?_
     refine ds fun w3 hW3 => ?_
     simp only [setT, sC, sZ]
     go_upto_region 8 with (fail)
     refine rs hW3 ?_
     refine qs uMs ?_
     refine qs uMi ?_
     refine qs (uI 0 euS_Bind ezS_Bind (hlt := hlt)) ?_
     refine qs (uF fd_Bind_2) ?_
     simp only [setT, sC, sZ]
     refine qs (uC ctbool fun W hW => cellE (off := oA + 0 * 10) (m := 2) (v := .bool false) (HRng.out.at_ (HO.out.trans hW) (fun h => h) hlt) (by rw [HC.out]; rfl)) ?_
     refine ds fun w4 hW4 => ?_
     simp only [setT, sC, sZ]
     go_upto_region 10 with (fail)
     refine rs hW4 ?_
     refine qs uMt ?_
     refine qs (uSn HST.out) ?_
     refine qs (uA (.string (bstr (tx (0 + 1))))) ?_
     refine ds fun w6 hW6 => ?_
     simp only [setT, sC, sZ]
     go_wp2
     go_roundw
     case rel => exact ⟨0 + 1, by omega, by go_num, rfl, Lib.hid (HO.out.trans hW6)⟩
     case measure => simp [intOf]; omega
   ·
    have hip : (0 : Int) < (i : Int) := by omega
    cases bg with
    | true =>
     have HST : Hid (tx (i + 1) = tx i ++ [44, 32] ++ [46] ++ bn ++ [40] ++ bv ++ [41]) := Lib.hid (by rw [hgi _ rfl, if_neg h0]; simp)
     have hm2 := hm1
     rw [HST.out] at hm2
     simp only [List.length_append, List.length_cons, List.length_nil] at hm2
     clear hgi h0
     go_upto_region 6 with (fail)
     refine rs (S := Only (fun _ => False) wr) (Only.refl _ _) ?_
     refine qs uMt ?_
     refine qs uS ?_
     refine qs (uA (.string (bstr ((tx i) ++ [44, 32])))) ?_
     refine ds fun w2 hW2 => ?_
     simp only [setT, sC, sZ]
     go_upto_region 7 with (fail)
     refine rs hW2 ?_
     refine qs uMt ?_
     refine qs uS ?_
     refine qs uMs ?_
     refine qs uMi ?_
     simp only [setT, sC, sZ]
     refine qs (uI i euS_Bind ezS_Bind (hlt := hlt)) ?_
     refine qs (uF fd_Bind_0) ?_
     refine qs (uC ctstring fun W hW => cellE (off := oA + i * 10) (m := 0) (v := .string (bstr bn)) (HRng.out.at_ (HO.out.trans hW) (fun h => h) hlt) (by rw [HC.out]; rfl)) ?_
     refine qs uS ?_
     simp only [setT, sC, sZ]
     refine qs uS ?_
     refine qs (uA (.string (bstr (((((tx i) ++ [44, 32]) ++ [46]) ++ bn) ++ [40])))) ?_
     refine ds fun w3 hW3 => ?_
     simp only [setT, sC, sZ]
     go_upto_region 8 with (fail)
     refine rs hW3 ?_
     refine qs uMs ?_
     refine qs uMi ?_
     refine qs (uI i euS_Bind ezS_Bind (hlt := hlt)) ?_
     refine qs (uF fd_Bind_2) ?_
     simp only [setT, sC, sZ]
     refine qs (uC ctbool fun W hW => cellE (off := oA + i * 10) (m := 2) (v := .bool true) (HRng.out.at_ (HO.out.trans hW) (fun h => h) hlt) (by rw [HC.out]; rfl)) ?_
     refine ds fun w4 hW4 => ?_
     simp only [setT, sC, sZ]
     go_upto_region 9 with (fail)
     refine rs hW4 ?_
     refine qs uMt ?_
     refine qs uMs ?_
     refine qs uMi ?_
     refine qs (uI i euS_Bind ezS_Bind (hlt := hlt)) ?_
     simp only [setT, sC, sZ]
     refine qs (uF fd_Bind_3) ?_
     refine qs (uW stt_Expr lv.out fun W hW => segE (off := oA + i * 10) (m := 3) (HRng.out.at_ (HO.out.trans hW) (fun h => h) hlt) (by rw [HC.out]; exact seg3)) ?_
     refine qs (uK (enter_PrintExpr _) fun W hW => StrO.up hW (pe_all d W p _ _ _ (HV.out.only (HO.out.trans hW) (fun _ _ h => h)) (by unfold BT; omega))) ?_
     refine qs uS ?_
     simp only [setT, sC, sZ]
     refine qs (uA (.string (bstr ((((((tx i) ++ [44, 32]) ++ [46]) ++ bn) ++ [40]) ++ bv)))) ?_
     refine ds fun w5 hW5 => ?_
     simp only [setT, sC, sZ]
     go_upto_region 10 with (fail)
     refine rs hW5 ?_
     refine qs uMt ?_
     refine qs (uSn HST.out) ?_
     refine qs (uA (.string (bstr (tx (i + 1))))) ?_
     refine ds fun w6 hW6 => ?_
     simp only [setT, sC, sZ]
     go_wp2
     go_roundw
     case rel => exact ⟨i + 1, by omega, by go_num, rfl, Lib.hid (HO.out.trans hW6)⟩
     case measure => simp [intOf]; omega
    | false =>
     have HST : Hid (tx (i + 1) = tx i ++ [44, 32] ++ [46] ++ bn ++ [40] ++ [41]) := Lib.hid (by rw [hgi _ rfl, if_neg h0]; simp)
     have hm2 := hm1
     rw [HST.out] at hm2
     simp only [List.length_append, List.length_cons, List.length_nil] at hm2
     clear hgi h0
     go_upto_region 6 with (fail)
     refine rs (S := Only (fun _ => False) wr) (Only.refl _ _) ?_
     refine qs uMt ?_
     refine qs uS ?_
     refine qs (uA (.string (bstr ((tx i) ++ [44, 32])))) ?_
     refine ds fun w2 hW2 => ?_
     simp only [setT, sC, sZ]
     go_upto_region 7 with (fail)
     refine rs hW2 ?_
     refine qs uMt ?_
     refine qs uS ?_
     refine qs uMs ?_
     refine qs uMi ?_
     simp only [setT, sC, sZ]
     refine qs (uI i euS_Bind ezS_Bind (hlt := hlt)) ?_
     refine qs (uF fd_Bind_0) ?_
     refine qs (uC ctstring fun W hW => cellE (off := oA + i * 10) (m := 0) (v := .string (bstr bn)) (HRng.out.at_ (HO.out.trans hW) (fun h => h) hlt) (by rw [HC.out]; rfl)) ?_
     refine qs uS ?_
     simp only [setT, sC, sZ]
     refine qs uS ?_
     refine qs (uA (.string (bstr (((((tx i) ++ [44, 32]) ++ [46]) ++ bn) ++ [40])))) ?_
     refine ds fun w3 hW3 => ?_
     simp only [setT, sC, sZ]
     go_upto_region 8 with (fail)
     refine rs hW3 ?_
     refine qs uMs ?_
     refine qs uMi ?_
     refine qs (uI i euS_Bind ezS_Bind (hlt := hlt)) ?_
     refine qs (uF fd_Bind_2) ?_
     simp only [setT, sC, sZ]
     refine qs (uC ctbool fun W hW => cellE (off := oA + i * 10) (m := 2) (v := .bool false) (HRng.out.at_ (HO.out.trans hW) (fun h => h) hlt) (by rw [HC.out]; rfl)) ?_
     refine ds fun w4 hW4 => ?_
     simp only [setT, sC, sZ]
     go_upto_region 10 with (fail)
     refine rs hW4 ?_
     refine qs uMt ?_
     refine qs (uSn HST.out) ?_
     refine qs (uA (.string (bstr (tx (i + 1))))) ?_
     refine ds fun w6 hW6 => ?_
     simp only [setT, sC, sZ]
     go_wp2
     go_roundw
     case rel => exact ⟨i + 1, by omega, by go_num, rfl, Lib.hid (HO.out.trans hW6)⟩
     case measure => simp [intOf]; omega
  ·
   obtain rfl : i = n := by omega
   go_upto_region 11 with (fail)
   refine rs (S := Only (fun _ => False) wr) (Only.refl _ _) ?_
   refine qs uMt ?_
   refine qs (uSn HTF.out) ?_
   refine qs (uA (.string (bstr tf))) ?_
   refine ds fun w2 hW2 => ?_
   simp only [setT, sC, sZ]
   go_wp2
   go_ret
   exact StrO.mk rfl (HO.out.trans hW2)
end Go.Proofs.YtbdcpealkllfnaaDoor
