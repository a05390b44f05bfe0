/- The printer's loop, span, binds, walked. Conditions: what is printed lies below the builder, the tables read as laid. -/
import Derived.Test.YtbdcpealkllfnaaDoorPfE
namespace Go.Proofs.YtbdcpealkllfnaaDoor
open Go.RowKit Go.Deep

theorem oneB2 {d : Nat} {w : World} {p : Nat → Prop} {cs : List Value} {t : BiT} (h : PrB d w p cs t) : ∀ v ∈ cs.toArray.toList, v.oneCell' = true := fun v hv => oneB (p := p) (w := w) (t := t) ⟨d, h⟩ v (by simpa using hv)
set_option maxRecDepth 100000 in
set_option maxHeartbeats 8000000 in
theorem loopP_any {d : Nat} {B b : Nat} {l : LB} {w : World} {nm : LB} {A : Option Addr} {n c : Nat} {T : Nat → LB × Int} (hT : Tabs B w) (hp : PS B b l w w) (hr : ExL d w (Lo B) A n T) (hn : n = 3) (hlen : l.length + (loopL nm (fun i => (T i).1)).length ≤ BP) :
  Calls Tryd.prog 46 #[.pointer (some ⟨b, 0, none⟩), .string (bstr nm), .slice A n c] w (PrO B b (l ++ loopL nm (fun i => (T i).1)) w) := by
 obtain ⟨t, ht⟩ : ∃ t, t = loopL nm (fun i => (T i).1) := ⟨_, rfl⟩
 rw [← ht] at hlen ⊢
 have hL := hlen
 rw [ht] at hL
 unfold loopL at ht hL
 simp only [List.length_append, List.length_cons, List.length_nil, BP] at hL
 have HT := Lib.hid ht
 obtain ⟨bA, oA, C, rfl, hpA, hrng, hel⟩ := Rw.open_ hr (by omega)
 have HRng := Lib.hid hrng
 have HEl := Lib.hid hel
 have hn3 : 3 ≤ n := by omega
 have hBw := hp.sz
 have HTb := Lib.hid hT
 have H0 := Lib.hid hp
 have HO : Hid (Only (fun i => B ≤ i) w w) := Lib.hid (Only.refl _ _)
 clear hr hn ht hrng hel hlen hT hp
 go_enter Tryd.func46, Tryd.ntmps46
 go_upto_region 0 with (fail)
 refine rs (S := PS B b _ w) H0.out ?_
 refine qs uMp ?_
 refine qs uMt ?_
 refine putS [[102, 111, 114, 32, 40], nm, [32, 61, 32]] (bs3 _ _ _) (by simp [BP]; omega) (fun _ => ?_)
 refine ds fun u0 hU0 => ?_
 simp only [setT, sC, sZ]
 go_upto_region 1 with (fail)
 refine rs hU0 ?_
 refine qs uMp ?_
 refine qs uMs ?_
 refine qs (uI 0 euS_Expr ezS_Expr) ?_
 refine qs (uW stt_Expr (HEl.out 0 (by omega)).1 fun W hW => (HRng.out.at_ (HO.out.trans hW.low) (Nat.not_le.2 hpA) (show 0 < _ by omega))) ?_
 simp only [setT, sC, sZ]
 refine qs (uK (enter_p_expr _) fun W hW => PrO.up hW (fe_all d B b _ W _ _ _ (HTb.out.next (HO.out.trans hW.low) hBw) hW.here ((HEl.out 0 (by omega)).2.only (HO.out.trans hW.low) (fun _ h h2 => absurd h (Nat.not_lt.2 h2))) (by simp [BP]; omega))) ?_
 refine ds fun u1 hU1 => ?_
 simp only [setT, sC, sZ]
 go_upto_region 2 with (fail)
 refine rs hU1 ?_
 refine qs uMp ?_
 refine putS [[59, 32]] (bs1 _) (by simp [BP]; omega) (fun _ => ?_)
 refine ds fun u2 hU2 => ?_
 simp only [setT, sC, sZ]
 go_upto_region 3 with (fail)
 refine rs hU2 ?_
 refine qs uMp ?_
 refine qs uMs ?_
 refine qs (uI 1 euS_Expr ezS_Expr) ?_
 refine qs (uW stt_Expr (HEl.out 1 (by omega)).1 fun W hW => (HRng.out.at_ (HO.out.trans hW.low) (Nat.not_le.2 hpA) (show 1 < _ by omega))) ?_
 simp only [setT, sC, sZ]
 refine qs (uK (enter_p_expr _) fun W hW => PrO.up hW (fe_all d B b _ W _ _ _ (HTb.out.next (HO.out.trans hW.low) hBw) hW.here ((HEl.out 1 (by omega)).2.only (HO.out.trans hW.low) (fun _ h h2 => absurd h (Nat.not_lt.2 h2))) (by simp [BP]; omega))) ?_
 refine ds fun u3 hU3 => ?_
 simp only [setT, sC, sZ]
 go_upto_region 4 with (fail)
 refine rs hU3 ?_
 refine qs uMp ?_
 refine qs uMt ?_
 refine putS [[59, 32], nm, [32, 61, 32]] (bs3 _ _ _) (by simp [BP]; omega) (fun _ => ?_)
 refine ds fun u4 hU4 => ?_
 simp only [setT, sC, sZ]
 go_upto_region 5 with (fail)
 refine rs hU4 ?_
 refine qs uMp ?_
 refine qs uMs ?_
 refine qs (uI 2 euS_Expr ezS_Expr) ?_
 refine qs (uW stt_Expr (HEl.out 2 (by omega)).1 fun W hW => (HRng.out.at_ (HO.out.trans hW.low) (Nat.not_le.2 hpA) (show 2 < _ by omega))) ?_
 simp only [setT, sC, sZ]
 refine qs (uK (enter_p_expr _) fun W hW => PrO.up hW (fe_all d B b _ W _ _ _ (HTb.out.next (HO.out.trans hW.low) hBw) hW.here ((HEl.out 2 (by omega)).2.only (HO.out.trans hW.low) (fun _ h h2 => absurd h (Nat.not_lt.2 h2))) (by simp [BP]; omega))) ?_
 refine ds fun u5 hU5 => ?_
 simp only [setT, sC, sZ]
 go_upto_region 6 with (fail)
 refine rs hU5 ?_
 refine qs uMp ?_
 refine putS [[41, 32]] (bs1 _) (by simp [BP]; omega) (fun _ => ?_)
 refine ds fun u6 hU6 => ?_
 simp only [setT, sC, sZ]
 go_wp2_with fail
 go_end0
 exact ⟨rfl, by rw [HT.out]; simpa using hU6⟩
set_option maxRecDepth 100000 in
set_option maxHeartbeats 8000000 in
theorem spanP_any {d : Nat} {B b : Nat} {l : LB} {w : World} {cs : List Value} {r : SpT} (hT : Tabs B w) (hp : PS B b l w w) (h : PrR d w (Lo B) cs r) (hlen : l.length + (spanT r).length ≤ BP) :
  Calls Tryd.prog 24 #[.pointer (some ⟨b, 0, none⟩), .agg cs.toArray] w (PrO B b (l ++ spanT r) w) := by
 obtain ⟨on, hi, lo⟩ := r
 obtain ⟨H, L, kH, kL, e, h1, h2⟩ := h
 replace e : cs = .bool on :: (H ++ L) := e
 subst e
 obtain ⟨t, ht⟩ : ∃ t, t = spanT (on, hi, lo) := ⟨_, rfl⟩
 rw [← ht] at hlen ⊢
 have HH := Lib.hid h1
 have HLo := Lib.hid h2
 have lh := Lib.hid h1.len
 have ll := Lib.hid h2.len
 have hBw := hp.sz
 have HTb := Lib.hid hT
 have H0 := Lib.hid hp
 clear h1 h2 hT hp
 cases on with
 | false =>
  have HT : Hid (t = []) := Lib.hid ht
  clear ht hlen
  go_enter Tryd.func24, Tryd.ntmps24
  go_wp2_with (refine wpl_boxv rfl 61 (.tmp 1) rfl (some 3) rfl (cells := (.bool false :: (H ++ L)).toArray) rfl ?_)
  refine ⟨fun w1 b1 HK ho1 ha1 hb1 => ?_⟩
  have H01 := Lib.hid (H0.out.only ho1.out)
  have HKn : b1 ≠ b := H01.out.ne HK.out (by decide)
  have HO : Hid (Only (fun i => B ≤ i) w w1) := Lib.hid (ho1.out.mono (fun _ _ h => h.elim))
  clear ho1 H0
  have c0 : w1.cell? ⟨b1, 0, none⟩ = some (.bool false) := cellB HK.out rfl
  go_wp2_with fail
  go_end0
  exact ⟨rfl, by rw [HT.out, List.append_nil]; exact H01.out⟩
 | true =>
  have HT : Hid (t = [91] ++ hi ++ [58] ++ lo ++ [93, 32]) := Lib.hid ht
  have hL := hlen
  rw [HT.out] at hL
  simp only [List.length_append, List.length_cons, List.length_nil, BP] at hL
  clear ht hlen
  go_enter Tryd.func24, Tryd.ntmps24
  go_wp2_with (refine wpl_boxv rfl 61 (.tmp 1) rfl (some 3) rfl (cells := (.bool true :: (H ++ L)).toArray) rfl ?_)
  refine ⟨fun w1 b1 HK ho1 ha1 hb1 => ?_⟩
  have H01 := Lib.hid (H0.out.only ho1.out)
  have HKn : b1 ≠ b := H01.out.ne HK.out (by decide)
  have HO : Hid (Only (fun i => B ≤ i) w w1) := Lib.hid (ho1.out.mono (fun _ _ h => h.elim))
  clear ho1 H0
  have c0 : w1.cell? ⟨b1, 0, none⟩ = some (.bool true) := cellB HK.out rfl
  go_upto_region 2 with (fail)
  refine rs (S := PS B b _ w1) H01.out.here ?_
  refine qs uMp ?_
  refine putS [[91]] (bs1 _) (by simp [BP]; omega) (fun _ => ?_)
  refine ds fun u2 hU2 => ?_
  simp only [setT, sC, sZ]
  go_upto_region 3 with (fail)
  refine rs hU2 ?_
  refine qs uMp ?_
  refine qs (uF fd_Range_1) ?_
  refine qs (uW stt_Expr lh.out fun W hW => segB (hW.heap HK.out (by decide) HKn) ⟨[_], L, rfl, rfl⟩) ?_
  refine qs (uK (enter_p_expr _) fun W hW => PrO.up hW (fe_all d B b _ W _ _ _ (HTb.out.next (HO.out.trans hW.low) hBw) hW.here (HH.out.only (HO.out.trans hW.low) (fun _ h h2 => absurd h (Nat.not_lt.2 h2))) (by simp [BP]; omega))) ?_
  simp only [setT, sC, sZ]
  refine ds fun u3 hU3 => ?_
  go_upto_region 4 with (fail)
  refine rs hU3 ?_
  refine qs uMp ?_
  refine putS [[58]] (bs1 _) (by simp [BP]; omega) (fun _ => ?_)
  refine ds fun u4 hU4 => ?_
  simp only [setT, sC, sZ]
  go_upto_region 5 with (fail)
  refine rs hU4 ?_
  refine qs uMp ?_
  refine qs (uF fd_Range_2) ?_
  refine qs (uW stt_Expr ll.out fun W hW => segB (hW.heap HK.out (by decide) HKn) ⟨.bool true :: H, [], by simp, by rw [List.length_cons, lh.out]⟩) ?_
  refine qs (uK (enter_p_expr _) fun W hW => PrO.up hW (fe_all d B b _ W _ _ _ (HTb.out.next (HO.out.trans hW.low) hBw) hW.here (HLo.out.only (HO.out.trans hW.low) (fun _ h h2 => absurd h (Nat.not_lt.2 h2))) (by simp [BP]; omega))) ?_
  simp only [setT, sC, sZ]
  refine ds fun u5 hU5 => ?_
  go_upto_region 6 with (fail)
  refine rs hU5 ?_
  refine qs uMp ?_
  refine putS [[93, 32]] (bs1 _) (by simp [BP]; omega) (fun _ => ?_)
  refine ds fun u6 hU6 => ?_
  simp only [setT, sC, sZ]
  go_wp2_with fail
  go_end0
  exact ⟨rfl, by rw [HT.out]; simpa using H01.out.trans hU6⟩
set_option maxRecDepth 100000 in
set_option maxHeartbeats 8000000 in
theorem bindsP_any {d : Nat} {B b : Nat} {l : LB} {w : World} {A : Option Addr} {n c : Nat} {T : Nat → BiT} (hT : Tabs B w) (hp : PS B b l w w) (hr : Rw 58 10 w (Lo B) A n (fun cs t => PrB d w (Lo B) cs t) T) (hlen : l.length + (bindsL (fun i => bindT (T i)) n).length ≤ BP) :
  Calls Tryd.prog 45 #[.pointer (some ⟨b, 0, none⟩), .slice A n c] w (PrO B b (l ++ bindsL (fun i => bindT (T i)) n) w) := by
 have hn3 : n ≤ 3000000 := hr.1
 obtain ⟨tx, htx⟩ : ∃ x : Nat → LB, x = fun i => [40] ++ comL (fun i => bindT (T i)) i := ⟨_, rfl⟩
 have hfin : bindsL (fun i => bindT (T i)) n = tx n ++ [41] := by rw [htx]; rfl
 obtain ⟨tf, htf⟩ : ∃ x, x = tx n ++ [41] := ⟨_, rfl⟩
 rw [hfin, ← htf] at hlen ⊢
 have hl2 := hlen
 unfold BP at hl2
 have hl3 := congrArg List.length htf
 simp only [List.length_append, List.length_cons, List.length_nil] at hl3
 have hl4 : l.length + (tx n).length + 1 ≤ 140737488355328 := by omega
 have HTF := Lib.hid htf
 have HTX := Lib.hid htx
 have HX0 : Hid (tx 0 = [40]) := Lib.hid (by rw [htx]; rfl)
 have HMON : Hid (∀ i, i ≤ n → (tx i).length ≤ (tx n).length) := Lib.hid (fun i hi => by
  have := comL_mono (T := fun i => bindT (T i)) (n := n) i hi
  rw [htx]; simp only [List.length_append]; omega)
 have hm0 := HMON.out 0 (Nat.zero_le _)
 rw [HX0.out] at hm0
 simp only [List.length_cons, List.length_nil] at hm0
 have HR := Lib.hid hr
 have hBw := hp.sz
 have HTb := Lib.hid hT
 have H0 := Lib.hid hp
 have HO : Hid (Only (fun i => B ≤ i) w w) := Lib.hid (Only.refl _ _)
 clear hr htx htf hfin hlen hl3 hT hp
 go_enter Tryd.func45, Tryd.ntmps45
 go_upto_region 0 with (fail)
 refine rs (S := PS B b _ w) H0.out ?_
 refine qs uMp ?_
 refine putS [[40]] (bs1 _) (by simp [BP]; omega) (fun _ => ?_)
 refine ds fun w2 hW2 => ?_
 simp only [setT, sC, sZ]
 replace hW2 : PS B b (l ++ (tx 0)) w w2 := by rw [HX0.out]; simpa using hW2
 have HW2 := Lib.hid hW2
 clear hW2
 go_wp2_with fail
 go_loopw [11] (fun vi wr => ∃ (i : Nat), i ≤ n ∧ vi = .int .i64 i ∧ Hid (PS B b (l ++ tx i) w wr)) (fun vi _ => n - (intOf vi).toNat)
 case atStart => exact ⟨0, Nat.zero_le _, rfl, HW2⟩
 case round =>
  obtain ⟨i, hi, rfl, HW⟩ := hrel
  have hm := HMON.out i hi
  by_cases hlt : i < n
  ·
   have hm1 := HMON.out (i + 1) (by omega)
   have hili : (i : Int) < (n : Int) := by omega
   obtain ⟨bA, oA, C, rfl, hpA, hrng, hel⟩ := Rw.open_ HR.out (by omega)
   have HRng := Lib.hid hrng
   have hstep : tx (i + 1) = tx i ++ (if i = 0 then [] else [44, 32]) ++ bindT (T i) := by rw [HTX.out]; simp only [comL, List.append_assoc]
   have heli := hel i hlt
   obtain ⟨⟨bn, bg, bv⟩, hti⟩ : ∃ x, x = T i := ⟨_, rfl⟩
   rw [← hti] at hstep heli
   have HON := Lib.hid (oneB2 heli.2)
   have lc := Lib.hid heli.1
   obtain ⟨hC7, at_, V, kV, hCi, hnl, hV⟩ := heli
   replace hCi : C i = .string (bstr bn) :: .int .i64 at_ :: .bool bg :: V := hCi
   replace hV : PrE d w (Lo B) V bv kV := hV
   have HC := Lib.hid hCi
   have HV := Lib.hid hV
   have lv := Lib.hid hV.len
   have hgi : ∀ k, k = i → tx (k + 1) = tx k ++ (if k = 0 then [] else [44, 32]) ++ ([46] ++ bn ++ [40] ++ (if bg = true then bv else []) ++ [41]) := fun k hk => by subst hk; exact hstep
   clear hrng hel hti hCi hV hC7 hstep hnl
   by_cases h0 : i = 0
   ·
    subst h0
    cases bg with
    | true =>
     have HST : Hid (tx (0 + 1) = tx 0 ++ [46] ++ bn ++ [40] ++ bv ++ [41]) := Lib.hid (by rw [hgi _ rfl]; simp)
     have hm2 := hm1
     rw [HST.out] at hm2
     simp only [List.length_append, List.length_cons, List.length_nil] at hm2
     clear hgi
     go_upto_region 3 with (fail)
     refine rs (S := PS B b _ w) HW.out ?_
     refine qs uMi ?_
     simp only [setT, sC, sZ]
     refine qs (uI 0 euS_Bind ezS_Bind (hlt := hlt)) ?_
     simp only [setT, sC, sZ]
     refine qs (uW stt_Bind lc.out fun W hW => (HRng.out.at_ (HO.out.trans hW.low) (Nat.not_le.2 hpA) hlt)) ?_
     simp only [setT, sC, sZ]
     intro w3 hW3
     refine wpl_box3 rfl rfl rfl 58 rfl 5 rfl (.tmp 13) rfl (.tmp 15) rfl rfl Tryd.zeroValue58 (cells := (C 0).toArray) (.int .i64 ((0 : Nat) : Int)) (fun _ => rfl) (fun _ => rfl) (fun _ => rfl) stt_Bind (by simp [lc.out]) rfl HON.out ?_
     refine ⟨fun w4 b5 HK5 ho4 ha5 hb5 => ?_⟩
     have HW4 := Lib.hid (hW3.only ho4.out)
     have HK5n : b5 ≠ b := HW4.out.ne HK5.out (by decide)
     have HO4 := Lib.hid HW4.out.low
     clear hW3 ho4
     go_upto_region 6 with (fail)
     refine rs (S := PS B b _ w4) HW4.out.here ?_
     refine qs uMp ?_
     refine qs (uF fd_Bind_0) ?_
     refine qs (uC ctstring fun W hW => cellB (m := 0) (v := .string (bstr bn)) (hW.heap HK5.out (by decide) HK5n) (by rw [HC.out]; rfl)) ?_
     refine putS [[46], bn, [40]] (bs3 _ _ _) (by simp [BP]; omega) (fun _ => ?_)
     simp only [setT, sC, sZ]
     refine ds fun u0 hU0 => ?_
     go_upto_region 7 with (fail)
     refine rs hU0 ?_
     refine qs (uF fd_Bind_2) ?_
     refine qs (uC ctbool fun W hW => cellB (m := 2) (v := .bool true) (hW.heap HK5.out (by decide) HK5n) (by rw [HC.out]; rfl)) ?_
     refine ds fun u1 hU1 => ?_
     simp only [setT, sC, sZ]
     go_upto_region 8 with (fail)
     refine rs hU1 ?_
     refine qs uMp ?_
     refine qs (uF fd_Bind_3) ?_
     refine qs (uW stt_Expr lv.out fun W hW => segB (hW.heap HK5.out (by decide) HK5n) (by rw [HC.out]; exact seg3)) ?_
     refine qs (uK (enter_p_expr _) fun W hW => PrO.up hW (fe_all d B b _ W _ _ _ (HTb.out.next (HO4.out.trans hW.low) hBw) hW.here (HV.out.only (HO4.out.trans hW.low) (fun _ h h2 => absurd h (Nat.not_lt.2 h2))) (by simp [BP]; omega))) ?_
     simp only [setT, sC, sZ]
     refine ds fun u2 hU2 => ?_
     go_upto_region 9 with (fail)
     refine rs hU2 ?_
     refine qs uMp ?_
     refine putS [[41]] (bs1 _) (by simp [BP]; omega) (fun _ => ?_)
     refine ds fun u9 hU9 => ?_
     simp only [setT, sC, sZ]
     replace hU9 : PS B b (l ++ (tx (0 + 1))) w4 u9 := by rw [HST.out]; simpa using hU9
     go_wp2_with fail
     go_roundw
     case rel => exact ⟨0 + 1, by omega, by go_num, Lib.hid (HW4.out.trans hU9)⟩
     case measure => simp [intOf]; omega
    | false =>
     have HST : Hid (tx (0 + 1) = tx 0 ++ [46] ++ bn ++ [40] ++ [41]) := Lib.hid (by rw [hgi _ rfl]; simp)
     have hm2 := hm1
     rw [HST.out] at hm2
     simp only [List.length_append, List.length_cons, List.length_nil] at hm2
     clear hgi
     go_upto_region 3 with (fail)
     refine rs (S := PS B b _ w) HW.out ?_
     refine qs uMi ?_
     simp only [setT, sC, sZ]
     refine qs (uI 0 euS_Bind ezS_Bind (hlt := hlt)) ?_
     simp only [setT, sC, sZ]
     refine qs (uW stt_Bind lc.out fun W hW => (HRng.out.at_ (HO.out.trans hW.low) (Nat.not_le.2 hpA) hlt)) ?_
     simp only [setT, sC, sZ]
     intro w3 hW3
     refine wpl_box3 rfl rfl rfl 58 rfl 5 rfl (.tmp 13) rfl (.tmp 15) rfl rfl Tryd.zeroValue58 (cells := (C 0).toArray) (.int .i64 ((0 : Nat) : Int)) (fun _ => rfl) (fun _ => rfl) (fun _ => rfl) stt_Bind (by simp [lc.out]) rfl HON.out ?_
     refine ⟨fun w4 b5 HK5 ho4 ha5 hb5 => ?_⟩
     have HW4 := Lib.hid (hW3.only ho4.out)
     have HK5n : b5 ≠ b := HW4.out.ne HK5.out (by decide)
     have HO4 := Lib.hid HW4.out.low
     clear hW3 ho4
     go_upto_region 6 with (fail)
     refine rs (S := PS B b _ w4) HW4.out.here ?_
     refine qs uMp ?_
     refine qs (uF fd_Bind_0) ?_
     refine qs (uC ctstring fun W hW => cellB (m := 0) (v := .string (bstr bn)) (hW.heap HK5.out (by decide) HK5n) (by rw [HC.out]; rfl)) ?_
     refine putS [[46], bn, [40]] (bs3 _ _ _) (by simp [BP]; omega) (fun _ => ?_)
     simp only [setT, sC, sZ]
     refine ds fun u0 hU0 => ?_
     go_upto_region 7 with (fail)
     refine rs hU0 ?_
     refine qs (uF fd_Bind_2) ?_
     refine qs (uC ctbool fun W hW => cellB (m := 2) (v := .bool false) (hW.heap HK5.out (by decide) HK5n) (by rw [HC.out]; rfl)) ?_
     refine ds fun u1 hU1 => ?_
     simp only [setT, sC, sZ]
     go_upto_region 9 with (fail)
     refine rs hU1 ?_
     refine qs uMp ?_
     refine putS [[41]] (bs1 _) (by simp [BP]; omega) (fun _ => ?_)
     refine ds fun u9 hU9 => ?_
     simp only [setT, sC, sZ]
     replace hU9 : PS B b (l ++ (tx (0 + 1))) w4 u9 := by rw [HST.out]; simpa using hU9
     go_wp2_with fail
     go_roundw
     case rel => exact ⟨0 + 1, by omega, by go_num, Lib.hid (HW4.out.trans hU9)⟩
     case measure => simp [intOf]; omega
   ·
    have hip : (0 : Int) < (i : Int) := by omega
    cases bg with
    | true =>
     have HST : Hid (tx (i + 1) = tx i ++ [44, 32] ++ [46] ++ bn ++ [40] ++ bv ++ [41]) := Lib.hid (by rw [hgi _ rfl, if_neg h0]; simp)
     have hm2 := hm1
     rw [HST.out] at hm2
     simp only [List.length_append, List.length_cons, List.length_nil] at hm2
     clear hgi h0
     go_upto_region 3 with (fail)
     refine rs (S := PS B b _ w) HW.out ?_
     refine qs uMi ?_
     simp only [setT, sC, sZ]
     refine qs (uI i euS_Bind ezS_Bind (hlt := hlt)) ?_
     simp only [setT, sC, sZ]
     refine qs (uW stt_Bind lc.out fun W hW => (HRng.out.at_ (HO.out.trans hW.low) (Nat.not_le.2 hpA) hlt)) ?_
     simp only [setT, sC, sZ]
     intro w3 hW3
     refine wpl_box3 rfl rfl rfl 58 rfl 5 rfl (.tmp 13) rfl (.tmp 15) rfl rfl Tryd.zeroValue58 (cells := (C i).toArray) (.int .i64 (i : Int)) (fun _ => rfl) (fun _ => rfl) (fun _ => rfl) stt_Bind (by simp [lc.out]) rfl HON.out ?_
     refine ⟨fun w4 b5 HK5 ho4 ha5 hb5 => ?_⟩
     have HW4 := Lib.hid (hW3.only ho4.out)
     have HK5n : b5 ≠ b := HW4.out.ne HK5.out (by decide)
     have HO4 := Lib.hid HW4.out.low
     clear hW3 ho4
     go_upto_region 5 with (fail)
     refine rs (S := PS B b _ w4) HW4.out.here ?_
     refine qs uMp ?_
     refine putS [[44, 32]] (bs1 _) (by simp [BP]; omega) (fun _ => ?_)
     refine ds fun u0 hU0 => ?_
     simp only [setT, sC, sZ]
     go_upto_region 6 with (fail)
     refine rs hU0 ?_
     refine qs uMp ?_
     refine qs (uF fd_Bind_0) ?_
     refine qs (uC ctstring fun W hW => cellB (m := 0) (v := .string (bstr bn)) (hW.heap HK5.out (by decide) HK5n) (by rw [HC.out]; rfl)) ?_
     refine putS [[46], bn, [40]] (bs3 _ _ _) (by simp [BP]; omega) (fun _ => ?_)
     simp only [setT, sC, sZ]
     refine ds fun u1 hU1 => ?_
     go_upto_region 7 with (fail)
     refine rs hU1 ?_
     refine qs (uF fd_Bind_2) ?_
     refine qs (uC ctbool fun W hW => cellB (m := 2) (v := .bool true) (hW.heap HK5.out (by decide) HK5n) (by rw [HC.out]; rfl)) ?_
     refine ds fun u2 hU2 => ?_
     simp only [setT, sC, sZ]
     go_upto_region 8 with (fail)
     refine rs hU2 ?_
     refine qs uMp ?_
     refine qs (uF fd_Bind_3) ?_
     refine qs (uW stt_Expr lv.out fun W hW => segB (hW.heap HK5.out (by decide) HK5n) (by rw [HC.out]; exact seg3)) ?_
     refine qs (uK (enter_p_expr _) fun W hW => PrO.up hW (fe_all d B b _ W _ _ _ (HTb.out.next (HO4.out.trans hW.low) hBw) hW.here (HV.out.only (HO4.out.trans hW.low) (fun _ h h2 => absurd h (Nat.not_lt.2 h2))) (by simp [BP]; omega))) ?_
     simp only [setT, sC, sZ]
     refine ds fun u3 hU3 => ?_
     go_upto_region 9 with (fail)
     refine rs hU3 ?_
     refine qs uMp ?_
     refine putS [[41]] (bs1 _) (by simp [BP]; omega) (fun _ => ?_)
     refine ds fun u9 hU9 => ?_
     simp only [setT, sC, sZ]
     replace hU9 : PS B b (l ++ (tx (i + 1))) w4 u9 := by rw [HST.out]; simpa using hU9
     go_wp2_with fail
     go_roundw
     case rel => exact ⟨i + 1, by omega, by go_num, Lib.hid (HW4.out.trans hU9)⟩
     case measure => simp [intOf]; omega
    | false =>
     have HST : Hid (tx (i + 1) = tx i ++ [44, 32] ++ [46] ++ bn ++ [40] ++ [41]) := Lib.hid (by rw [hgi _ rfl, if_neg h0]; simp)
     have hm2 := hm1
     rw [HST.out] at hm2
     simp only [List.length_append, List.length_cons, List.length_nil] at hm2
     clear hgi h0
     go_upto_region 3 with (fail)
     refine rs (S := PS B b _ w) HW.out ?_
     refine qs uMi ?_
     simp only [setT, sC, sZ]
     refine qs (uI i euS_Bind ezS_Bind (hlt := hlt)) ?_
     simp only [setT, sC, sZ]
     refine qs (uW stt_Bind lc.out fun W hW => (HRng.out.at_ (HO.out.trans hW.low) (Nat.not_le.2 hpA) hlt)) ?_
     simp only [setT, sC, sZ]
     intro w3 hW3
     refine wpl_box3 rfl rfl rfl 58 rfl 5 rfl (.tmp 13) rfl (.tmp 15) rfl rfl Tryd.zeroValue58 (cells := (C i).toArray) (.int .i64 (i : Int)) (fun _ => rfl) (fun _ => rfl) (fun _ => rfl) stt_Bind (by simp [lc.out]) rfl HON.out ?_
     refine ⟨fun w4 b5 HK5 ho4 ha5 hb5 => ?_⟩
     have HW4 := Lib.hid (hW3.only ho4.out)
     have HK5n : b5 ≠ b := HW4.out.ne HK5.out (by decide)
     have HO4 := Lib.hid HW4.out.low
     clear hW3 ho4
     go_upto_region 5 with (fail)
     refine rs (S := PS B b _ w4) HW4.out.here ?_
     refine qs uMp ?_
     refine putS [[44, 32]] (bs1 _) (by simp [BP]; omega) (fun _ => ?_)
     refine ds fun u0 hU0 => ?_
     simp only [setT, sC, sZ]
     go_upto_region 6 with (fail)
     refine rs hU0 ?_
     refine qs uMp ?_
     refine qs (uF fd_Bind_0) ?_
     refine qs (uC ctstring fun W hW => cellB (m := 0) (v := .string (bstr bn)) (hW.heap HK5.out (by decide) HK5n) (by rw [HC.out]; rfl)) ?_
     refine putS [[46], bn, [40]] (bs3 _ _ _) (by simp [BP]; omega) (fun _ => ?_)
     simp only [setT, sC, sZ]
     refine ds fun u1 hU1 => ?_
     go_upto_region 7 with (fail)
     refine rs hU1 ?_
     refine qs (uF fd_Bind_2) ?_
     refine qs (uC ctbool fun W hW => cellB (m := 2) (v := .bool false) (hW.heap HK5.out (by decide) HK5n) (by rw [HC.out]; rfl)) ?_
     refine ds fun u2 hU2 => ?_
     simp only [setT, sC, sZ]
     go_upto_region 9 with (fail)
     refine rs hU2 ?_
     refine qs uMp ?_
     refine putS [[41]] (bs1 _) (by simp [BP]; omega) (fun _ => ?_)
     refine ds fun u9 hU9 => ?_
     simp only [setT, sC, sZ]
     replace hU9 : PS B b (l ++ (tx (i + 1))) w4 u9 := by rw [HST.out]; simpa using hU9
     go_wp2_with fail
     go_roundw
     case rel => exact ⟨i + 1, by omega, by go_num, Lib.hid (HW4.out.trans hU9)⟩
     case measure => simp [intOf]; omega
  ·
   obtain rfl : i = n := by omega
   go_upto_region 11 with (fail)
   refine rs (S := PS B b _ w) HW.out ?_
   refine qs uMp ?_
   refine putS [[41]] (bs1 _) (by simp [BP]; omega) (fun _ => ?_)
   refine ds fun we hWe => ?_
   simp only [setT, sC, sZ]
   replace hWe : PS B b (l ++ (tf)) w we := by rw [HTF.out]; simpa using hWe
   go_wp2_with fail
   go_end0
   exact ⟨rfl, hWe⟩
end Go.Proofs.YtbdcpealkllfnaaDoor
