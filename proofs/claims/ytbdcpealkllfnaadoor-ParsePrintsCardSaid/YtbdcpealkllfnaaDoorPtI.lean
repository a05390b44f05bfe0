/- An item's cells and what they say, field by field. No condition. The reference's printItem, printItems, walked: the text of items in memory. No condition. -/
import Derived.Test.YtbdcpealkllfnaaDoorPtT
namespace Go.Proofs.YtbdcpealkllfnaaDoor
open Go.RowKit Go.Deep

section
variable (x : ItV) (hx : LenI x)
theorem CutS.seg {old new c : List Value} {j sz : Nat} (h : CutS old j sz c new) : Seg new j c := by
 obtain ⟨pre, mid, post, _, h2, _, h4⟩ := h
 exact ⟨pre, post, h4, h2⟩
theorem Seg.in_ {cs mid s : List Value} {m k : Nat} (h : Seg cs m mid) (h' : Seg mid k s) : Seg cs (m + k) s := by
 obtain ⟨pre, post, rfl, rfl⟩ := h
 obtain ⟨pre', post', rfl, rfl⟩ := h'
 exact ⟨pre ++ pre', post' ++ post, by simp, by simp⟩
include hx
theorem fI_kd : (cellsI x)[0]? = some (.int .i64 x.kd) := (cI_kd x hx x.kd).at_
theorem fI_nm : (cellsI x)[2]? = some (.string (bstr x.nm)) := (cI_nm x hx x.nm).at_
theorem fI_md : (cellsI x)[3]? = some (.string (bstr x.md)) := (cI_md x hx x.md).at_
theorem fI_given : (cellsI x)[34]? = some (.bool x.given) := (cI_given x hx x.given).at_
theorem fI_clk : (cellsI x)[49]? = some (.bool x.clk) := (cI_clk x hx x.clk).at_
theorem fI_P : (cellsI x)[57]? = some (.slice x.AP x.np x.cp) := (cI_P x hx x.AP x.np x.cp).at_
theorem fI_Q : (cellsI x)[58]? = some (.slice x.AQ x.nq x.cq) := (cI_Q x hx x.AQ x.nq x.cq).at_
theorem fI_E : (cellsI x)[59]? = some (.slice x.AE x.ne x.ce) := (cI_E x hx x.AE x.ne x.ce).at_
theorem fI_lab : (cellsI x)[60]? = some (.string (bstr x.lab)) := (cI_lab x hx x.lab).at_
theorem fI_I : (cellsI x)[61]? = some (.slice x.AI x.ni x.ci) := (cI_I x hx x.AI x.ni x.ci).at_
theorem fI_he : (cellsI x)[62]? = some (.bool x.he) := (cI_he x hx x.he).at_
theorem fI_elab : (cellsI x)[63]? = some (.string (bstr x.elab_)) := (cI_elab_ x hx x.elab_).at_
theorem fI_L : (cellsI x)[64]? = some (.slice x.AL x.nl x.cl) := (cI_L x hx x.AL x.nl x.cl).at_
theorem sI_W : Seg (cellsI x) 19 x.W := (cI_W x hx x.W).seg
theorem sI_V : Seg (cellsI x) 35 x.V := (cI_V x hx x.V).seg
theorem sI_G : Seg (cellsI x) 42 x.G := (cI_G x hx x.G).seg
theorem sI_B : Seg (cellsI x) 50 x.B := (cI_B x hx x.B).seg
omit hx
theorem sI_R : Seg (cellsI x) 4 x.R := ⟨[.int .i64 x.kd, .int .i64 x.at_, .string (bstr x.nm), .string (bstr x.md)], _, rfl, rfl⟩
end
/-- an item's parts -/
structure ItF (d dE : Nat) (w : World) (p : Nat → Prop) (x : ItV) (rr wd : SpT) (tV tG : LB × Int) (tB : LB) (TP TQ : Nat → BiT) (TE : Nat → LB × Int) (TI TL : Nat → LB) : Prop where
 ok : OkI x
 r : PrR dE w p x.R rr
 wd : PrR dE w p x.W wd
 v : PrE dE w p x.V tV.1 tV.2
 g : PrE dE w p x.G tG.1 tG.2
 b : x.kd = 6 → PrS dE w p x.B tB
 P : Rw 58 10 w p x.AP x.np (fun cs t => PrB dE w p cs t) TP
 Q : Rw 58 10 w p x.AQ x.nq (fun cs t => PrB dE w p cs t) TQ
 E : ExL dE w p x.AE x.ne TE
 I : Rw 75 65 w p x.AI x.ni (fun cs t => PrI d w p cs t) TI
 L : Rw 75 65 w p x.AL x.nl (fun cs t => PrI d w p cs t) TL
structure WdF (dE : Nat) (w : World) (p : Nat → Prop) (W H L : List Value) (hi lo : LB) (kH kL : Int) : Prop where
 h : PrE dE w p H hi kH
 l : PrE dE w p L lo kL
 lh : H.length = 7
 ll : L.length = 7
 sh : Seg W 1 H
 sl : Seg W 8 L
section
variable {d dE : Nat} {w : World} {p : Nat → Prop} {x : ItV} {r wd : SpT} {tV tG : LB × Int} {tB : LB} {TP TQ : Nat → BiT} {TE : Nat → LB × Int} {TI TL : Nat → LB}
theorem ItF.len (h : ItF d dE w p x r wd tV tG tB TP TQ TE TI TL) : LenI x := ⟨PrR.len h.r, PrR.len h.wd, h.v.len, h.g.len, h.ok.b.1⟩
theorem ItF.words (h : ItF d dE w p x r wd tV tG tB TP TQ TE TI TL) : ∃ H L, ∃ kk : Int × Int, WdF dE w p x.W H L wd.2.1 wd.2.2 kk.1 kk.2 := by
 obtain ⟨H, L, kH, kL, e, h1, h2⟩ := h.wd
 refine ⟨H, L, (kH, kL), h1, h2, h1.len, h2.len, ?_, ?_⟩
 ·
  rw [e]; exact ⟨[_], L, rfl, rfl⟩
 ·
  rw [e]; exact ⟨.bool wd.1 :: H, [], by simp, by rw [List.length_cons, h1.len]⟩
end
end Go.Proofs.YtbdcpealkllfnaaDoor
namespace Go.Proofs.YtbdcpealkllfnaaDoor
open Go.RowKit Go.Deep

def ItR (d : Nat) : Prop := ∀ (w : World) (p : Nat → Prop) (cs : List Value) (t : LB), PrI d w p cs t → t.length ≤ BT → Calls Tryd.prog 52 #[.agg cs.toArray] w (StrO t w)
def IsR (d : Nat) : Prop := ∀ (w : World) (p : Nat → Prop) (A : Option Addr) (n c : Nat) (T : Nat → LB), Rw 75 65 w p A n (fun cs t => PrI d w p cs t) T → (catL T n).length ≤ BT → Calls Tryd.prog 28 #[.slice A n c] w (StrO (catL T n) w)
set_option maxRecDepth 100000 in
set_option maxHeartbeats 8000000 in
theorem pi_k1 {d dE : Nat} {w : World} {p : Nat → Prop} {x : ItV} {r wd : SpT} {tV tG : LB × Int} {tB : LB} {TP TQ : Nat → BiT} {TE : Nat → LB × Int} {TI TL : Nat → LB} {t : LB} (F : ItF d dE w p x r wd tV tG tB TP TQ TE TI TL) (hk : x.kd = 1) (ht : t = itx x r wd tV tG tB TP TQ TE TI TL) (hlen : t.length ≤ BT) :
  Calls Tryd.prog 52 #[.agg (cellsI x).toArray] w (StrO t w) := by
 have HX := Lib.hid F.len
 have HF := Lib.hid F
 replace ht : t = [119, 105, 114, 101, 32] ++ spanT r ++ x.nm ++ [59, 10] := by rw [ht]; simp [itx, ItT.text, hk]
 have HT := Lib.hid ht
 have hL := hlen
 have hL2 := hlen
 unfold BT at hL2
 rw [ht] at hL
 simp only [List.length_append, List.length_cons, List.length_nil, BT] at hL
 have HKD := Lib.hid hk
 clear ht hlen hk F
 go_enter Tryd.func52, Tryd.ntmps52
 go_wp2_with (refine wpl_boxv rfl 75 (.tmp 0) rfl (some 1) rfl (cells := (cellsI x).toArray) rfl ?_)
 refine ⟨fun w1 b1 HK HO ha1 hb1 => ?_⟩
 have c0 : w1.cell? ⟨b1, 0, none⟩ = some (.int .i64 1) := cellB HK.out (by rw [← HKD.out]; exact fI_kd x HX.out)
 go_upto_region 3 with (fail)
 refine ro (S := Only (fun _ => False) w1) (Only.refl _ _).drew (by kernel_rfl) (by kernel_rfl) (by kernel_rfl) ?_
 refine qo (uF fd_Item_4) ?_
 refine qo (uW stt_Range HX.out.R fun W hW => segB (boxG HK hW) (sI_R x)) ?_
 refine qo (uK (enter_printSpan _) fun W hW => StrO.up hW (spanR_any (FR.only (HO.out.trans hW) (fun _ _ h => h) HF.out.r) (by unfold BT; omega))) ?_
 refine qo uS ?_
 simp only [setT, sC, sZ]
 refine qo (uF fd_Item_2) ?_
 refine qo (uC ctstring fun W hW => cellB (boxG HK hW) (fI_nm x HX.out)) ?_
 refine qo uS ?_
 refine qo (uSn HT.out) ?_
 simp only [setT, sC, sZ]
 refine qo (uA (.string (bstr t))) ?_
 refine dO fun we hWe => ?_
 simp only [setT, sC, sZ]
 go_wp2
 go_ret
 exact StrO.mk rfl (HO.out.trans hWe)
set_option maxRecDepth 100000 in
set_option maxHeartbeats 8000000 in
theorem pi_k2t {d dE : Nat} {w : World} {p : Nat → Prop} {x : ItV} {r wd : SpT} {tV tG : LB × Int} {tB : LB} {TP TQ : Nat → BiT} {TE : Nat → LB × Int} {TI TL : Nat → LB} {t : LB} (F : ItF d dE w p x r wd tV tG tB TP TQ TE TI TL) (hk : x.kd = 2) (ht : t = itx x r wd tV tG tB TP TQ TE TI TL) (hlen : t.length ≤ BT) (hg : x.given = true) :
  Calls Tryd.prog 52 #[.agg (cellsI x).toArray] w (StrO t w) := by
 have HX := Lib.hid F.len
 have HF := Lib.hid F
 have HG := Lib.hid hg
 replace ht : t = [114, 101, 103, 32] ++ spanT r ++ x.nm ++ [32, 61, 32] ++ tV.1 ++ [59, 10] := by rw [ht]; simp [itx, ItT.text, hk, hg]
 have HT := Lib.hid ht
 have hL := hlen
 have hL2 := hlen
 unfold BT at hL2
 rw [ht] at hL
 simp only [List.length_append, List.length_cons, List.length_nil, BT] at hL
 have HKD := Lib.hid hk
 clear hg ht hlen hk F
 go_enter Tryd.func52, Tryd.ntmps52
 go_wp2_with (refine wpl_boxv rfl 75 (.tmp 0) rfl (some 1) rfl (cells := (cellsI x).toArray) rfl ?_)
 refine ⟨fun w1 b1 HK HO ha1 hb1 => ?_⟩
 have c0 : w1.cell? ⟨b1, 0, none⟩ = some (.int .i64 2) := cellB HK.out (by rw [← HKD.out]; exact fI_kd x HX.out)
 go_upto_region 5 with (fail)
 refine ro (S := Only (fun _ => False) w1) (Only.refl _ _).drew (by kernel_rfl) (by kernel_rfl) (by kernel_rfl) ?_
 refine qo (uF fd_Item_4) ?_
 refine qo (uW stt_Range HX.out.R fun W hW => segB (boxG HK hW) (sI_R x)) ?_
 refine qo (uK (enter_printSpan _) fun W hW => StrO.up hW (spanR_any (FR.only (HO.out.trans hW) (fun _ _ h => h) HF.out.r) (by unfold BT; omega))) ?_
 refine qo uS ?_
 simp only [setT, sC, sZ]
 refine qo (uF fd_Item_2) ?_
 refine qo (uC ctstring fun W hW => cellB (boxG HK hW) (fI_nm x HX.out)) ?_
 refine qo uS ?_
 refine qo (uA (.string (bstr (([114, 101, 103, 32] ++ (spanT r)) ++ x.nm)))) ?_
 simp only [setT, sC, sZ]
 refine dO fun w2 hW2 => ?_
 have c34 : w2.cell? ⟨b1, 34, none⟩ = some (.bool true) := cellB (boxG HK hW2) (by rw [← HG.out]; exact fI_given x HX.out)
 go_upto_region 7 with (fail)
 refine rs hW2 ?_
 refine qs uMt ?_
 refine qs uS ?_
 refine qs (uF fd_Item_7) ?_
 refine qs (uW stt_Expr HX.out.V fun W hW => segB (boxG HK hW) (sI_V x HX.out)) ?_
 simp only [setT, sC, sZ]
 refine qs (uK (enter_PrintExpr _) fun W hW => StrO.up hW (pe_all dE W p _ _ _ (HF.out.v.only (HO.out.trans hW) (fun _ _ h => h)) (by unfold BT; omega))) ?_
 refine qs uS ?_
 refine qs (uA (.string (bstr (((([114, 101, 103, 32] ++ (spanT r)) ++ x.nm) ++ [32, 61, 32]) ++ tV.1)))) ?_
 refine ds fun w3 hW3 => ?_
 simp only [setT, sC, sZ]
 go_upto_region 8 with (fail)
 refine rs hW3 ?_
 refine qs uMt ?_
 refine qs (uSn HT.out) ?_
 refine qs (uA (.string (bstr t))) ?_
 refine ds fun we hWe => ?_
 simp only [setT, sC, sZ]
 go_wp2
 go_ret
 exact StrO.mk rfl (HO.out.trans hWe)
set_option maxRecDepth 100000 in
set_option maxHeartbeats 8000000 in
theorem pi_k2f {d dE : Nat} {w : World} {p : Nat → Prop} {x : ItV} {r wd : SpT} {tV tG : LB × Int} {tB : LB} {TP TQ : Nat → BiT} {TE : Nat → LB × Int} {TI TL : Nat → LB} {t : LB} (F : ItF d dE w p x r wd tV tG tB TP TQ TE TI TL) (hk : x.kd = 2) (ht : t = itx x r wd tV tG tB TP TQ TE TI TL) (hlen : t.length ≤ BT) (hg : x.given = false) :
  Calls Tryd.prog 52 #[.agg (cellsI x).toArray] w (StrO t w) := by
 have HX := Lib.hid F.len
 have HF := Lib.hid F
 have HG := Lib.hid hg
 replace ht : t = [114, 101, 103, 32] ++ spanT r ++ x.nm ++ [59, 10] := by rw [ht]; simp [itx, ItT.text, hk, hg]
 have HT := Lib.hid ht
 have hL := hlen
 have hL2 := hlen
 unfold BT at hL2
 rw [ht] at hL
 simp only [List.length_append, List.length_cons, List.length_nil, BT] at hL
 have HKD := Lib.hid hk
 clear hg ht hlen hk F
 go_enter Tryd.func52, Tryd.ntmps52
 go_wp2_with (refine wpl_boxv rfl 75 (.tmp 0) rfl (some 1) rfl (cells := (cellsI x).toArray) rfl ?_)
 refine ⟨fun w1 b1 HK HO ha1 hb1 => ?_⟩
 have c0 : w1.cell? ⟨b1, 0, none⟩ = some (.int .i64 2) := cellB HK.out (by rw [← HKD.out]; exact fI_kd x HX.out)
 go_upto_region 5 with (fail)
 refine ro (S := Only (fun _ => False) w1) (Only.refl _ _).drew (by kernel_rfl) (by kernel_rfl) (by kernel_rfl) ?_
 refine qo (uF fd_Item_4) ?_
 refine qo (uW stt_Range HX.out.R fun W hW => segB (boxG HK hW) (sI_R x)) ?_
 refine qo (uK (enter_printSpan _) fun W hW => StrO.up hW (spanR_any (FR.only (HO.out.trans hW) (fun _ _ h => h) HF.out.r) (by unfold BT; omega))) ?_
 refine qo uS ?_
 simp only [setT, sC, sZ]
 refine qo (uF fd_Item_2) ?_
 refine qo (uC ctstring fun W hW => cellB (boxG HK hW) (fI_nm x HX.out)) ?_
 refine qo uS ?_
 refine qo (uA (.string (bstr (([114, 101, 103, 32] ++ (spanT r)) ++ x.nm)))) ?_
 simp only [setT, sC, sZ]
 refine dO fun w2 hW2 => ?_
 have c34 : w2.cell? ⟨b1, 34, none⟩ = some (.bool false) := cellB (boxG HK hW2) (by rw [← HG.out]; exact fI_given x HX.out)
 go_upto_region 8 with (fail)
 refine rs hW2 ?_
 refine qs uMt ?_
 refine qs (uSn HT.out) ?_
 refine qs (uA (.string (bstr t))) ?_
 refine ds fun we hWe => ?_
 simp only [setT, sC, sZ]
 go_wp2
 go_ret
 exact StrO.mk rfl (HO.out.trans hWe)
set_option maxRecDepth 100000 in
set_option maxHeartbeats 8000000 in
theorem pi_k3 {d dE : Nat} {w : World} {p : Nat → Prop} {x : ItV} {r wd : SpT} {tV tG : LB × Int} {tB : LB} {TP TQ : Nat → BiT} {TE : Nat → LB × Int} {TI TL : Nat → LB} {t : LB} (F : ItF d dE w p x r wd tV tG tB TP TQ TE TI TL) (hk : x.kd = 3) (ht : t = itx x r wd tV tG tB TP TQ TE TI TL) (hlen : t.length ≤ BT) :
  Calls Tryd.prog 52 #[.agg (cellsI x).toArray] w (StrO t w) := by
 have HX := Lib.hid F.len
 have HF := Lib.hid F
 obtain ⟨wH, wL, kk, hwd⟩ := F.words
 have HWd := Lib.hid hwd
 clear hwd
 replace ht : t = [114, 101, 103, 32] ++ spanT r ++ x.nm ++ [32, 91] ++ wd.2.1 ++ [58] ++ wd.2.2 ++ [93, 59, 10] := by rw [ht]; simp [itx, ItT.text, hk]
 have HT := Lib.hid ht
 have hL := hlen
 have hL2 := hlen
 unfold BT at hL2
 rw [ht] at hL
 simp only [List.length_append, List.length_cons, List.length_nil, BT] at hL
 have HKD := Lib.hid hk
 clear ht hlen hk F
 go_enter Tryd.func52, Tryd.ntmps52
 go_wp2_with (refine wpl_boxv rfl 75 (.tmp 0) rfl (some 1) rfl (cells := (cellsI x).toArray) rfl ?_)
 refine ⟨fun w1 b1 HK HO ha1 hb1 => ?_⟩
 have c0 : w1.cell? ⟨b1, 0, none⟩ = some (.int .i64 3) := cellB HK.out (by rw [← HKD.out]; exact fI_kd x HX.out)
 go_upto_region 10 with (fail)
 refine ro (S := Only (fun _ => False) w1) (Only.refl _ _).drew (by kernel_rfl) (by kernel_rfl) (by kernel_rfl) ?_
 refine qo (uF fd_Item_4) ?_
 refine qo (uW stt_Range HX.out.R fun W hW => segB (boxG HK hW) (sI_R x)) ?_
 refine qo (uK (enter_printSpan _) fun W hW => StrO.up hW (spanR_any (FR.only (HO.out.trans hW) (fun _ _ h => h) HF.out.r) (by unfold BT; omega))) ?_
 refine qo uS ?_
 simp only [setT, sC, sZ]
 refine qo (uF fd_Item_2) ?_
 refine qo (uC ctstring fun W hW => cellB (boxG HK hW) (fI_nm x HX.out)) ?_
 refine qo uS ?_
 refine qo uS ?_
 simp only [setT, sC, sZ]
 refine qo (uF fd_Item_5) ?_
 refine qo (uF fd_Range_1) ?_
 refine qo (uW stt_Expr HWd.out.lh fun W hW => segB (boxG HK hW) ((sI_W x HX.out).in_ HWd.out.sh)) ?_
 refine qo (uK (enter_PrintExpr _) fun W hW => StrO.up hW (pe_all dE W p _ _ _ (HWd.out.h.only (HO.out.trans hW) (fun _ _ h => h)) (by unfold BT; omega))) ?_
 simp only [setT, sC, sZ]
 refine qo uS ?_
 refine qo uS ?_
 refine qo (uF fd_Item_5) ?_
 refine qo (uF fd_Range_2) ?_
 simp only [setT, sC, sZ]
 refine qo (uW stt_Expr HWd.out.ll fun W hW => segB (boxG HK hW) ((sI_W x HX.out).in_ HWd.out.sl)) ?_
 refine qo (uK (enter_PrintExpr _) fun W hW => StrO.up hW (pe_all dE W p _ _ _ (HWd.out.l.only (HO.out.trans hW) (fun _ _ h => h)) (by unfold BT; omega))) ?_
 refine qo uS ?_
 refine qo (uSn HT.out) ?_
 simp only [setT, sC, sZ]
 refine qo (uA (.string (bstr t))) ?_
 refine dO fun we hWe => ?_
 simp only [setT, sC, sZ]
 go_wp2
 go_ret
 exact StrO.mk rfl (HO.out.trans hWe)
set_option maxRecDepth 100000 in
set_option maxHeartbeats 8000000 in
theorem pi_k4 {d dE : Nat} {w : World} {p : Nat → Prop} {x : ItV} {r wd : SpT} {tV tG : LB × Int} {tB : LB} {TP TQ : Nat → BiT} {TE : Nat → LB × Int} {TI TL : Nat → LB} {t : LB} (F : ItF d dE w p x r wd tV tG tB TP TQ TE TI TL) (hk : x.kd = 4) (ht : t = itx x r wd tV tG tB TP TQ TE TI TL) (hlen : t.length ≤ BT) :
  Calls Tryd.prog 52 #[.agg (cellsI x).toArray] w (StrO t w) := by
 have HX := Lib.hid F.len
 have HF := Lib.hid F
 replace ht : t = [108, 111, 99, 97, 108, 112, 97, 114, 97, 109, 32] ++ x.nm ++ [32, 61, 32] ++ tV.1 ++ [59, 10] := by rw [ht]; simp [itx, ItT.text, hk]
 have HT := Lib.hid ht
 have hL := hlen
 have hL2 := hlen
 unfold BT at hL2
 rw [ht] at hL
 simp only [List.length_append, List.length_cons, List.length_nil, BT] at hL
 have HKD := Lib.hid hk
 clear ht hlen hk F
 go_enter Tryd.func52, Tryd.ntmps52
 go_wp2_with (refine wpl_boxv rfl 75 (.tmp 0) rfl (some 1) rfl (cells := (cellsI x).toArray) rfl ?_)
 refine ⟨fun w1 b1 HK HO ha1 hb1 => ?_⟩
 have c0 : w1.cell? ⟨b1, 0, none⟩ = some (.int .i64 4) := cellB HK.out (by rw [← HKD.out]; exact fI_kd x HX.out)
 go_upto_region 12 with (fail)
 refine ro (S := Only (fun _ => False) w1) (Only.refl _ _).drew (by kernel_rfl) (by kernel_rfl) (by kernel_rfl) ?_
 refine qo (uF fd_Item_2) ?_
 refine qo (uC ctstring fun W hW => cellB (boxG HK hW) (fI_nm x HX.out)) ?_
 refine qo uS ?_
 refine qo uS ?_
 simp only [setT, sC, sZ]
 refine qo (uF fd_Item_7) ?_
 refine qo (uW stt_Expr HX.out.V fun W hW => segB (boxG HK hW) (sI_V x HX.out)) ?_
 refine qo (uK (enter_PrintExpr _) fun W hW => StrO.up hW (pe_all dE W p _ _ _ (HF.out.v.only (HO.out.trans hW) (fun _ _ h => h)) (by unfold BT; omega))) ?_
 refine qo uS ?_
 simp only [setT, sC, sZ]
 refine qo (uSn HT.out) ?_
 refine qo (uA (.string (bstr t))) ?_
 refine dO fun we hWe => ?_
 simp only [setT, sC, sZ]
 go_wp2
 go_ret
 exact StrO.mk rfl (HO.out.trans hWe)
set_option maxRecDepth 100000 in
set_option maxHeartbeats 8000000 in
theorem pi_k5 {d dE : Nat} {w : World} {p : Nat → Prop} {x : ItV} {r wd : SpT} {tV tG : LB × Int} {tB : LB} {TP TQ : Nat → BiT} {TE : Nat → LB × Int} {TI TL : Nat → LB} {t : LB} (F : ItF d dE w p x r wd tV tG tB TP TQ TE TI TL) (hk : x.kd = 5) (ht : t = itx x r wd tV tG tB TP TQ TE TI TL) (hlen : t.length ≤ BT) :
  Calls Tryd.prog 52 #[.agg (cellsI x).toArray] w (StrO t w) := by
 have HX := Lib.hid F.len
 have HF := Lib.hid F
 replace ht : t = [97, 115, 115, 105, 103, 110, 32] ++ tG.1 ++ [32, 61, 32] ++ tV.1 ++ [59, 10] := by rw [ht]; simp [itx, ItT.text, hk]
 have HT := Lib.hid ht
 have hL := hlen
 have hL2 := hlen
 unfold BT at hL2
 rw [ht] at hL
 simp only [List.length_append, List.length_cons, List.length_nil, BT] at hL
 have HKD := Lib.hid hk
 clear ht hlen hk F
 go_enter Tryd.func52, Tryd.ntmps52
 go_wp2_with (refine wpl_boxv rfl 75 (.tmp 0) rfl (some 1) rfl (cells := (cellsI x).toArray) rfl ?_)
 refine ⟨fun w1 b1 HK HO ha1 hb1 => ?_⟩
 have c0 : w1.cell? ⟨b1, 0, none⟩ = some (.int .i64 5) := cellB HK.out (by rw [← HKD.out]; exact fI_kd x HX.out)
 go_upto_region 14 with (fail)
 refine ro (S := Only (fun _ => False) w1) (Only.refl _ _).drew (by kernel_rfl) (by kernel_rfl) (by kernel_rfl) ?_
 refine qo (uF fd_Item_8) ?_
 refine qo (uW stt_Expr HX.out.G fun W hW => segB (boxG HK hW) (sI_G x HX.out)) ?_
 refine qo (uK (enter_PrintExpr _) fun W hW => StrO.up hW (pe_all dE W p _ _ _ (HF.out.g.only (HO.out.trans hW) (fun _ _ h => h)) (by unfold BT; omega))) ?_
 refine qo uS ?_
 simp only [setT, sC, sZ]
 refine qo uS ?_
 refine qo (uF fd_Item_7) ?_
 refine qo (uW stt_Expr HX.out.V fun W hW => segB (boxG HK hW) (sI_V x HX.out)) ?_
 refine qo (uK (enter_PrintExpr _) fun W hW => StrO.up hW (pe_all dE W p _ _ _ (HF.out.v.only (HO.out.trans hW) (fun _ _ h => h)) (by unfold BT; omega))) ?_
 simp only [setT, sC, sZ]
 refine qo uS ?_
 refine qo (uSn HT.out) ?_
 refine qo (uA (.string (bstr t))) ?_
 refine dO fun we hWe => ?_
 simp only [setT, sC, sZ]
 go_wp2
 go_ret
 exact StrO.mk rfl (HO.out.trans hWe)
set_option maxRecDepth 100000 in
set_option maxHeartbeats 8000000 in
theorem pi_k6t {d dE : Nat} {w : World} {p : Nat → Prop} {x : ItV} {r wd : SpT} {tV tG : LB × Int} {tB : LB} {TP TQ : Nat → BiT} {TE : Nat → LB × Int} {TI TL : Nat → LB} {t : LB} (F : ItF d dE w p x r wd tV tG tB TP TQ TE TI TL) (hk : x.kd = 6) (ht : t = itx x r wd tV tG tB TP TQ TE TI TL) (hlen : t.length ≤ BT) (hc : x.clk = true) :
  Calls Tryd.prog 52 #[.agg (cellsI x).toArray] w (StrO t w) := by
 have HX := Lib.hid F.len
 have HF := Lib.hid F
 have HC := Lib.hid hc
 have HK6 := Lib.hid hk
 replace ht : t = [97, 108, 119, 97, 121, 115, 32, 64, 99, 108, 107, 32] ++ tB ++ [10] := by rw [ht]; simp [itx, ItT.text, hk, hc]
 have HT := Lib.hid ht
 have hL := hlen
 have hL2 := hlen
 unfold BT at hL2
 rw [ht] at hL
 simp only [List.length_append, List.length_cons, List.length_nil, BT] at hL
 have HKD := Lib.hid hk
 clear hc ht hlen hk F
 go_enter Tryd.func52, Tryd.ntmps52
 go_wp2_with (refine wpl_boxv rfl 75 (.tmp 0) rfl (some 1) rfl (cells := (cellsI x).toArray) rfl ?_)
 refine ⟨fun w1 b1 HK HO ha1 hb1 => ?_⟩
 have c0 : w1.cell? ⟨b1, 0, none⟩ = some (.int .i64 6) := cellB HK.out (by rw [← HKD.out]; exact fI_kd x HX.out)
 have c49 : w1.cell? ⟨b1, 49, none⟩ = some (.bool true) := cellB HK.out (by rw [← HC.out]; exact fI_clk x HX.out)
 go_upto_region 17 with (fail)
 refine rs (S := Only (fun _ => False) w1) (Only.refl _ _) ?_
 refine qs (uF fd_Item_10) ?_
 refine qs (uW stt_Stmt HX.out.B fun W hW => segB (boxG HK hW) (sI_B x HX.out)) ?_
 refine qs (uK (enter_PrintStmt _) fun W hW => StrO.up hW (ps_all dE W p _ _ (PrS.only (HO.out.trans hW) (fun _ _ h => h) (HF.out.b HK6.out)) (by unfold BT; omega))) ?_
 refine qs uS ?_
 simp only [setT, sC, sZ]
 refine qs (uSn HT.out) ?_
 refine qs (uA (.string (bstr t))) ?_
 refine ds fun we hWe => ?_
 simp only [setT, sC, sZ]
 go_wp2
 go_ret
 exact StrO.mk rfl (HO.out.trans hWe)
set_option maxRecDepth 100000 in
set_option maxHeartbeats 8000000 in
theorem pi_k6f {d dE : Nat} {w : World} {p : Nat → Prop} {x : ItV} {r wd : SpT} {tV tG : LB × Int} {tB : LB} {TP TQ : Nat → BiT} {TE : Nat → LB × Int} {TI TL : Nat → LB} {t : LB} (F : ItF d dE w p x r wd tV tG tB TP TQ TE TI TL) (hk : x.kd = 6) (ht : t = itx x r wd tV tG tB TP TQ TE TI TL) (hlen : t.length ≤ BT) (hc : x.clk = false) :
  Calls Tryd.prog 52 #[.agg (cellsI x).toArray] w (StrO t w) := by
 have HX := Lib.hid F.len
 have HF := Lib.hid F
 have HC := Lib.hid hc
 have HK6 := Lib.hid hk
 replace ht : t = [97, 108, 119, 97, 121, 115, 32, 64, 42, 32] ++ tB ++ [10] := by rw [ht]; simp [itx, ItT.text, hk, hc]
 have HT := Lib.hid ht
 have hL := hlen
 have hL2 := hlen
 unfold BT at hL2
 rw [ht] at hL
 simp only [List.length_append, List.length_cons, List.length_nil, BT] at hL
 have HKD := Lib.hid hk
 clear hc ht hlen hk F
 go_enter Tryd.func52, Tryd.ntmps52
 go_wp2_with (refine wpl_boxv rfl 75 (.tmp 0) rfl (some 1) rfl (cells := (cellsI x).toArray) rfl ?_)
 refine ⟨fun w1 b1 HK HO ha1 hb1 => ?_⟩
 have c0 : w1.cell? ⟨b1, 0, none⟩ = some (.int .i64 6) := cellB HK.out (by rw [← HKD.out]; exact fI_kd x HX.out)
 have c49 : w1.cell? ⟨b1, 49, none⟩ = some (.bool false) := cellB HK.out (by rw [← HC.out]; exact fI_clk x HX.out)
 go_upto_region 18 with (fail)
 refine rs (S := Only (fun _ => False) w1) (Only.refl _ _) ?_
 refine qs (uF fd_Item_10) ?_
 refine qs (uW stt_Stmt HX.out.B fun W hW => segB (boxG HK hW) (sI_B x HX.out)) ?_
 refine qs (uK (enter_PrintStmt _) fun W hW => StrO.up hW (ps_all dE W p _ _ (PrS.only (HO.out.trans hW) (fun _ _ h => h) (HF.out.b HK6.out)) (by unfold BT; omega))) ?_
 refine qs uS ?_
 simp only [setT, sC, sZ]
 refine qs (uSn HT.out) ?_
 refine qs (uA (.string (bstr t))) ?_
 refine ds fun we hWe => ?_
 simp only [setT, sC, sZ]
 go_wp2
 go_ret
 exact StrO.mk rfl (HO.out.trans hWe)
set_option maxRecDepth 100000 in
set_option maxHeartbeats 8000000 in
theorem pi_k7a {d dE : Nat} {w : World} {p : Nat → Prop} {x : ItV} {r wd : SpT} {tV tG : LB × Int} {tB : LB} {TP TQ : Nat → BiT} {TE : Nat → LB × Int} {TI TL : Nat → LB} {t : LB} (F : ItF d dE w p x r wd tV tG tB TP TQ TE TI TL) (hk : x.kd = 7) (ht : t = itx x r wd tV tG tB TP TQ TE TI TL) (hlen : t.length ≤ BT) (hn : 0 < x.np) :
  Calls Tryd.prog 52 #[.agg (cellsI x).toArray] w (StrO t w) := by
 have HX := Lib.hid F.len
 have HF := Lib.hid F
 obtain ⟨pP, hpP⟩ : ∃ y, y = bindsL (fun i => bindT (TP i)) x.np := ⟨_, rfl⟩
 have HPP := Lib.hid hpP
 obtain ⟨pQ, hpQ⟩ : ∃ y, y = bindsL (fun i => bindT (TQ i)) x.nq := ⟨_, rfl⟩
 have HPQ := Lib.hid hpQ
 have hni : 0 < (x.np : Int) := by omega
 replace ht : t = x.md ++ [32] ++ [35] ++ pP ++ [32] ++ x.nm ++ [32] ++ pQ ++ [59, 10] := by rw [ht]; simp [itx, ItT.text, hk, hn, hpQ, hpP]
 have HT := Lib.hid ht
 have hL := hlen
 have hL2 := hlen
 unfold BT at hL2
 rw [ht] at hL
 simp only [List.length_append, List.length_cons, List.length_nil, BT] at hL
 have HKD := Lib.hid hk
 clear hn ht hpQ hpP hlen hk F
 go_enter Tryd.func52, Tryd.ntmps52
 go_wp2_with (refine wpl_boxv rfl 75 (.tmp 0) rfl (some 1) rfl (cells := (cellsI x).toArray) rfl ?_)
 refine ⟨fun w1 b1 HK HO ha1 hb1 => ?_⟩
 have c0 : w1.cell? ⟨b1, 0, none⟩ = some (.int .i64 7) := cellB HK.out (by rw [← HKD.out]; exact fI_kd x HX.out)
 go_upto_region 20 with (fail)
 refine rs (S := Only (fun _ => False) w1) (Only.refl _ _) ?_
 refine qs (uF fd_Item_3) ?_
 refine qs (uC ctstring fun W hW => cellB (boxG HK hW) (fI_md x HX.out)) ?_
 refine qs uS ?_
 refine qs (uA (.string (bstr (x.md ++ [32])))) ?_
 simp only [setT, sC, sZ]
 refine ds fun w2 hW2 => ?_
 go_upto_region 21 with (fail)
 refine rs hW2 ?_
 refine qs (uF fd_Item_11) ?_
 refine qs (uC ctS_Bind fun W hW => cellB (boxG HK hW) (fI_P x HX.out)) ?_
 refine qs (uL euS_Bind) ?_
 refine qs (uQ (r := true) (hr := (decide_eq_true (by omega)))) ?_
 simp only [setT, sC, sZ]
 refine ds fun w3 hW3 => ?_
 go_upto_region 22 with (fail)
 refine rs hW3 ?_
 refine qs uMt ?_
 refine qs uS ?_
 refine qs (uF fd_Item_11) ?_
 refine qs (uC ctS_Bind fun W hW => cellB (boxG HK hW) (fI_P x HX.out)) ?_
 simp only [setT, sC, sZ]
 refine qs (uK (enter_printBinds _) fun W hW => StrO.upR HPP.out hW (bindsR_any (Rw.only HF.out.P (HO.out.trans hW) (fun _ _ h => h) (fun _ _ h => FB.only (HO.out.trans hW) (fun _ _ h => h) h)) (by rw [← HPP.out]; unfold BT; omega))) ?_
 refine qs uS ?_
 refine qs uS ?_
 refine qs (uA (.string (bstr ((((x.md ++ [32]) ++ [35]) ++ pP) ++ [32])))) ?_
 simp only [setT, sC, sZ]
 refine ds fun w4 hW4 => ?_
 go_upto_region 23 with (fail)
 refine ro (S := Only (fun _ => False) w1) hW4.drew (by kernel_rfl) (by kernel_rfl) (by kernel_rfl) ?_
 refine qo uMt ?_
 refine qo (uF fd_Item_2) ?_
 refine qo (uC ctstring fun W hW => cellB (boxG HK hW) (fI_nm x HX.out)) ?_
 refine qo uS ?_
 simp only [setT, sC, sZ]
 refine qo uS ?_
 refine qo (uF fd_Item_12) ?_
 refine qo (uC ctS_Bind fun W hW => cellB (boxG HK hW) (fI_Q x HX.out)) ?_
 refine qo (uK (enter_printBinds _) fun W hW => StrO.upR HPQ.out hW (bindsR_any (Rw.only HF.out.Q (HO.out.trans hW) (fun _ _ h => h) (fun _ _ h => FB.only (HO.out.trans hW) (fun _ _ h => h) h)) (by rw [← HPQ.out]; unfold BT; omega))) ?_
 simp only [setT, sC, sZ]
 refine qo uS ?_
 refine qo (uSn HT.out) ?_
 refine qo (uA (.string (bstr t))) ?_
 refine dO fun we hWe => ?_
 simp only [setT, sC, sZ]
 go_wp2
 go_ret
 exact StrO.mk rfl (HO.out.trans hWe)
set_option maxRecDepth 100000 in
set_option maxHeartbeats 8000000 in
theorem pi_k7b {d dE : Nat} {w : World} {p : Nat → Prop} {x : ItV} {r wd : SpT} {tV tG : LB × Int} {tB : LB} {TP TQ : Nat → BiT} {TE : Nat → LB × Int} {TI TL : Nat → LB} {t : LB} (F : ItF d dE w p x r wd tV tG tB TP TQ TE TI TL) (hk : x.kd = 7) (ht : t = itx x r wd tV tG tB TP TQ TE TI TL) (hlen : t.length ≤ BT) (hn : x.np = 0) :
  Calls Tryd.prog 52 #[.agg (cellsI x).toArray] w (StrO t w) := by
 have HX := Lib.hid F.len
 have HF := Lib.hid F
 obtain ⟨pQ, hpQ⟩ : ∃ y, y = bindsL (fun i => bindT (TQ i)) x.nq := ⟨_, rfl⟩
 have HPQ := Lib.hid hpQ
 have hni : ¬ 0 < (x.np : Int) := by omega
 replace ht : t = x.md ++ [32] ++ x.nm ++ [32] ++ pQ ++ [59, 10] := by rw [ht]; simp [itx, ItT.text, hk, hn, hpQ]
 have HT := Lib.hid ht
 have hL := hlen
 have hL2 := hlen
 unfold BT at hL2
 rw [ht] at hL
 simp only [List.length_append, List.length_cons, List.length_nil, BT] at hL
 have HKD := Lib.hid hk
 clear hn ht hpQ hlen hk F
 go_enter Tryd.func52, Tryd.ntmps52
 go_wp2_with (refine wpl_boxv rfl 75 (.tmp 0) rfl (some 1) rfl (cells := (cellsI x).toArray) rfl ?_)
 refine ⟨fun w1 b1 HK HO ha1 hb1 => ?_⟩
 have c0 : w1.cell? ⟨b1, 0, none⟩ = some (.int .i64 7) := cellB HK.out (by rw [← HKD.out]; exact fI_kd x HX.out)
 go_upto_region 20 with (fail)
 refine rs (S := Only (fun _ => False) w1) (Only.refl _ _) ?_
 refine qs (uF fd_Item_3) ?_
 refine qs (uC ctstring fun W hW => cellB (boxG HK hW) (fI_md x HX.out)) ?_
 refine qs uS ?_
 refine qs (uA (.string (bstr (x.md ++ [32])))) ?_
 simp only [setT, sC, sZ]
 refine ds fun w2 hW2 => ?_
 go_upto_region 21 with (fail)
 refine rs hW2 ?_
 refine qs (uF fd_Item_11) ?_
 refine qs (uC ctS_Bind fun W hW => cellB (boxG HK hW) (fI_P x HX.out)) ?_
 refine qs (uL euS_Bind) ?_
 refine qs (uQ (r := false) (hr := (decide_eq_false (by omega)))) ?_
 simp only [setT, sC, sZ]
 refine ds fun w3 hW3 => ?_
 go_upto_region 23 with (fail)
 refine ro (S := Only (fun _ => False) w1) hW3.drew (by kernel_rfl) (by kernel_rfl) (by kernel_rfl) ?_
 refine qo uMt ?_
 refine qo (uF fd_Item_2) ?_
 refine qo (uC ctstring fun W hW => cellB (boxG HK hW) (fI_nm x HX.out)) ?_
 refine qo uS ?_
 simp only [setT, sC, sZ]
 refine qo uS ?_
 refine qo (uF fd_Item_12) ?_
 refine qo (uC ctS_Bind fun W hW => cellB (boxG HK hW) (fI_Q x HX.out)) ?_
 refine qo (uK (enter_printBinds _) fun W hW => StrO.upR HPQ.out hW (bindsR_any (Rw.only HF.out.Q (HO.out.trans hW) (fun _ _ h => h) (fun _ _ h => FB.only (HO.out.trans hW) (fun _ _ h => h) h)) (by rw [← HPQ.out]; unfold BT; omega))) ?_
 simp only [setT, sC, sZ]
 refine qo uS ?_
 refine qo (uSn HT.out) ?_
 refine qo (uA (.string (bstr t))) ?_
 refine dO fun we hWe => ?_
 simp only [setT, sC, sZ]
 go_wp2
 go_ret
 exact StrO.mk rfl (HO.out.trans hWe)
set_option maxRecDepth 100000 in
set_option maxHeartbeats 8000000 in
theorem pi_k8 {d dE : Nat} (IS : IsR d) {w : World} {p : Nat → Prop} {x : ItV} {r wd : SpT} {tV tG : LB × Int} {tB : LB} {TP TQ : Nat → BiT} {TE : Nat → LB × Int} {TI TL : Nat → LB} {t : LB} (F : ItF d dE w p x r wd tV tG tB TP TQ TE TI TL) (hk : x.kd = 8) (ht : t = itx x r wd tV tG tB TP TQ TE TI TL) (hlen : t.length ≤ BT) :
  Calls Tryd.prog 52 #[.agg (cellsI x).toArray] w (StrO t w) := by
 have HX := Lib.hid F.len
 have HF := Lib.hid F
 have HE8 := Lib.hid (F.ok.e8 hk)
 obtain ⟨lt, hlt⟩ : ∃ y, y = loopL x.nm (fun i => (TE i).1) := ⟨_, rfl⟩
 have HLt := Lib.hid hlt
 obtain ⟨tI, htI⟩ : ∃ y, y = catL TI x.ni := ⟨_, rfl⟩
 have HTI := Lib.hid htI
 replace ht : t = lt ++ [98, 101, 103, 105, 110, 32, 58, 32] ++ x.lab ++ [10] ++ tI ++ [101, 110, 100, 10] := by rw [ht]; simp [itx, ItT.text, hk, beginL, htI, hlt]
 have HT := Lib.hid ht
 have hL := hlen
 have hL2 := hlen
 unfold BT at hL2
 rw [ht] at hL
 simp only [List.length_append, List.length_cons, List.length_nil, BT] at hL
 have HKD := Lib.hid hk
 clear hlt htI ht hlen hk F
 go_enter Tryd.func52, Tryd.ntmps52
 go_wp2_with (refine wpl_boxv rfl 75 (.tmp 0) rfl (some 1) rfl (cells := (cellsI x).toArray) rfl ?_)
 refine ⟨fun w1 b1 HK HO ha1 hb1 => ?_⟩
 have c0 : w1.cell? ⟨b1, 0, none⟩ = some (.int .i64 8) := cellB HK.out (by rw [← HKD.out]; exact fI_kd x HX.out)
 go_upto_region 25 with (fail)
 refine ro (S := Only (fun _ => False) w1) (Only.refl _ _).drew (by kernel_rfl) (by kernel_rfl) (by kernel_rfl) ?_
 refine qo (uF fd_Item_2) ?_
 refine qo (uC ctstring fun W hW => cellB (boxG HK hW) (fI_nm x HX.out)) ?_
 refine qo (uF fd_Item_13) ?_
 refine qo (uC ctS_Expr fun W hW => cellB (boxG HK hW) (fI_E x HX.out)) ?_
 simp only [setT, sC, sZ]
 refine qo (uK (enter_printLoop _) fun W hW => StrO.upR HLt.out hW (loopR_any (ExL.only HF.out.E (HO.out.trans hW) (fun _ _ h => h)) HE8.out (by rw [← HLt.out]; unfold BT; omega))) ?_
 refine qo uS ?_
 refine qo (uF fd_Item_14) ?_
 refine qo (uC ctstring fun W hW => cellB (boxG HK hW) (fI_lab x HX.out)) ?_
 simp only [setT, sC, sZ]
 refine qo uS ?_
 refine qo uS ?_
 refine qo (uF fd_Item_15) ?_
 refine qo (uC ctS_Item fun W hW => cellB (boxG HK hW) (fI_I x HX.out)) ?_
 simp only [setT, sC, sZ]
 refine qo (uK (enter_printItems _) fun W hW => StrO.upR HTI.out hW (IS W p _ _ _ _ (Rw.only HF.out.I (HO.out.trans hW) (fun _ _ h => h) (fun _ _ h => PrI.only (HO.out.trans hW) (fun _ _ h => h) h)) (by rw [← HTI.out]; unfold BT; omega))) ?_
 refine qo uS ?_
 refine qo (uSn HT.out) ?_
 refine qo (uA (.string (bstr t))) ?_
 simp only [setT, sC, sZ]
 refine dO fun we hWe => ?_
 go_wp2
 go_ret
 exact StrO.mk rfl (HO.out.trans hWe)
set_option maxRecDepth 100000 in
set_option maxHeartbeats 8000000 in
theorem pi_k9t {d dE : Nat} (IS : IsR d) {w : World} {p : Nat → Prop} {x : ItV} {r wd : SpT} {tV tG : LB × Int} {tB : LB} {TP TQ : Nat → BiT} {TE : Nat → LB × Int} {TI TL : Nat → LB} {t : LB} (F : ItF d dE w p x r wd tV tG tB TP TQ TE TI TL) (hk : x.kd = 9) (ht : t = itx x r wd tV tG tB TP TQ TE TI TL) (hlen : t.length ≤ BT) (hh : x.he = true) :
  Calls Tryd.prog 52 #[.agg (cellsI x).toArray] w (StrO t w) := by
 have HX := Lib.hid F.len
 have HF := Lib.hid F
 obtain ⟨tI, htI⟩ : ∃ y, y = catL TI x.ni := ⟨_, rfl⟩
 have HTI := Lib.hid htI
 obtain ⟨tL, htL⟩ : ∃ y, y = catL TL x.nl := ⟨_, rfl⟩
 have HTL := Lib.hid htL
 have HH := Lib.hid hh
 replace ht : t = [105, 102, 32, 40] ++ tV.1 ++ [41, 32, 98, 101, 103, 105, 110, 32, 58, 32] ++ x.lab ++ [10] ++ tI ++ [101, 110, 100] ++ [32, 101, 108, 115, 101, 32, 98, 101, 103, 105, 110, 32, 58, 32] ++ x.elab_ ++ [10] ++ tL ++ [101, 110, 100] ++ [10] := by rw [ht]; simp [itx, ItT.text, hk, beginL, htI, hh, htL]
 have HT := Lib.hid ht
 have hL := hlen
 have hL2 := hlen
 unfold BT at hL2
 rw [ht] at hL
 simp only [List.length_append, List.length_cons, List.length_nil, BT] at hL
 have HKD := Lib.hid hk
 clear hh htI htL ht hlen hk F
 go_enter Tryd.func52, Tryd.ntmps52
 go_wp2_with (refine wpl_boxv rfl 75 (.tmp 0) rfl (some 1) rfl (cells := (cellsI x).toArray) rfl ?_)
 refine ⟨fun w1 b1 HK HO ha1 hb1 => ?_⟩
 have c0 : w1.cell? ⟨b1, 0, none⟩ = some (.int .i64 9) := cellB HK.out (by rw [← HKD.out]; exact fI_kd x HX.out)
 go_upto_region 26 with (fail)
 refine ro (S := Only (fun _ => False) w1) (Only.refl _ _).drew (by kernel_rfl) (by kernel_rfl) (by kernel_rfl) ?_
 refine qo (uF fd_Item_7) ?_
 refine qo (uW stt_Expr HX.out.V fun W hW => segB (boxG HK hW) (sI_V x HX.out)) ?_
 refine qo (uK (enter_PrintExpr _) fun W hW => StrO.up hW (pe_all dE W p _ _ _ (HF.out.v.only (HO.out.trans hW) (fun _ _ h => h)) (by unfold BT; omega))) ?_
 refine qo uS ?_
 simp only [setT, sC, sZ]
 refine qo uS ?_
 refine qo (uF fd_Item_14) ?_
 refine qo (uC ctstring fun W hW => cellB (boxG HK hW) (fI_lab x HX.out)) ?_
 refine qo uS ?_
 simp only [setT, sC, sZ]
 refine qo uS ?_
 refine qo (uF fd_Item_15) ?_
 refine qo (uC ctS_Item fun W hW => cellB (boxG HK hW) (fI_I x HX.out)) ?_
 refine qo (uK (enter_printItems _) fun W hW => StrO.upR HTI.out hW (IS W p _ _ _ _ (Rw.only HF.out.I (HO.out.trans hW) (fun _ _ h => h) (fun _ _ h => PrI.only (HO.out.trans hW) (fun _ _ h => h) h)) (by rw [← HTI.out]; unfold BT; omega))) ?_
 simp only [setT, sC, sZ]
 refine qo uS ?_
 refine qo uS ?_
 refine qo (uA (.string (bstr (((((([105, 102, 32, 40] ++ tV.1) ++ [41, 32, 98, 101, 103, 105, 110, 32, 58, 32]) ++ x.lab) ++ [10]) ++ tI) ++ [101, 110, 100])))) ?_
 refine dO fun w2 hW2 => ?_
 simp only [setT, sC, sZ]
 have c62 : w2.cell? ⟨b1, 62, none⟩ = some (.bool true) := cellB (boxG HK hW2) (by rw [← HH.out]; exact fI_he x HX.out)
 go_upto_region 28 with (fail)
 refine ro (S := Only (fun _ => False) w1) hW2.drew (by kernel_rfl) (by kernel_rfl) (by kernel_rfl) ?_
 refine qo uMt ?_
 refine qo uS ?_
 refine qo (uF fd_Item_17) ?_
 refine qo (uC ctstring fun W hW => cellB (boxG HK hW) (fI_elab x HX.out)) ?_
 simp only [setT, sC, sZ]
 refine qo uS ?_
 refine qo uS ?_
 refine qo (uF fd_Item_18) ?_
 refine qo (uC ctS_Item fun W hW => cellB (boxG HK hW) (fI_L x HX.out)) ?_
 simp only [setT, sC, sZ]
 refine qo (uK (enter_printItems _) fun W hW => StrO.upR HTL.out hW (IS W p _ _ _ _ (Rw.only HF.out.L (HO.out.trans hW) (fun _ _ h => h) (fun _ _ h => PrI.only (HO.out.trans hW) (fun _ _ h => h) h)) (by rw [← HTL.out]; unfold BT; omega))) ?_
 refine qo uS ?_
 refine qo uS ?_
 refine qo (uA (.string (bstr ((((((((((([105, 102, 32, 40] ++ tV.1) ++ [41, 32, 98, 101, 103, 105, 110, 32, 58, 32]) ++ x.lab) ++ [10]) ++ tI) ++ [101, 110, 100]) ++ [32, 101, 108, 115, 101, 32, 98, 101, 103, 105, 110, 32, 58, 32]) ++ x.elab_) ++ [10]) ++ tL) ++ [101, 110, 100])))) ?_
 simp only [setT, sC, sZ]
 refine dO fun w3 hW3 => ?_
 go_upto_region 29 with (fail)
 refine rs hW3 ?_
 refine qs uMt ?_
 refine qs (uSn HT.out) ?_
 refine qs (uA (.string (bstr t))) ?_
 refine ds fun we hWe => ?_
 simp only [setT, sC, sZ]
 go_wp2
 go_ret
 exact StrO.mk rfl (HO.out.trans hWe)
set_option maxRecDepth 100000 in
set_option maxHeartbeats 8000000 in
theorem pi_k9f {d dE : Nat} (IS : IsR d) {w : World} {p : Nat → Prop} {x : ItV} {r wd : SpT} {tV tG : LB × Int} {tB : LB} {TP TQ : Nat → BiT} {TE : Nat → LB × Int} {TI TL : Nat → LB} {t : LB} (F : ItF d dE w p x r wd tV tG tB TP TQ TE TI TL) (hk : x.kd = 9) (ht : t = itx x r wd tV tG tB TP TQ TE TI TL) (hlen : t.length ≤ BT) (hh : x.he = false) :
  Calls Tryd.prog 52 #[.agg (cellsI x).toArray] w (StrO t w) := by
 have HX := Lib.hid F.len
 have HF := Lib.hid F
 obtain ⟨tI, htI⟩ : ∃ y, y = catL TI x.ni := ⟨_, rfl⟩
 have HTI := Lib.hid htI
 have HH := Lib.hid hh
 replace ht : t = [105, 102, 32, 40] ++ tV.1 ++ [41, 32, 98, 101, 103, 105, 110, 32, 58, 32] ++ x.lab ++ [10] ++ tI ++ [101, 110, 100] ++ [10] := by rw [ht]; simp [itx, ItT.text, hk, beginL, htI, hh]
 have HT := Lib.hid ht
 have hL := hlen
 have hL2 := hlen
 unfold BT at hL2
 rw [ht] at hL
 simp only [List.length_append, List.length_cons, List.length_nil, BT] at hL
 have HKD := Lib.hid hk
 clear hh htI ht hlen hk F
 go_enter Tryd.func52, Tryd.ntmps52
 go_wp2_with (refine wpl_boxv rfl 75 (.tmp 0) rfl (some 1) rfl (cells := (cellsI x).toArray) rfl ?_)
 refine ⟨fun w1 b1 HK HO ha1 hb1 => ?_⟩
 have c0 : w1.cell? ⟨b1, 0, none⟩ = some (.int .i64 9) := cellB HK.out (by rw [← HKD.out]; exact fI_kd x HX.out)
 go_upto_region 26 with (fail)
 refine ro (S := Only (fun _ => False) w1) (Only.refl _ _).drew (by kernel_rfl) (by kernel_rfl) (by kernel_rfl) ?_
 refine qo (uF fd_Item_7) ?_
 refine qo (uW stt_Expr HX.out.V fun W hW => segB (boxG HK hW) (sI_V x HX.out)) ?_
 refine qo (uK (enter_PrintExpr _) fun W hW => StrO.up hW (pe_all dE W p _ _ _ (HF.out.v.only (HO.out.trans hW) (fun _ _ h => h)) (by unfold BT; omega))) ?_
 refine qo uS ?_
 simp only [setT, sC, sZ]
 refine qo uS ?_
 refine qo (uF fd_Item_14) ?_
 refine qo (uC ctstring fun W hW => cellB (boxG HK hW) (fI_lab x HX.out)) ?_
 refine qo uS ?_
 simp only [setT, sC, sZ]
 refine qo uS ?_
 refine qo (uF fd_Item_15) ?_
 refine qo (uC ctS_Item fun W hW => cellB (boxG HK hW) (fI_I x HX.out)) ?_
 refine qo (uK (enter_printItems _) fun W hW => StrO.upR HTI.out hW (IS W p _ _ _ _ (Rw.only HF.out.I (HO.out.trans hW) (fun _ _ h => h) (fun _ _ h => PrI.only (HO.out.trans hW) (fun _ _ h => h) h)) (by rw [← HTI.out]; unfold BT; omega))) ?_
 simp only [setT, sC, sZ]
 refine qo uS ?_
 refine qo uS ?_
 refine qo (uA (.string (bstr (((((([105, 102, 32, 40] ++ tV.1) ++ [41, 32, 98, 101, 103, 105, 110, 32, 58, 32]) ++ x.lab) ++ [10]) ++ tI) ++ [101, 110, 100])))) ?_
 refine dO fun w2 hW2 => ?_
 simp only [setT, sC, sZ]
 have c62 : w2.cell? ⟨b1, 62, none⟩ = some (.bool false) := cellB (boxG HK hW2) (by rw [← HH.out]; exact fI_he x HX.out)
 go_upto_region 29 with (fail)
 refine rs hW2 ?_
 refine qs uMt ?_
 refine qs (uSn HT.out) ?_
 refine qs (uA (.string (bstr t))) ?_
 refine ds fun we hWe => ?_
 simp only [setT, sC, sZ]
 go_wp2
 go_ret
 exact StrO.mk rfl (HO.out.trans hWe)
theorem pi_succ {d : Nat} (IS : IsR d) : ItR (d + 1) := by
 intro w p cs t ⟨x, r, wd, tV, tG, tB, TP, TQ, TE, TI, TL, dE, e, ok, h1, h2, h3, h4, h5, h6, h7, h8, h9, h10, ht⟩ hl
 subst e
 have F : ItF d dE w p x r wd tV tG tB TP TQ TE TI TL := ⟨ok, h1, h2, h3, h4, h5, h6, h7, h8, h9, h10⟩
 have hk : x.kd = 1 ∨ x.kd = 2 ∨ x.kd = 3 ∨ x.kd = 4 ∨ x.kd = 5 ∨ x.kd = 6 ∨ x.kd = 7 ∨ x.kd = 8 ∨ x.kd = 9 := by have := ok.k; omega
 rcases hk with hk | hk | hk | hk | hk | hk | hk | hk | hk
 ·
  exact pi_k1 F hk ht hl
 ·
  cases hg : x.given with
  | true => exact pi_k2t F hk ht hl hg
  | false => exact pi_k2f F hk ht hl hg
 ·
  exact pi_k3 F hk ht hl
 ·
  exact pi_k4 F hk ht hl
 ·
  exact pi_k5 F hk ht hl
 ·
  cases hc : x.clk with
  | true => exact pi_k6t F hk ht hl hc
  | false => exact pi_k6f F hk ht hl hc
 ·
  by_cases hn : 0 < x.np
  ·
   exact pi_k7a F hk ht hl hn
  ·
   exact pi_k7b F hk ht hl (by omega)
 ·
  exact pi_k8 IS F hk ht hl
 ·
  cases hh : x.he with
  | true => exact pi_k9t IS F hk ht hl hh
  | false => exact pi_k9f IS F hk ht hl hh
set_option maxRecDepth 100000 in
set_option maxHeartbeats 8000000 in
theorem is_of {d : Nat} (IH : ItR d) : IsR d := by
 intro w p A n c T hr hlen
 have hn3 : n ≤ 3000000 := hr.1
 obtain ⟨tx, htx⟩ : ∃ x, x = catL T := ⟨_, rfl⟩
 rw [← htx] at hlen ⊢
 have HTX := Lib.hid htx
 have HMON := Lib.hid (catL_mono (T := T) (n := n))
 rw [← htx] at HMON
 have hl2 := hlen
 unfold BT at hl2
 have HR := Lib.hid hr
 clear hr htx hlen
 go_enter Tryd.func28, Tryd.ntmps28
 go_wp2
 go_loopw [3, 4] (fun vs vi wr => ∃ (i : Nat), i ≤ n ∧ vi = .int .i64 i ∧ vs = .string (bstr (tx i)) ∧ Hid (Only (fun _ => False) w wr)) (fun _ vi _ => n - (intOf vi).toNat)
 case atStart => exact ⟨0, Nat.zero_le _, rfl, by rw [HTX.out]; rfl, Lib.hid (Only.refl _ _)⟩
 case round =>
  obtain ⟨i, hi, rfl, rfl, HO⟩ := hrel
  have hm := HMON.out i hi
  by_cases hlt : i < n
  ·
   have hm1 := HMON.out (i + 1) (by omega)
   have HST : Hid (tx (i + 1) = tx i ++ T i) := Lib.hid (by rw [HTX.out]; rfl)
   have hm2 := hm1
   rw [HST.out] at hm2
   simp only [List.length_append] at hm2
   obtain ⟨bA, oA, C, rfl, hpA, hrng, hel⟩ := Rw.open_ HR.out (by omega)
   have HRng := Lib.hid hrng
   have HEl := Lib.hid hel
   clear hrng hel
   go_upto_region 5 with (fail)
   refine rs (S := Only (fun _ => False) wr) (Only.refl _ _) ?_
   refine qs uMt ?_
   refine qs uMs ?_
   refine qs uMi ?_
   refine qs (uI i euS_Item ezS_Item (hlt := hlt)) ?_
   simp only [setT, sC, sZ]
   refine qs (uW stt_Item (HEl.out i hlt).1 fun W hW => (HRng.out.at_ (HO.out.trans hW) (fun h => h) hlt)) ?_
   refine qs (uK (enter_printItem _) fun W hW => StrO.up hW (IH W p _ _ ((HEl.out i hlt).2.only (HO.out.trans hW) (fun _ _ h => h)) (by unfold BT; omega))) ?_
   refine qs (uSn HST.out) ?_
   refine qs (uA (.string (bstr (tx (i + 1))))) ?_
   simp only [setT, sC, sZ]
   refine ds fun w3 hW3 => ?_
   go_wp2
   go_roundw
   case rel => exact ⟨i + 1, by omega, by go_num, rfl, Lib.hid (HO.out.trans hW3)⟩
   case measure => simp [intOf]; omega
  ·
   obtain rfl : i = n := by omega
   go_wp2
   go_ret
   exact StrO.mk rfl HO.out
theorem pi_all : ∀ d, ItR d
 | 0 => fun _ _ _ _ h => h.elim
 | d + 1 => pi_succ (is_of (pi_all d))
end Go.Proofs.YtbdcpealkllfnaaDoor
