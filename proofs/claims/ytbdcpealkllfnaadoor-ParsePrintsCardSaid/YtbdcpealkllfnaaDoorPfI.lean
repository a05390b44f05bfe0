/- The printer's item, part, walked. Conditions: what is printed lies below the builder, the tables read as laid. -/
import Derived.Test.YtbdcpealkllfnaaDoorPfM
namespace Go.Proofs.YtbdcpealkllfnaaDoor
open Go.RowKit Go.Deep

def ItP (d : Nat) : Prop := ∀ (B b : Nat) (l : LB) (w : World) (cs : List Value) (t : LB), Tabs B w → PS B b l w w → PrI d w (Lo B) cs t → l.length + t.length ≤ BP → Calls Tryd.prog 25 #[.pointer (some ⟨b, 0, none⟩), .agg cs.toArray] w (PrO B b (l ++ t) w)
def PaP (d : Nat) : Prop := ∀ (B b : Nat) (l : LB) (w : World) (lab : LB) (A : Option Addr) (n c : Nat) (T : Nat → LB), Tabs B w → PS B b l w w → Rw 75 65 w (Lo B) A n (fun cs t => PrI d w (Lo B) cs t) T → l.length + (beginL lab (catL T n)).length ≤ BP → Calls Tryd.prog 47 #[.pointer (some ⟨b, 0, none⟩), .string (bstr lab), .slice A n c] w (PrO B b (l ++ beginL lab (catL T n)) w)
theorem oneI2 {d : Nat} {w : World} {p : Nat → Prop} {cs : List Value} {t : LB} (h : PrI d w p cs t) : ∀ v ∈ cs.toArray.toList, v.oneCell' = true := onesI (p := p) (w := w) (t := t) ⟨d, h⟩
set_option maxRecDepth 100000 in
set_option maxHeartbeats 8000000 in
theorem fi_k1 {d dE : Nat} {B b : Nat} {l : LB} {w : World} {x : ItV} {r wd : SpT} {tV tG : LB × Int} {tB : LB} {TP TQ : Nat → BiT} {TE : Nat → LB × Int} {TI TL : Nat → LB} {t : LB} (hT : Tabs B w) (hp : PS B b l w w) (F : ItF d dE w (Lo B) x r wd tV tG tB TP TQ TE TI TL) (hk : x.kd = 1) (ht : t = itx x r wd tV tG tB TP TQ TE TI TL) (hlen : l.length + t.length ≤ BP) :
  Calls Tryd.prog 25 #[.pointer (some ⟨b, 0, none⟩), .agg (cellsI x).toArray] w (PrO B b (l ++ t) w) := by
 have HX := Lib.hid F.len
 have HF := Lib.hid F
 have hBw := hp.sz
 have HTb := Lib.hid hT
 have H0 := Lib.hid hp
 have hg : x.given = false := by cases h : x.given with
  | false => rfl
  | true => have := F.ok.g h; omega
 have HG := Lib.hid hg
 replace ht : t = [119, 105, 114, 101, 32] ++ spanT r ++ x.nm ++ [59, 10] := by rw [ht]; simp [itx, ItT.text, hk]
 have HT := Lib.hid ht
 have hL := hlen
 rw [ht] at hL
 simp only [List.length_append, List.length_cons, List.length_nil, BP] at hL
 have HKD := Lib.hid hk
 clear hg ht hlen hk F hT hp
 go_enter Tryd.func25, Tryd.ntmps25
 go_wp2_with (refine wpl_boxv rfl 75 (.tmp 1) rfl (some 3) rfl (cells := (cellsI x).toArray) rfl ?_)
 refine ⟨fun w1 b1 HK ho1 ha1 hb1 => ?_⟩
 have H01 := Lib.hid (H0.out.only ho1.out)
 have HKn : b1 ≠ b := H01.out.ne HK.out (by decide)
 have HO : Hid (Only (fun i => B ≤ i) w w1) := Lib.hid (ho1.out.mono (fun _ _ h => h.elim))
 clear ho1 H0
 have c0 : w1.cell? ⟨b1, 0, none⟩ = some (.int .i64 1) := cellB HK.out (by rw [← HKD.out]; exact fI_kd x HX.out)
 go_upto_region 15 with (fail)
 refine rs (S := PS B b _ w1) H01.out.here ?_
 refine qs uMp ?_
 intro W0 hW0
 refine wpl_map2 rfl rfl rfl 47 rfl rfl (bstr [119, 105, 114, 101, 32]) (bstr [114, 101, 103, 32]) rfl rfl rfl rfl (fun _ => rfl) ?_
 refine ⟨fun wm1 rm1 HMm1 hom1 ham1 => ?_⟩
 have HWm1 := Lib.hid (hW0.only hom1.out)
 have hrm1 : rm1 ≠ b := HWm1.out.neM HMm1.out
 have HKm1 := Lib.hid (HWm1.out.heap HK.out (by decide) HKn)
 have HOm1 := Lib.hid (HO.out.trans HWm1.out.low)
 have H0m1 := Lib.hid (H01.out.trans HWm1.out)
 clear hW0 hom1
 refine toT (S := PS B b _ wm1) HWm1.out.here ?_
 refine qs uMm ?_
 refine qs (uF fd_Item_0) ?_
 refine qs (uC ctint fun W hW => cellB (m := 0) (v := .int .i64 1) (hW.heap HKm1.out (by decide) HKn) (by rw [← HKD.out]; exact fI_kd x HX.out)) ?_
 simp only [setT, sC, sZ]
 refine qs (uE (r := true)) ?_
 refine qs (uB (z := [119, 105, 114, 101, 32]) (fun W hW => hW.map HMm1.out hrm1) rfl) ?_
 refine putS [[119, 105, 114, 101, 32]] (bs1 _) (by simp [BP]; omega) (fun _ => ?_)
 refine ds fun u0 hU0 => ?_
 simp only [setT, sC, sZ]
 go_upto_region 16 with (fail)
 refine rs hU0 ?_
 refine qs uMp ?_
 refine qs (uF fd_Item_4) ?_
 refine qs (uW stt_Range HX.out.R fun W hW => segB (hW.heap HKm1.out (by decide) HKn) (sI_R x)) ?_
 refine qs (uK (enter_p_span _) fun W hW => PrO.up hW (spanP_any (l := _) (HTb.out.next (HOm1.out.trans hW.low) hBw) hW.here (FR.only (HOm1.out.trans hW.low) (fun _ h h2 => absurd h (Nat.not_lt.2 h2)) HF.out.r) (by simp [BP]; omega))) ?_
 simp only [setT, sC, sZ]
 refine ds fun u1 hU1 => ?_
 go_upto_region 17 with (fail)
 refine rs hU1 ?_
 refine qs uMp ?_
 refine qs (uF fd_Item_2) ?_
 refine qs (uC ctstring fun W hW => cellB (hW.heap HKm1.out (by decide) HKn) (fI_nm x HX.out)) ?_
 refine putS [x.nm] (bs1 _) (by simp [BP]; omega) (fun _ => ?_)
 simp only [setT, sC, sZ]
 refine ds fun u2 hU2 => ?_
 go_upto_region 18 with (fail)
 refine rs hU2 ?_
 refine qs (uF fd_Item_6) ?_
 refine qs (uC ctbool fun W hW => cellB (m := 34) (v := .bool false) (hW.heap HKm1.out (by decide) HKn) (by rw [← HG.out]; exact fI_given x HX.out)) ?_
 refine ds fun u3 hU3 => ?_
 simp only [setT, sC, sZ]
 go_upto_region 21 with (fail)
 refine rs hU3 ?_
 refine qs (uF fd_Item_0) ?_
 refine qs (uC ctint fun W hW => cellB (m := 0) (v := .int .i64 1) (hW.heap HKm1.out (by decide) HKn) (by rw [← HKD.out]; exact fI_kd x HX.out)) ?_
 refine qs (uE (r := false)) ?_
 refine ds fun u4 hU4 => ?_
 simp only [setT, sC, sZ]
 go_upto_region 27 with (fail)
 refine rs hU4 ?_
 refine qs uMp ?_
 refine putS [[59, 10]] (bs1 _) (by simp [BP]; omega) (fun _ => ?_)
 refine ds fun u5 hU5 => ?_
 simp only [setT, sC, sZ]
 go_wp2_with fail
 go_end0
 exact ⟨rfl, by rw [HT.out]; simpa using H0m1.out.trans hU5⟩
set_option maxRecDepth 100000 in
set_option maxHeartbeats 8000000 in
theorem fi_k3 {d dE : Nat} {B b : Nat} {l : LB} {w : World} {x : ItV} {r wd : SpT} {tV tG : LB × Int} {tB : LB} {TP TQ : Nat → BiT} {TE : Nat → LB × Int} {TI TL : Nat → LB} {t : LB} (hT : Tabs B w) (hp : PS B b l w w) (F : ItF d dE w (Lo B) x r wd tV tG tB TP TQ TE TI TL) (hk : x.kd = 3) (ht : t = itx x r wd tV tG tB TP TQ TE TI TL) (hlen : l.length + t.length ≤ BP) :
  Calls Tryd.prog 25 #[.pointer (some ⟨b, 0, none⟩), .agg (cellsI x).toArray] w (PrO B b (l ++ t) w) := by
 have HX := Lib.hid F.len
 have HF := Lib.hid F
 have hBw := hp.sz
 have HTb := Lib.hid hT
 have H0 := Lib.hid hp
 have hg : x.given = false := by cases h : x.given with
  | false => rfl
  | true => have := F.ok.g h; omega
 have HG := Lib.hid hg
 obtain ⟨wH, wL, kk, hwd⟩ := F.words
 have HWd := Lib.hid hwd
 clear hwd
 replace ht : t = [114, 101, 103, 32] ++ spanT r ++ x.nm ++ [32, 91] ++ wd.2.1 ++ [58] ++ wd.2.2 ++ [93] ++ [59, 10] := by rw [ht]; simp [itx, ItT.text, hk]
 have HT := Lib.hid ht
 have hL := hlen
 rw [ht] at hL
 simp only [List.length_append, List.length_cons, List.length_nil, BP] at hL
 have HKD := Lib.hid hk
 clear hg ht hlen hk F hT hp
 go_enter Tryd.func25, Tryd.ntmps25
 go_wp2_with (refine wpl_boxv rfl 75 (.tmp 1) rfl (some 3) rfl (cells := (cellsI x).toArray) rfl ?_)
 refine ⟨fun w1 b1 HK ho1 ha1 hb1 => ?_⟩
 have H01 := Lib.hid (H0.out.only ho1.out)
 have HKn : b1 ≠ b := H01.out.ne HK.out (by decide)
 have HO : Hid (Only (fun i => B ≤ i) w w1) := Lib.hid (ho1.out.mono (fun _ _ h => h.elim))
 clear ho1 H0
 have c0 : w1.cell? ⟨b1, 0, none⟩ = some (.int .i64 3) := cellB HK.out (by rw [← HKD.out]; exact fI_kd x HX.out)
 go_upto_region 15 with (fail)
 refine rs (S := PS B b _ w1) H01.out.here ?_
 refine qs uMp ?_
 intro W0 hW0
 refine wpl_map2 rfl rfl rfl 47 rfl rfl (bstr [119, 105, 114, 101, 32]) (bstr [114, 101, 103, 32]) rfl rfl rfl rfl (fun _ => rfl) ?_
 refine ⟨fun wm1 rm1 HMm1 hom1 ham1 => ?_⟩
 have HWm1 := Lib.hid (hW0.only hom1.out)
 have hrm1 : rm1 ≠ b := HWm1.out.neM HMm1.out
 have HKm1 := Lib.hid (HWm1.out.heap HK.out (by decide) HKn)
 have HOm1 := Lib.hid (HO.out.trans HWm1.out.low)
 have H0m1 := Lib.hid (H01.out.trans HWm1.out)
 clear hW0 hom1
 refine toT (S := PS B b _ wm1) HWm1.out.here ?_
 refine qs uMm ?_
 refine qs (uF fd_Item_0) ?_
 refine qs (uC ctint fun W hW => cellB (m := 0) (v := .int .i64 3) (hW.heap HKm1.out (by decide) HKn) (by rw [← HKD.out]; exact fI_kd x HX.out)) ?_
 simp only [setT, sC, sZ]
 refine qs (uE (r := false)) ?_
 refine qs (uB (z := [114, 101, 103, 32]) (fun W hW => hW.map HMm1.out hrm1) rfl) ?_
 refine putS [[114, 101, 103, 32]] (bs1 _) (by simp [BP]; omega) (fun _ => ?_)
 refine ds fun u0 hU0 => ?_
 simp only [setT, sC, sZ]
 go_upto_region 16 with (fail)
 refine rs hU0 ?_
 refine qs uMp ?_
 refine qs (uF fd_Item_4) ?_
 refine qs (uW stt_Range HX.out.R fun W hW => segB (hW.heap HKm1.out (by decide) HKn) (sI_R x)) ?_
 refine qs (uK (enter_p_span _) fun W hW => PrO.up hW (spanP_any (l := _) (HTb.out.next (HOm1.out.trans hW.low) hBw) hW.here (FR.only (HOm1.out.trans hW.low) (fun _ h h2 => absurd h (Nat.not_lt.2 h2)) HF.out.r) (by simp [BP]; omega))) ?_
 simp only [setT, sC, sZ]
 refine ds fun u1 hU1 => ?_
 go_upto_region 17 with (fail)
 refine rs hU1 ?_
 refine qs uMp ?_
 refine qs (uF fd_Item_2) ?_
 refine qs (uC ctstring fun W hW => cellB (hW.heap HKm1.out (by decide) HKn) (fI_nm x HX.out)) ?_
 refine putS [x.nm] (bs1 _) (by simp [BP]; omega) (fun _ => ?_)
 simp only [setT, sC, sZ]
 refine ds fun u2 hU2 => ?_
 go_upto_region 18 with (fail)
 refine rs hU2 ?_
 refine qs (uF fd_Item_6) ?_
 refine qs (uC ctbool fun W hW => cellB (m := 34) (v := .bool false) (hW.heap HKm1.out (by decide) HKn) (by rw [← HG.out]; exact fI_given x HX.out)) ?_
 refine ds fun u3 hU3 => ?_
 simp only [setT, sC, sZ]
 go_upto_region 21 with (fail)
 refine rs hU3 ?_
 refine qs (uF fd_Item_0) ?_
 refine qs (uC ctint fun W hW => cellB (m := 0) (v := .int .i64 3) (hW.heap HKm1.out (by decide) HKn) (by rw [← HKD.out]; exact fI_kd x HX.out)) ?_
 refine qs (uE (r := true)) ?_
 refine ds fun u4 hU4 => ?_
 simp only [setT, sC, sZ]
 go_upto_region 22 with (fail)
 refine rs hU4 ?_
 refine qs uMp ?_
 refine putS [[32, 91]] (bs1 _) (by simp [BP]; omega) (fun _ => ?_)
 refine ds fun u5 hU5 => ?_
 simp only [setT, sC, sZ]
 go_upto_region 23 with (fail)
 refine rs hU5 ?_
 refine qs uMp ?_
 refine qs (uF fd_Item_5) ?_
 refine qs (uF fd_Range_1) ?_
 refine qs (uW stt_Expr HWd.out.lh fun W hW => segB (hW.heap HKm1.out (by decide) HKn) ((sI_W x HX.out).in_ HWd.out.sh)) ?_
 simp only [setT, sC, sZ]
 refine qs (uK (enter_p_expr _) fun W hW => PrO.up hW (fe_all dE B b _ W _ _ _ (HTb.out.next (HOm1.out.trans hW.low) hBw) hW.here (HWd.out.h.only (HOm1.out.trans hW.low) (fun _ h h2 => absurd h (Nat.not_lt.2 h2))) (by simp [BP]; omega))) ?_
 refine ds fun u6 hU6 => ?_
 simp only [setT, sC, sZ]
 go_upto_region 24 with (fail)
 refine rs hU6 ?_
 refine qs uMp ?_
 refine putS [[58]] (bs1 _) (by simp [BP]; omega) (fun _ => ?_)
 refine ds fun u7 hU7 => ?_
 simp only [setT, sC, sZ]
 go_upto_region 25 with (fail)
 refine rs hU7 ?_
 refine qs uMp ?_
 refine qs (uF fd_Item_5) ?_
 refine qs (uF fd_Range_2) ?_
 refine qs (uW stt_Expr HWd.out.ll fun W hW => segB (hW.heap HKm1.out (by decide) HKn) ((sI_W x HX.out).in_ HWd.out.sl)) ?_
 simp only [setT, sC, sZ]
 refine qs (uK (enter_p_expr _) fun W hW => PrO.up hW (fe_all dE B b _ W _ _ _ (HTb.out.next (HOm1.out.trans hW.low) hBw) hW.here (HWd.out.l.only (HOm1.out.trans hW.low) (fun _ h h2 => absurd h (Nat.not_lt.2 h2))) (by simp [BP]; omega))) ?_
 refine ds fun u8 hU8 => ?_
 simp only [setT, sC, sZ]
 go_upto_region 26 with (fail)
 refine rs hU8 ?_
 refine qs uMp ?_
 refine putS [[93]] (bs1 _) (by simp [BP]; omega) (fun _ => ?_)
 refine ds fun u9 hU9 => ?_
 simp only [setT, sC, sZ]
 go_upto_region 27 with (fail)
 refine rs hU9 ?_
 refine qs uMp ?_
 refine putS [[59, 10]] (bs1 _) (by simp [BP]; omega) (fun _ => ?_)
 refine ds fun u10 hU10 => ?_
 simp only [setT, sC, sZ]
 go_wp2_with fail
 go_end0
 exact ⟨rfl, by rw [HT.out]; simpa using H0m1.out.trans hU10⟩
set_option maxRecDepth 100000 in
set_option maxHeartbeats 8000000 in
theorem fi_k2t {d dE : Nat} {B b : Nat} {l : LB} {w : World} {x : ItV} {r wd : SpT} {tV tG : LB × Int} {tB : LB} {TP TQ : Nat → BiT} {TE : Nat → LB × Int} {TI TL : Nat → LB} {t : LB} (hT : Tabs B w) (hp : PS B b l w w) (F : ItF d dE w (Lo B) x r wd tV tG tB TP TQ TE TI TL) (hk : x.kd = 2) (ht : t = itx x r wd tV tG tB TP TQ TE TI TL) (hlen : l.length + t.length ≤ BP) (hg : x.given = true) :
  Calls Tryd.prog 25 #[.pointer (some ⟨b, 0, none⟩), .agg (cellsI x).toArray] w (PrO B b (l ++ t) w) := by
 have HX := Lib.hid F.len
 have HF := Lib.hid F
 have hBw := hp.sz
 have HTb := Lib.hid hT
 have H0 := Lib.hid hp
 have HG := Lib.hid hg
 replace ht : t = [114, 101, 103, 32] ++ spanT r ++ x.nm ++ [32, 61, 32] ++ tV.1 ++ [59, 10] := by rw [ht]; simp [itx, ItT.text, hk, hg]
 have HT := Lib.hid ht
 have hL := hlen
 rw [ht] at hL
 simp only [List.length_append, List.length_cons, List.length_nil, BP] at hL
 have HKD := Lib.hid hk
 clear hg ht hlen hk F hT hp
 go_enter Tryd.func25, Tryd.ntmps25
 go_wp2_with (refine wpl_boxv rfl 75 (.tmp 1) rfl (some 3) rfl (cells := (cellsI x).toArray) rfl ?_)
 refine ⟨fun w1 b1 HK ho1 ha1 hb1 => ?_⟩
 have H01 := Lib.hid (H0.out.only ho1.out)
 have HKn : b1 ≠ b := H01.out.ne HK.out (by decide)
 have HO : Hid (Only (fun i => B ≤ i) w w1) := Lib.hid (ho1.out.mono (fun _ _ h => h.elim))
 clear ho1 H0
 have c0 : w1.cell? ⟨b1, 0, none⟩ = some (.int .i64 2) := cellB HK.out (by rw [← HKD.out]; exact fI_kd x HX.out)
 go_upto_region 15 with (fail)
 refine rs (S := PS B b _ w1) H01.out.here ?_
 refine qs uMp ?_
 intro W0 hW0
 refine wpl_map2 rfl rfl rfl 47 rfl rfl (bstr [119, 105, 114, 101, 32]) (bstr [114, 101, 103, 32]) rfl rfl rfl rfl (fun _ => rfl) ?_
 refine ⟨fun wm1 rm1 HMm1 hom1 ham1 => ?_⟩
 have HWm1 := Lib.hid (hW0.only hom1.out)
 have hrm1 : rm1 ≠ b := HWm1.out.neM HMm1.out
 have HKm1 := Lib.hid (HWm1.out.heap HK.out (by decide) HKn)
 have HOm1 := Lib.hid (HO.out.trans HWm1.out.low)
 have H0m1 := Lib.hid (H01.out.trans HWm1.out)
 clear hW0 hom1
 refine toT (S := PS B b _ wm1) HWm1.out.here ?_
 refine qs uMm ?_
 refine qs (uF fd_Item_0) ?_
 refine qs (uC ctint fun W hW => cellB (m := 0) (v := .int .i64 2) (hW.heap HKm1.out (by decide) HKn) (by rw [← HKD.out]; exact fI_kd x HX.out)) ?_
 simp only [setT, sC, sZ]
 refine qs (uE (r := false)) ?_
 refine qs (uB (z := [114, 101, 103, 32]) (fun W hW => hW.map HMm1.out hrm1) rfl) ?_
 refine putS [[114, 101, 103, 32]] (bs1 _) (by simp [BP]; omega) (fun _ => ?_)
 refine ds fun u0 hU0 => ?_
 simp only [setT, sC, sZ]
 go_upto_region 16 with (fail)
 refine rs hU0 ?_
 refine qs uMp ?_
 refine qs (uF fd_Item_4) ?_
 refine qs (uW stt_Range HX.out.R fun W hW => segB (hW.heap HKm1.out (by decide) HKn) (sI_R x)) ?_
 refine qs (uK (enter_p_span _) fun W hW => PrO.up hW (spanP_any (l := _) (HTb.out.next (HOm1.out.trans hW.low) hBw) hW.here (FR.only (HOm1.out.trans hW.low) (fun _ h h2 => absurd h (Nat.not_lt.2 h2)) HF.out.r) (by simp [BP]; omega))) ?_
 simp only [setT, sC, sZ]
 refine ds fun u1 hU1 => ?_
 go_upto_region 17 with (fail)
 refine rs hU1 ?_
 refine qs uMp ?_
 refine qs (uF fd_Item_2) ?_
 refine qs (uC ctstring fun W hW => cellB (hW.heap HKm1.out (by decide) HKn) (fI_nm x HX.out)) ?_
 refine putS [x.nm] (bs1 _) (by simp [BP]; omega) (fun _ => ?_)
 simp only [setT, sC, sZ]
 refine ds fun u2 hU2 => ?_
 go_upto_region 18 with (fail)
 refine rs hU2 ?_
 refine qs (uF fd_Item_6) ?_
 refine qs (uC ctbool fun W hW => cellB (m := 34) (v := .bool true) (hW.heap HKm1.out (by decide) HKn) (by rw [← HG.out]; exact fI_given x HX.out)) ?_
 refine ds fun u3 hU3 => ?_
 simp only [setT, sC, sZ]
 go_upto_region 19 with (fail)
 refine rs hU3 ?_
 refine qs uMp ?_
 refine putS [[32, 61, 32]] (bs1 _) (by simp [BP]; omega) (fun _ => ?_)
 refine ds fun u4 hU4 => ?_
 simp only [setT, sC, sZ]
 go_upto_region 20 with (fail)
 refine rs hU4 ?_
 refine qs uMp ?_
 refine qs (uF fd_Item_7) ?_
 refine qs (uW stt_Expr HX.out.V fun W hW => segB (hW.heap HKm1.out (by decide) HKn) (sI_V x HX.out)) ?_
 refine qs (uK (enter_p_expr _) fun W hW => PrO.up hW (fe_all dE B b _ W _ _ _ (HTb.out.next (HOm1.out.trans hW.low) hBw) hW.here (HF.out.v.only (HOm1.out.trans hW.low) (fun _ h h2 => absurd h (Nat.not_lt.2 h2))) (by simp [BP]; omega))) ?_
 simp only [setT, sC, sZ]
 refine ds fun u5 hU5 => ?_
 go_upto_region 21 with (fail)
 refine rs hU5 ?_
 refine qs (uF fd_Item_0) ?_
 refine qs (uC ctint fun W hW => cellB (m := 0) (v := .int .i64 2) (hW.heap HKm1.out (by decide) HKn) (by rw [← HKD.out]; exact fI_kd x HX.out)) ?_
 refine qs (uE (r := false)) ?_
 refine ds fun u6 hU6 => ?_
 simp only [setT, sC, sZ]
 go_upto_region 27 with (fail)
 refine rs hU6 ?_
 refine qs uMp ?_
 refine putS [[59, 10]] (bs1 _) (by simp [BP]; omega) (fun _ => ?_)
 refine ds fun u7 hU7 => ?_
 simp only [setT, sC, sZ]
 go_wp2_with fail
 go_end0
 exact ⟨rfl, by rw [HT.out]; simpa using H0m1.out.trans hU7⟩
set_option maxRecDepth 100000 in
set_option maxHeartbeats 8000000 in
theorem fi_k2f {d dE : Nat} {B b : Nat} {l : LB} {w : World} {x : ItV} {r wd : SpT} {tV tG : LB × Int} {tB : LB} {TP TQ : Nat → BiT} {TE : Nat → LB × Int} {TI TL : Nat → LB} {t : LB} (hT : Tabs B w) (hp : PS B b l w w) (F : ItF d dE w (Lo B) x r wd tV tG tB TP TQ TE TI TL) (hk : x.kd = 2) (ht : t = itx x r wd tV tG tB TP TQ TE TI TL) (hlen : l.length + t.length ≤ BP) (hg : x.given = false) :
  Calls Tryd.prog 25 #[.pointer (some ⟨b, 0, none⟩), .agg (cellsI x).toArray] w (PrO B b (l ++ t) w) := by
 have HX := Lib.hid F.len
 have HF := Lib.hid F
 have hBw := hp.sz
 have HTb := Lib.hid hT
 have H0 := Lib.hid hp
 have HG := Lib.hid hg
 replace ht : t = [114, 101, 103, 32] ++ spanT r ++ x.nm ++ [59, 10] := by rw [ht]; simp [itx, ItT.text, hk, hg]
 have HT := Lib.hid ht
 have hL := hlen
 rw [ht] at hL
 simp only [List.length_append, List.length_cons, List.length_nil, BP] at hL
 have HKD := Lib.hid hk
 clear hg ht hlen hk F hT hp
 go_enter Tryd.func25, Tryd.ntmps25
 go_wp2_with (refine wpl_boxv rfl 75 (.tmp 1) rfl (some 3) rfl (cells := (cellsI x).toArray) rfl ?_)
 refine ⟨fun w1 b1 HK ho1 ha1 hb1 => ?_⟩
 have H01 := Lib.hid (H0.out.only ho1.out)
 have HKn : b1 ≠ b := H01.out.ne HK.out (by decide)
 have HO : Hid (Only (fun i => B ≤ i) w w1) := Lib.hid (ho1.out.mono (fun _ _ h => h.elim))
 clear ho1 H0
 have c0 : w1.cell? ⟨b1, 0, none⟩ = some (.int .i64 2) := cellB HK.out (by rw [← HKD.out]; exact fI_kd x HX.out)
 go_upto_region 15 with (fail)
 refine rs (S := PS B b _ w1) H01.out.here ?_
 refine qs uMp ?_
 intro W0 hW0
 refine wpl_map2 rfl rfl rfl 47 rfl rfl (bstr [119, 105, 114, 101, 32]) (bstr [114, 101, 103, 32]) rfl rfl rfl rfl (fun _ => rfl) ?_
 refine ⟨fun wm1 rm1 HMm1 hom1 ham1 => ?_⟩
 have HWm1 := Lib.hid (hW0.only hom1.out)
 have hrm1 : rm1 ≠ b := HWm1.out.neM HMm1.out
 have HKm1 := Lib.hid (HWm1.out.heap HK.out (by decide) HKn)
 have HOm1 := Lib.hid (HO.out.trans HWm1.out.low)
 have H0m1 := Lib.hid (H01.out.trans HWm1.out)
 clear hW0 hom1
 refine toT (S := PS B b _ wm1) HWm1.out.here ?_
 refine qs uMm ?_
 refine qs (uF fd_Item_0) ?_
 refine qs (uC ctint fun W hW => cellB (m := 0) (v := .int .i64 2) (hW.heap HKm1.out (by decide) HKn) (by rw [← HKD.out]; exact fI_kd x HX.out)) ?_
 simp only [setT, sC, sZ]
 refine qs (uE (r := false)) ?_
 refine qs (uB (z := [114, 101, 103, 32]) (fun W hW => hW.map HMm1.out hrm1) rfl) ?_
 refine putS [[114, 101, 103, 32]] (bs1 _) (by simp [BP]; omega) (fun _ => ?_)
 refine ds fun u0 hU0 => ?_
 simp only [setT, sC, sZ]
 go_upto_region 16 with (fail)
 refine rs hU0 ?_
 refine qs uMp ?_
 refine qs (uF fd_Item_4) ?_
 refine qs (uW stt_Range HX.out.R fun W hW => segB (hW.heap HKm1.out (by decide) HKn) (sI_R x)) ?_
 refine qs (uK (enter_p_span _) fun W hW => PrO.up hW (spanP_any (l := _) (HTb.out.next (HOm1.out.trans hW.low) hBw) hW.here (FR.only (HOm1.out.trans hW.low) (fun _ h h2 => absurd h (Nat.not_lt.2 h2)) HF.out.r) (by simp [BP]; omega))) ?_
 simp only [setT, sC, sZ]
 refine ds fun u1 hU1 => ?_
 go_upto_region 17 with (fail)
 refine rs hU1 ?_
 refine qs uMp ?_
 refine qs (uF fd_Item_2) ?_
 refine qs (uC ctstring fun W hW => cellB (hW.heap HKm1.out (by decide) HKn) (fI_nm x HX.out)) ?_
 refine putS [x.nm] (bs1 _) (by simp [BP]; omega) (fun _ => ?_)
 simp only [setT, sC, sZ]
 refine ds fun u2 hU2 => ?_
 go_upto_region 18 with (fail)
 refine rs hU2 ?_
 refine qs (uF fd_Item_6) ?_
 refine qs (uC ctbool fun W hW => cellB (m := 34) (v := .bool false) (hW.heap HKm1.out (by decide) HKn) (by rw [← HG.out]; exact fI_given x HX.out)) ?_
 refine ds fun u3 hU3 => ?_
 simp only [setT, sC, sZ]
 go_upto_region 21 with (fail)
 refine rs hU3 ?_
 refine qs (uF fd_Item_0) ?_
 refine qs (uC ctint fun W hW => cellB (m := 0) (v := .int .i64 2) (hW.heap HKm1.out (by decide) HKn) (by rw [← HKD.out]; exact fI_kd x HX.out)) ?_
 refine qs (uE (r := false)) ?_
 refine ds fun u4 hU4 => ?_
 simp only [setT, sC, sZ]
 go_upto_region 27 with (fail)
 refine rs hU4 ?_
 refine qs uMp ?_
 refine putS [[59, 10]] (bs1 _) (by simp [BP]; omega) (fun _ => ?_)
 refine ds fun u5 hU5 => ?_
 simp only [setT, sC, sZ]
 go_wp2_with fail
 go_end0
 exact ⟨rfl, by rw [HT.out]; simpa using H0m1.out.trans hU5⟩
set_option maxRecDepth 100000 in
set_option maxHeartbeats 8000000 in
theorem fi_k4 {d dE : Nat} {B b : Nat} {l : LB} {w : World} {x : ItV} {r wd : SpT} {tV tG : LB × Int} {tB : LB} {TP TQ : Nat → BiT} {TE : Nat → LB × Int} {TI TL : Nat → LB} {t : LB} (hT : Tabs B w) (hp : PS B b l w w) (F : ItF d dE w (Lo B) x r wd tV tG tB TP TQ TE TI TL) (hk : x.kd = 4) (ht : t = itx x r wd tV tG tB TP TQ TE TI TL) (hlen : l.length + t.length ≤ BP) :
  Calls Tryd.prog 25 #[.pointer (some ⟨b, 0, none⟩), .agg (cellsI x).toArray] w (PrO B b (l ++ t) w) := by
 have HX := Lib.hid F.len
 have HF := Lib.hid F
 have hBw := hp.sz
 have HTb := Lib.hid hT
 have H0 := Lib.hid hp
 replace ht : t = [108, 111, 99, 97, 108, 112, 97, 114, 97, 109, 32] ++ x.nm ++ [32, 61, 32] ++ tV.1 ++ [59, 10] := by rw [ht]; simp [itx, ItT.text, hk]
 have HT := Lib.hid ht
 have hL := hlen
 rw [ht] at hL
 simp only [List.length_append, List.length_cons, List.length_nil, BP] at hL
 have HKD := Lib.hid hk
 clear ht hlen hk F hT hp
 go_enter Tryd.func25, Tryd.ntmps25
 go_wp2_with (refine wpl_boxv rfl 75 (.tmp 1) rfl (some 3) rfl (cells := (cellsI x).toArray) rfl ?_)
 refine ⟨fun w1 b1 HK ho1 ha1 hb1 => ?_⟩
 have H01 := Lib.hid (H0.out.only ho1.out)
 have HKn : b1 ≠ b := H01.out.ne HK.out (by decide)
 have HO : Hid (Only (fun i => B ≤ i) w w1) := Lib.hid (ho1.out.mono (fun _ _ h => h.elim))
 clear ho1 H0
 have c0 : w1.cell? ⟨b1, 0, none⟩ = some (.int .i64 4) := cellB HK.out (by rw [← HKD.out]; exact fI_kd x HX.out)
 go_upto_region 29 with (fail)
 refine rs (S := PS B b _ w1) H01.out.here ?_
 refine qs uMp ?_
 refine qs (uF fd_Item_2) ?_
 refine qs (uC ctstring fun W hW => cellB (hW.heap HK.out (by decide) HKn) (fI_nm x HX.out)) ?_
 refine putS [[108, 111, 99, 97, 108, 112, 97, 114, 97, 109, 32], x.nm, [32, 61, 32]] (bs3 _ _ _) (by simp [BP]; omega) (fun _ => ?_)
 simp only [setT, sC, sZ]
 refine ds fun u0 hU0 => ?_
 go_upto_region 30 with (fail)
 refine rs hU0 ?_
 refine qs uMp ?_
 refine qs (uF fd_Item_7) ?_
 refine qs (uW stt_Expr HX.out.V fun W hW => segB (hW.heap HK.out (by decide) HKn) (sI_V x HX.out)) ?_
 refine qs (uK (enter_p_expr _) fun W hW => PrO.up hW (fe_all dE B b _ W _ _ _ (HTb.out.next (HO.out.trans hW.low) hBw) hW.here (HF.out.v.only (HO.out.trans hW.low) (fun _ h h2 => absurd h (Nat.not_lt.2 h2))) (by simp [BP]; omega))) ?_
 simp only [setT, sC, sZ]
 refine ds fun u1 hU1 => ?_
 go_upto_region 31 with (fail)
 refine rs hU1 ?_
 refine qs uMp ?_
 refine putS [[59, 10]] (bs1 _) (by simp [BP]; omega) (fun _ => ?_)
 refine ds fun u2 hU2 => ?_
 simp only [setT, sC, sZ]
 go_wp2_with fail
 go_end0
 exact ⟨rfl, by rw [HT.out]; simpa using H01.out.trans hU2⟩
set_option maxRecDepth 100000 in
set_option maxHeartbeats 8000000 in
theorem fi_k5 {d dE : Nat} {B b : Nat} {l : LB} {w : World} {x : ItV} {r wd : SpT} {tV tG : LB × Int} {tB : LB} {TP TQ : Nat → BiT} {TE : Nat → LB × Int} {TI TL : Nat → LB} {t : LB} (hT : Tabs B w) (hp : PS B b l w w) (F : ItF d dE w (Lo B) x r wd tV tG tB TP TQ TE TI TL) (hk : x.kd = 5) (ht : t = itx x r wd tV tG tB TP TQ TE TI TL) (hlen : l.length + t.length ≤ BP) :
  Calls Tryd.prog 25 #[.pointer (some ⟨b, 0, none⟩), .agg (cellsI x).toArray] w (PrO B b (l ++ t) w) := by
 have HX := Lib.hid F.len
 have HF := Lib.hid F
 have hBw := hp.sz
 have HTb := Lib.hid hT
 have H0 := Lib.hid hp
 replace ht : t = [97, 115, 115, 105, 103, 110, 32] ++ tG.1 ++ [32, 61, 32] ++ tV.1 ++ [59, 10] := by rw [ht]; simp [itx, ItT.text, hk]
 have HT := Lib.hid ht
 have hL := hlen
 rw [ht] at hL
 simp only [List.length_append, List.length_cons, List.length_nil, BP] at hL
 have HKD := Lib.hid hk
 clear ht hlen hk F hT hp
 go_enter Tryd.func25, Tryd.ntmps25
 go_wp2_with (refine wpl_boxv rfl 75 (.tmp 1) rfl (some 3) rfl (cells := (cellsI x).toArray) rfl ?_)
 refine ⟨fun w1 b1 HK ho1 ha1 hb1 => ?_⟩
 have H01 := Lib.hid (H0.out.only ho1.out)
 have HKn : b1 ≠ b := H01.out.ne HK.out (by decide)
 have HO : Hid (Only (fun i => B ≤ i) w w1) := Lib.hid (ho1.out.mono (fun _ _ h => h.elim))
 clear ho1 H0
 have c0 : w1.cell? ⟨b1, 0, none⟩ = some (.int .i64 5) := cellB HK.out (by rw [← HKD.out]; exact fI_kd x HX.out)
 go_upto_region 33 with (fail)
 refine rs (S := PS B b _ w1) H01.out.here ?_
 refine qs uMp ?_
 refine putS [[97, 115, 115, 105, 103, 110, 32]] (bs1 _) (by simp [BP]; omega) (fun _ => ?_)
 refine ds fun u0 hU0 => ?_
 simp only [setT, sC, sZ]
 go_upto_region 34 with (fail)
 refine rs hU0 ?_
 refine qs uMp ?_
 refine qs (uF fd_Item_8) ?_
 refine qs (uW stt_Expr HX.out.G fun W hW => segB (hW.heap HK.out (by decide) HKn) (sI_G x HX.out)) ?_
 refine qs (uK (enter_p_expr _) fun W hW => PrO.up hW (fe_all dE B b _ W _ _ _ (HTb.out.next (HO.out.trans hW.low) hBw) hW.here (HF.out.g.only (HO.out.trans hW.low) (fun _ h h2 => absurd h (Nat.not_lt.2 h2))) (by simp [BP]; omega))) ?_
 simp only [setT, sC, sZ]
 refine ds fun u1 hU1 => ?_
 go_upto_region 35 with (fail)
 refine rs hU1 ?_
 refine qs uMp ?_
 refine putS [[32, 61, 32]] (bs1 _) (by simp [BP]; omega) (fun _ => ?_)
 refine ds fun u2 hU2 => ?_
 simp only [setT, sC, sZ]
 go_upto_region 36 with (fail)
 refine rs hU2 ?_
 refine qs uMp ?_
 refine qs (uF fd_Item_7) ?_
 refine qs (uW stt_Expr HX.out.V fun W hW => segB (hW.heap HK.out (by decide) HKn) (sI_V x HX.out)) ?_
 refine qs (uK (enter_p_expr _) fun W hW => PrO.up hW (fe_all dE B b _ W _ _ _ (HTb.out.next (HO.out.trans hW.low) hBw) hW.here (HF.out.v.only (HO.out.trans hW.low) (fun _ h h2 => absurd h (Nat.not_lt.2 h2))) (by simp [BP]; omega))) ?_
 simp only [setT, sC, sZ]
 refine ds fun u3 hU3 => ?_
 go_upto_region 37 with (fail)
 refine rs hU3 ?_
 refine qs uMp ?_
 refine putS [[59, 10]] (bs1 _) (by simp [BP]; omega) (fun _ => ?_)
 refine ds fun u4 hU4 => ?_
 simp only [setT, sC, sZ]
 go_wp2_with fail
 go_end0
 exact ⟨rfl, by rw [HT.out]; simpa using H01.out.trans hU4⟩
set_option maxRecDepth 100000 in
set_option maxHeartbeats 8000000 in
theorem fi_k6t {d dE : Nat} {B b : Nat} {l : LB} {w : World} {x : ItV} {r wd : SpT} {tV tG : LB × Int} {tB : LB} {TP TQ : Nat → BiT} {TE : Nat → LB × Int} {TI TL : Nat → LB} {t : LB} (hT : Tabs B w) (hp : PS B b l w w) (F : ItF d dE w (Lo B) x r wd tV tG tB TP TQ TE TI TL) (hk : x.kd = 6) (ht : t = itx x r wd tV tG tB TP TQ TE TI TL) (hlen : l.length + t.length ≤ BP) (hc : x.clk = true) :
  Calls Tryd.prog 25 #[.pointer (some ⟨b, 0, none⟩), .agg (cellsI x).toArray] w (PrO B b (l ++ t) w) := by
 have HX := Lib.hid F.len
 have HF := Lib.hid F
 have hBw := hp.sz
 have HTb := Lib.hid hT
 have H0 := Lib.hid hp
 have HC := Lib.hid hc
 have HK6 := Lib.hid hk
 replace ht : t = [97, 108, 119, 97, 121, 115, 32, 64, 99, 108, 107, 32] ++ tB ++ [10] := by rw [ht]; simp [itx, ItT.text, hk, hc]
 have HT := Lib.hid ht
 have hL := hlen
 rw [ht] at hL
 simp only [List.length_append, List.length_cons, List.length_nil, BP] at hL
 have HKD := Lib.hid hk
 clear hc ht hlen hk F hT hp
 go_enter Tryd.func25, Tryd.ntmps25
 go_wp2_with (refine wpl_boxv rfl 75 (.tmp 1) rfl (some 3) rfl (cells := (cellsI x).toArray) rfl ?_)
 refine ⟨fun w1 b1 HK ho1 ha1 hb1 => ?_⟩
 have H01 := Lib.hid (H0.out.only ho1.out)
 have HKn : b1 ≠ b := H01.out.ne HK.out (by decide)
 have HO : Hid (Only (fun i => B ≤ i) w w1) := Lib.hid (ho1.out.mono (fun _ _ h => h.elim))
 clear ho1 H0
 have c0 : w1.cell? ⟨b1, 0, none⟩ = some (.int .i64 6) := cellB HK.out (by rw [← HKD.out]; exact fI_kd x HX.out)
 go_upto_region 39 with (fail)
 refine rs (S := PS B b _ w1) H01.out.here ?_
 refine qs uMp ?_
 intro W0 hW0
 refine wpl_map2 rfl rfl rfl 134 rfl rfl (bstr [97, 108, 119, 97, 121, 115, 32, 64, 99, 108, 107, 32]) (bstr [97, 108, 119, 97, 121, 115, 32, 64, 42, 32]) rfl rfl rfl rfl (fun _ => rfl) ?_
 refine ⟨fun wm1 rm1 HMm1 hom1 ham1 => ?_⟩
 have HWm1 := Lib.hid (hW0.only hom1.out)
 have hrm1 : rm1 ≠ b := HWm1.out.neM HMm1.out
 have HKm1 := Lib.hid (HWm1.out.heap HK.out (by decide) HKn)
 have HOm1 := Lib.hid (HO.out.trans HWm1.out.low)
 have H0m1 := Lib.hid (H01.out.trans HWm1.out)
 clear hW0 hom1
 refine toT (S := PS B b _ wm1) HWm1.out.here ?_
 refine qs uMm ?_
 refine qs (uF fd_Item_9) ?_
 refine qs (uC ctbool fun W hW => cellB (m := 49) (v := .bool true) (hW.heap HKm1.out (by decide) HKn) (by rw [← HC.out]; exact fI_clk x HX.out)) ?_
 simp only [setT, sC, sZ]
 refine qs (uB (z := [97, 108, 119, 97, 121, 115, 32, 64, 99, 108, 107, 32]) (fun W hW => hW.map HMm1.out hrm1) rfl) ?_
 refine putS [[97, 108, 119, 97, 121, 115, 32, 64, 99, 108, 107, 32]] (bs1 _) (by simp [BP]; omega) (fun _ => ?_)
 refine ds fun u0 hU0 => ?_
 simp only [setT, sC, sZ]
 go_upto_region 40 with (fail)
 refine rs hU0 ?_
 refine qs uMp ?_
 refine qs (uF fd_Item_10) ?_
 refine qs (uW stt_Stmt HX.out.B fun W hW => segB (hW.heap HKm1.out (by decide) HKn) (sI_B x HX.out)) ?_
 refine qs (uK (enter_p_stmt _) fun W hW => PrO.up hW (fs_all dE B b _ W _ _ (HTb.out.next (HOm1.out.trans hW.low) hBw) hW.here (PrS.only (HOm1.out.trans hW.low) (fun _ h h2 => absurd h (Nat.not_lt.2 h2)) (HF.out.b HK6.out)) (by simp [BP]; omega))) ?_
 simp only [setT, sC, sZ]
 refine ds fun u1 hU1 => ?_
 go_upto_region 41 with (fail)
 refine rs hU1 ?_
 refine qs uMp ?_
 refine putS [[10]] (bs1 _) (by simp [BP]; omega) (fun _ => ?_)
 refine ds fun u2 hU2 => ?_
 simp only [setT, sC, sZ]
 go_wp2_with fail
 go_end0
 exact ⟨rfl, by rw [HT.out]; simpa using H0m1.out.trans hU2⟩
set_option maxRecDepth 100000 in
set_option maxHeartbeats 8000000 in
theorem fi_k6f {d dE : Nat} {B b : Nat} {l : LB} {w : World} {x : ItV} {r wd : SpT} {tV tG : LB × Int} {tB : LB} {TP TQ : Nat → BiT} {TE : Nat → LB × Int} {TI TL : Nat → LB} {t : LB} (hT : Tabs B w) (hp : PS B b l w w) (F : ItF d dE w (Lo B) x r wd tV tG tB TP TQ TE TI TL) (hk : x.kd = 6) (ht : t = itx x r wd tV tG tB TP TQ TE TI TL) (hlen : l.length + t.length ≤ BP) (hc : x.clk = false) :
  Calls Tryd.prog 25 #[.pointer (some ⟨b, 0, none⟩), .agg (cellsI x).toArray] w (PrO B b (l ++ t) w) := by
 have HX := Lib.hid F.len
 have HF := Lib.hid F
 have hBw := hp.sz
 have HTb := Lib.hid hT
 have H0 := Lib.hid hp
 have HC := Lib.hid hc
 have HK6 := Lib.hid hk
 replace ht : t = [97, 108, 119, 97, 121, 115, 32, 64, 42, 32] ++ tB ++ [10] := by rw [ht]; simp [itx, ItT.text, hk, hc]
 have HT := Lib.hid ht
 have hL := hlen
 rw [ht] at hL
 simp only [List.length_append, List.length_cons, List.length_nil, BP] at hL
 have HKD := Lib.hid hk
 clear hc ht hlen hk F hT hp
 go_enter Tryd.func25, Tryd.ntmps25
 go_wp2_with (refine wpl_boxv rfl 75 (.tmp 1) rfl (some 3) rfl (cells := (cellsI x).toArray) rfl ?_)
 refine ⟨fun w1 b1 HK ho1 ha1 hb1 => ?_⟩
 have H01 := Lib.hid (H0.out.only ho1.out)
 have HKn : b1 ≠ b := H01.out.ne HK.out (by decide)
 have HO : Hid (Only (fun i => B ≤ i) w w1) := Lib.hid (ho1.out.mono (fun _ _ h => h.elim))
 clear ho1 H0
 have c0 : w1.cell? ⟨b1, 0, none⟩ = some (.int .i64 6) := cellB HK.out (by rw [← HKD.out]; exact fI_kd x HX.out)
 go_upto_region 39 with (fail)
 refine rs (S := PS B b _ w1) H01.out.here ?_
 refine qs uMp ?_
 intro W0 hW0
 refine wpl_map2 rfl rfl rfl 134 rfl rfl (bstr [97, 108, 119, 97, 121, 115, 32, 64, 99, 108, 107, 32]) (bstr [97, 108, 119, 97, 121, 115, 32, 64, 42, 32]) rfl rfl rfl rfl (fun _ => rfl) ?_
 refine ⟨fun wm1 rm1 HMm1 hom1 ham1 => ?_⟩
 have HWm1 := Lib.hid (hW0.only hom1.out)
 have hrm1 : rm1 ≠ b := HWm1.out.neM HMm1.out
 have HKm1 := Lib.hid (HWm1.out.heap HK.out (by decide) HKn)
 have HOm1 := Lib.hid (HO.out.trans HWm1.out.low)
 have H0m1 := Lib.hid (H01.out.trans HWm1.out)
 clear hW0 hom1
 refine toT (S := PS B b _ wm1) HWm1.out.here ?_
 refine qs uMm ?_
 refine qs (uF fd_Item_9) ?_
 refine qs (uC ctbool fun W hW => cellB (m := 49) (v := .bool false) (hW.heap HKm1.out (by decide) HKn) (by rw [← HC.out]; exact fI_clk x HX.out)) ?_
 simp only [setT, sC, sZ]
 refine qs (uB (z := [97, 108, 119, 97, 121, 115, 32, 64, 42, 32]) (fun W hW => hW.map HMm1.out hrm1) rfl) ?_
 refine putS [[97, 108, 119, 97, 121, 115, 32, 64, 42, 32]] (bs1 _) (by simp [BP]; omega) (fun _ => ?_)
 refine ds fun u0 hU0 => ?_
 simp only [setT, sC, sZ]
 go_upto_region 40 with (fail)
 refine rs hU0 ?_
 refine qs uMp ?_
 refine qs (uF fd_Item_10) ?_
 refine qs (uW stt_Stmt HX.out.B fun W hW => segB (hW.heap HKm1.out (by decide) HKn) (sI_B x HX.out)) ?_
 refine qs (uK (enter_p_stmt _) fun W hW => PrO.up hW (fs_all dE B b _ W _ _ (HTb.out.next (HOm1.out.trans hW.low) hBw) hW.here (PrS.only (HOm1.out.trans hW.low) (fun _ h h2 => absurd h (Nat.not_lt.2 h2)) (HF.out.b HK6.out)) (by simp [BP]; omega))) ?_
 simp only [setT, sC, sZ]
 refine ds fun u1 hU1 => ?_
 go_upto_region 41 with (fail)
 refine rs hU1 ?_
 refine qs uMp ?_
 refine putS [[10]] (bs1 _) (by simp [BP]; omega) (fun _ => ?_)
 refine ds fun u2 hU2 => ?_
 simp only [setT, sC, sZ]
 go_wp2_with fail
 go_end0
 exact ⟨rfl, by rw [HT.out]; simpa using H0m1.out.trans hU2⟩
set_option maxRecDepth 100000 in
set_option maxHeartbeats 8000000 in
theorem fi_k7a {d dE : Nat} {B b : Nat} {l : LB} {w : World} {x : ItV} {r wd : SpT} {tV tG : LB × Int} {tB : LB} {TP TQ : Nat → BiT} {TE : Nat → LB × Int} {TI TL : Nat → LB} {t : LB} (hT : Tabs B w) (hp : PS B b l w w) (F : ItF d dE w (Lo B) x r wd tV tG tB TP TQ TE TI TL) (hk : x.kd = 7) (ht : t = itx x r wd tV tG tB TP TQ TE TI TL) (hlen : l.length + t.length ≤ BP) (hn : 0 < x.np) :
  Calls Tryd.prog 25 #[.pointer (some ⟨b, 0, none⟩), .agg (cellsI x).toArray] w (PrO B b (l ++ t) w) := by
 have HX := Lib.hid F.len
 have HF := Lib.hid F
 have hBw := hp.sz
 have HTb := Lib.hid hT
 have H0 := Lib.hid hp
 obtain ⟨pP, hpP⟩ : ∃ y, y = bindsL (fun i => bindT (TP i)) x.np := ⟨_, rfl⟩
 have HPP := Lib.hid hpP
 obtain ⟨pQ, hpQ⟩ : ∃ y, y = bindsL (fun i => bindT (TQ i)) x.nq := ⟨_, rfl⟩
 have HPQ := Lib.hid hpQ
 have HN := Lib.hid hn
 replace ht : t = x.md ++ [32] ++ [35] ++ pP ++ [32] ++ x.nm ++ [32] ++ pQ ++ [59, 10] := by rw [ht]; simp [itx, ItT.text, hk, hn, hpQ, hpP]
 have HT := Lib.hid ht
 have hL := hlen
 rw [ht] at hL
 simp only [List.length_append, List.length_cons, List.length_nil, BP] at hL
 have HKD := Lib.hid hk
 clear hn hpQ hpP ht hlen hk F hT hp
 go_enter Tryd.func25, Tryd.ntmps25
 go_wp2_with (refine wpl_boxv rfl 75 (.tmp 1) rfl (some 3) rfl (cells := (cellsI x).toArray) rfl ?_)
 refine ⟨fun w1 b1 HK ho1 ha1 hb1 => ?_⟩
 have H01 := Lib.hid (H0.out.only ho1.out)
 have HKn : b1 ≠ b := H01.out.ne HK.out (by decide)
 have HO : Hid (Only (fun i => B ≤ i) w w1) := Lib.hid (ho1.out.mono (fun _ _ h => h.elim))
 clear ho1 H0
 have c0 : w1.cell? ⟨b1, 0, none⟩ = some (.int .i64 7) := cellB HK.out (by rw [← HKD.out]; exact fI_kd x HX.out)
 go_upto_region 43 with (fail)
 refine rs (S := PS B b _ w1) H01.out.here ?_
 refine qs uMp ?_
 refine qs (uF fd_Item_3) ?_
 refine qs (uC ctstring fun W hW => cellB (hW.heap HK.out (by decide) HKn) (fI_md x HX.out)) ?_
 refine putS [x.md, [32]] (bs2 _ _) (by simp [BP]; omega) (fun _ => ?_)
 simp only [setT, sC, sZ]
 refine ds fun u0 hU0 => ?_
 go_upto_region 44 with (fail)
 refine rs hU0 ?_
 refine qs (uF fd_Item_11) ?_
 refine qs (uC ctS_Bind fun W hW => cellB (hW.heap HK.out (by decide) HKn) (fI_P x HX.out)) ?_
 refine qs (uL euS_Bind) ?_
 refine qs (uQ (r := true) (hr := (decide_eq_true (by have := HN.out; omega)))) ?_
 simp only [setT, sC, sZ]
 refine ds fun u1 hU1 => ?_
 go_upto_region 45 with (fail)
 refine rs hU1 ?_
 refine qs uMp ?_
 refine putS [[35]] (bs1 _) (by simp [BP]; omega) (fun _ => ?_)
 refine ds fun u2 hU2 => ?_
 simp only [setT, sC, sZ]
 go_upto_region 46 with (fail)
 refine rs hU2 ?_
 refine qs uMp ?_
 refine qs (uF fd_Item_11) ?_
 refine qs (uC ctS_Bind fun W hW => cellB (hW.heap HK.out (by decide) HKn) (fI_P x HX.out)) ?_
 refine qs (uK (enter_p_binds _) fun W hW => PrO.upR HPP.out hW (bindsP_any (l := _) (HTb.out.next (HO.out.trans hW.low) hBw) hW.here (Rw.only HF.out.P (HO.out.trans hW.low) (fun _ h h2 => absurd h (Nat.not_lt.2 h2)) (fun _ _ h => FB.only (HO.out.trans hW.low) (fun _ h h2 => absurd h (Nat.not_lt.2 h2)) h)) (by rw [← HPP.out]; exact (by simp [BP]; omega)))) ?_
 simp only [setT, sC, sZ]
 refine ds fun u3 hU3 => ?_
 go_upto_region 47 with (fail)
 refine rs hU3 ?_
 refine qs uMp ?_
 refine putS [[32]] (bs1 _) (by simp [BP]; omega) (fun _ => ?_)
 refine ds fun u4 hU4 => ?_
 simp only [setT, sC, sZ]
 go_upto_region 48 with (fail)
 refine rs hU4 ?_
 refine qs uMp ?_
 refine qs (uF fd_Item_2) ?_
 refine qs (uC ctstring fun W hW => cellB (hW.heap HK.out (by decide) HKn) (fI_nm x HX.out)) ?_
 refine putS [x.nm, [32]] (bs2 _ _) (by simp [BP]; omega) (fun _ => ?_)
 simp only [setT, sC, sZ]
 refine ds fun u5 hU5 => ?_
 go_upto_region 49 with (fail)
 refine rs hU5 ?_
 refine qs uMp ?_
 refine qs (uF fd_Item_12) ?_
 refine qs (uC ctS_Bind fun W hW => cellB (hW.heap HK.out (by decide) HKn) (fI_Q x HX.out)) ?_
 refine qs (uK (enter_p_binds _) fun W hW => PrO.upR HPQ.out hW (bindsP_any (l := _) (HTb.out.next (HO.out.trans hW.low) hBw) hW.here (Rw.only HF.out.Q (HO.out.trans hW.low) (fun _ h h2 => absurd h (Nat.not_lt.2 h2)) (fun _ _ h => FB.only (HO.out.trans hW.low) (fun _ h h2 => absurd h (Nat.not_lt.2 h2)) h)) (by rw [← HPQ.out]; exact (by simp [BP]; omega)))) ?_
 simp only [setT, sC, sZ]
 refine ds fun u6 hU6 => ?_
 go_upto_region 50 with (fail)
 refine rs hU6 ?_
 refine qs uMp ?_
 refine putS [[59, 10]] (bs1 _) (by simp [BP]; omega) (fun _ => ?_)
 refine ds fun u7 hU7 => ?_
 simp only [setT, sC, sZ]
 go_wp2_with fail
 go_end0
 exact ⟨rfl, by rw [HT.out]; simpa using H01.out.trans hU7⟩
set_option maxRecDepth 100000 in
set_option maxHeartbeats 8000000 in
theorem fi_k7b {d dE : Nat} {B b : Nat} {l : LB} {w : World} {x : ItV} {r wd : SpT} {tV tG : LB × Int} {tB : LB} {TP TQ : Nat → BiT} {TE : Nat → LB × Int} {TI TL : Nat → LB} {t : LB} (hT : Tabs B w) (hp : PS B b l w w) (F : ItF d dE w (Lo B) x r wd tV tG tB TP TQ TE TI TL) (hk : x.kd = 7) (ht : t = itx x r wd tV tG tB TP TQ TE TI TL) (hlen : l.length + t.length ≤ BP) (hn : x.np = 0) :
  Calls Tryd.prog 25 #[.pointer (some ⟨b, 0, none⟩), .agg (cellsI x).toArray] w (PrO B b (l ++ t) w) := by
 have HX := Lib.hid F.len
 have HF := Lib.hid F
 have hBw := hp.sz
 have HTb := Lib.hid hT
 have H0 := Lib.hid hp
 obtain ⟨pQ, hpQ⟩ : ∃ y, y = bindsL (fun i => bindT (TQ i)) x.nq := ⟨_, rfl⟩
 have HPQ := Lib.hid hpQ
 have HN := Lib.hid hn
 replace ht : t = x.md ++ [32] ++ x.nm ++ [32] ++ pQ ++ [59, 10] := by rw [ht]; simp [itx, ItT.text, hk, hn, hpQ]
 have HT := Lib.hid ht
 have hL := hlen
 rw [ht] at hL
 simp only [List.length_append, List.length_cons, List.length_nil, BP] at hL
 have HKD := Lib.hid hk
 clear hn hpQ ht hlen hk F hT hp
 go_enter Tryd.func25, Tryd.ntmps25
 go_wp2_with (refine wpl_boxv rfl 75 (.tmp 1) rfl (some 3) rfl (cells := (cellsI x).toArray) rfl ?_)
 refine ⟨fun w1 b1 HK ho1 ha1 hb1 => ?_⟩
 have H01 := Lib.hid (H0.out.only ho1.out)
 have HKn : b1 ≠ b := H01.out.ne HK.out (by decide)
 have HO : Hid (Only (fun i => B ≤ i) w w1) := Lib.hid (ho1.out.mono (fun _ _ h => h.elim))
 clear ho1 H0
 have c0 : w1.cell? ⟨b1, 0, none⟩ = some (.int .i64 7) := cellB HK.out (by rw [← HKD.out]; exact fI_kd x HX.out)
 go_upto_region 43 with (fail)
 refine rs (S := PS B b _ w1) H01.out.here ?_
 refine qs uMp ?_
 refine qs (uF fd_Item_3) ?_
 refine qs (uC ctstring fun W hW => cellB (hW.heap HK.out (by decide) HKn) (fI_md x HX.out)) ?_
 refine putS [x.md, [32]] (bs2 _ _) (by simp [BP]; omega) (fun _ => ?_)
 simp only [setT, sC, sZ]
 refine ds fun u0 hU0 => ?_
 go_upto_region 44 with (fail)
 refine rs hU0 ?_
 refine qs (uF fd_Item_11) ?_
 refine qs (uC ctS_Bind fun W hW => cellB (hW.heap HK.out (by decide) HKn) (fI_P x HX.out)) ?_
 refine qs (uL euS_Bind) ?_
 refine qs (uQ (r := false) (hr := (decide_eq_false (by have := HN.out; omega)))) ?_
 simp only [setT, sC, sZ]
 refine ds fun u1 hU1 => ?_
 go_upto_region 48 with (fail)
 refine rs hU1 ?_
 refine qs uMp ?_
 refine qs (uF fd_Item_2) ?_
 refine qs (uC ctstring fun W hW => cellB (hW.heap HK.out (by decide) HKn) (fI_nm x HX.out)) ?_
 refine putS [x.nm, [32]] (bs2 _ _) (by simp [BP]; omega) (fun _ => ?_)
 simp only [setT, sC, sZ]
 refine ds fun u2 hU2 => ?_
 go_upto_region 49 with (fail)
 refine rs hU2 ?_
 refine qs uMp ?_
 refine qs (uF fd_Item_12) ?_
 refine qs (uC ctS_Bind fun W hW => cellB (hW.heap HK.out (by decide) HKn) (fI_Q x HX.out)) ?_
 refine qs (uK (enter_p_binds _) fun W hW => PrO.upR HPQ.out hW (bindsP_any (l := _) (HTb.out.next (HO.out.trans hW.low) hBw) hW.here (Rw.only HF.out.Q (HO.out.trans hW.low) (fun _ h h2 => absurd h (Nat.not_lt.2 h2)) (fun _ _ h => FB.only (HO.out.trans hW.low) (fun _ h h2 => absurd h (Nat.not_lt.2 h2)) h)) (by rw [← HPQ.out]; exact (by simp [BP]; omega)))) ?_
 simp only [setT, sC, sZ]
 refine ds fun u3 hU3 => ?_
 go_upto_region 50 with (fail)
 refine rs hU3 ?_
 refine qs uMp ?_
 refine putS [[59, 10]] (bs1 _) (by simp [BP]; omega) (fun _ => ?_)
 refine ds fun u4 hU4 => ?_
 simp only [setT, sC, sZ]
 go_wp2_with fail
 go_end0
 exact ⟨rfl, by rw [HT.out]; simpa using H01.out.trans hU4⟩
set_option maxRecDepth 100000 in
set_option maxHeartbeats 8000000 in
theorem fi_k8 {d dE : Nat} (IPa : PaP d) {B b : Nat} {l : LB} {w : World} {x : ItV} {r wd : SpT} {tV tG : LB × Int} {tB : LB} {TP TQ : Nat → BiT} {TE : Nat → LB × Int} {TI TL : Nat → LB} {t : LB} (hT : Tabs B w) (hp : PS B b l w w) (F : ItF d dE w (Lo B) x r wd tV tG tB TP TQ TE TI TL) (hk : x.kd = 8) (ht : t = itx x r wd tV tG tB TP TQ TE TI TL) (hlen : l.length + t.length ≤ BP) :
  Calls Tryd.prog 25 #[.pointer (some ⟨b, 0, none⟩), .agg (cellsI x).toArray] w (PrO B b (l ++ t) w) := by
 have HX := Lib.hid F.len
 have HF := Lib.hid F
 have hBw := hp.sz
 have HTb := Lib.hid hT
 have H0 := Lib.hid hp
 have HE8 := Lib.hid (F.ok.e8 hk)
 obtain ⟨lt, hlt⟩ : ∃ y, y = loopL x.nm (fun i => (TE i).1) := ⟨_, rfl⟩
 have HLt := Lib.hid hlt
 obtain ⟨bI, hbI⟩ : ∃ y, y = beginL x.lab (catL TI x.ni) := ⟨_, rfl⟩
 have HBI := Lib.hid hbI
 replace ht : t = lt ++ bI ++ [101, 110, 100, 10] := by rw [ht]; simp [itx, ItT.text, hk, hbI, hlt]
 have HT := Lib.hid ht
 have hL := hlen
 rw [ht] at hL
 simp only [List.length_append, List.length_cons, List.length_nil, BP] at hL
 have HKD := Lib.hid hk
 clear hlt hbI ht hlen hk F hT hp
 go_enter Tryd.func25, Tryd.ntmps25
 go_wp2_with (refine wpl_boxv rfl 75 (.tmp 1) rfl (some 3) rfl (cells := (cellsI x).toArray) rfl ?_)
 refine ⟨fun w1 b1 HK ho1 ha1 hb1 => ?_⟩
 have H01 := Lib.hid (H0.out.only ho1.out)
 have HKn : b1 ≠ b := H01.out.ne HK.out (by decide)
 have HO : Hid (Only (fun i => B ≤ i) w w1) := Lib.hid (ho1.out.mono (fun _ _ h => h.elim))
 clear ho1 H0
 have c0 : w1.cell? ⟨b1, 0, none⟩ = some (.int .i64 8) := cellB HK.out (by rw [← HKD.out]; exact fI_kd x HX.out)
 go_upto_region 52 with (fail)
 refine rs (S := PS B b _ w1) H01.out.here ?_
 refine qs uMp ?_
 refine qs (uF fd_Item_2) ?_
 refine qs (uC ctstring fun W hW => cellB (hW.heap HK.out (by decide) HKn) (fI_nm x HX.out)) ?_
 refine qs (uF fd_Item_13) ?_
 simp only [setT, sC, sZ]
 refine qs (uC ctS_Expr fun W hW => cellB (hW.heap HK.out (by decide) HKn) (fI_E x HX.out)) ?_
 refine qs (uK (enter_p_loop _) fun W hW => PrO.upR HLt.out hW (loopP_any (l := _) (HTb.out.next (HO.out.trans hW.low) hBw) hW.here (ExL.only HF.out.E (HO.out.trans hW.low) (fun _ h h2 => absurd h (Nat.not_lt.2 h2))) HE8.out (by rw [← HLt.out]; exact (by simp [BP]; omega)))) ?_
 refine ds fun u0 hU0 => ?_
 simp only [setT, sC, sZ]
 go_upto_region 53 with (fail)
 refine rs hU0 ?_
 refine qs uMp ?_
 refine qs (uF fd_Item_14) ?_
 refine qs (uC ctstring fun W hW => cellB (hW.heap HK.out (by decide) HKn) (fI_lab x HX.out)) ?_
 refine qs (uF fd_Item_15) ?_
 simp only [setT, sC, sZ]
 refine qs (uC ctS_Item fun W hW => cellB (hW.heap HK.out (by decide) HKn) (fI_I x HX.out)) ?_
 refine qs (uK (enter_p_part _) fun W hW => PrO.upR HBI.out hW (IPa B b _ W _ _ _ _ _ (HTb.out.next (HO.out.trans hW.low) hBw) hW.here (Rw.only HF.out.I (HO.out.trans hW.low) (fun _ h h2 => absurd h (Nat.not_lt.2 h2)) (fun _ _ h => PrI.only (HO.out.trans hW.low) (fun _ h h2 => absurd h (Nat.not_lt.2 h2)) h)) (by rw [← HBI.out]; exact (by simp [BP]; omega)))) ?_
 refine ds fun u1 hU1 => ?_
 simp only [setT, sC, sZ]
 go_upto_region 54 with (fail)
 refine rs hU1 ?_
 refine qs uMp ?_
 refine putS [[101, 110, 100, 10]] (bs1 _) (by simp [BP]; omega) (fun _ => ?_)
 refine ds fun u2 hU2 => ?_
 simp only [setT, sC, sZ]
 go_wp2_with fail
 go_end0
 exact ⟨rfl, by rw [HT.out]; simpa using H01.out.trans hU2⟩
set_option maxRecDepth 100000 in
set_option maxHeartbeats 8000000 in
theorem fi_k9t {d dE : Nat} (IPa : PaP d) {B b : Nat} {l : LB} {w : World} {x : ItV} {r wd : SpT} {tV tG : LB × Int} {tB : LB} {TP TQ : Nat → BiT} {TE : Nat → LB × Int} {TI TL : Nat → LB} {t : LB} (hT : Tabs B w) (hp : PS B b l w w) (F : ItF d dE w (Lo B) x r wd tV tG tB TP TQ TE TI TL) (hk : x.kd = 9) (ht : t = itx x r wd tV tG tB TP TQ TE TI TL) (hlen : l.length + t.length ≤ BP) (hh : x.he = true) :
  Calls Tryd.prog 25 #[.pointer (some ⟨b, 0, none⟩), .agg (cellsI x).toArray] w (PrO B b (l ++ t) w) := by
 have HX := Lib.hid F.len
 have HF := Lib.hid F
 have hBw := hp.sz
 have HTb := Lib.hid hT
 have H0 := Lib.hid hp
 obtain ⟨bI, hbI⟩ : ∃ y, y = beginL x.lab (catL TI x.ni) := ⟨_, rfl⟩
 have HBI := Lib.hid hbI
 obtain ⟨bL, hbL⟩ : ∃ y, y = beginL x.elab_ (catL TL x.nl) := ⟨_, rfl⟩
 have HBL := Lib.hid hbL
 have HH := Lib.hid hh
 replace ht : t = [105, 102, 32, 40] ++ tV.1 ++ [41, 32] ++ bI ++ [101, 110, 100] ++ [32, 101, 108, 115, 101, 32] ++ bL ++ [101, 110, 100] ++ [10] := by rw [ht]; simp [itx, ItT.text, hk, hbI, hh, hbL]
 have HT := Lib.hid ht
 have hL := hlen
 rw [ht] at hL
 simp only [List.length_append, List.length_cons, List.length_nil, BP] at hL
 have HKD := Lib.hid hk
 clear hh hbI hbL ht hlen hk F hT hp
 go_enter Tryd.func25, Tryd.ntmps25
 go_wp2_with (refine wpl_boxv rfl 75 (.tmp 1) rfl (some 3) rfl (cells := (cellsI x).toArray) rfl ?_)
 refine ⟨fun w1 b1 HK ho1 ha1 hb1 => ?_⟩
 have H01 := Lib.hid (H0.out.only ho1.out)
 have HKn : b1 ≠ b := H01.out.ne HK.out (by decide)
 have HO : Hid (Only (fun i => B ≤ i) w w1) := Lib.hid (ho1.out.mono (fun _ _ h => h.elim))
 clear ho1 H0
 have c0 : w1.cell? ⟨b1, 0, none⟩ = some (.int .i64 9) := cellB HK.out (by rw [← HKD.out]; exact fI_kd x HX.out)
 go_upto_region 2 with (fail)
 refine rs (S := PS B b _ w1) H01.out.here ?_
 refine qs uMp ?_
 refine putS [[105, 102, 32, 40]] (bs1 _) (by simp [BP]; omega) (fun _ => ?_)
 refine ds fun u0 hU0 => ?_
 simp only [setT, sC, sZ]
 go_upto_region 3 with (fail)
 refine rs hU0 ?_
 refine qs uMp ?_
 refine qs (uF fd_Item_7) ?_
 refine qs (uW stt_Expr HX.out.V fun W hW => segB (hW.heap HK.out (by decide) HKn) (sI_V x HX.out)) ?_
 refine qs (uK (enter_p_expr _) fun W hW => PrO.up hW (fe_all dE B b _ W _ _ _ (HTb.out.next (HO.out.trans hW.low) hBw) hW.here (HF.out.v.only (HO.out.trans hW.low) (fun _ h h2 => absurd h (Nat.not_lt.2 h2))) (by simp [BP]; omega))) ?_
 simp only [setT, sC, sZ]
 refine ds fun u1 hU1 => ?_
 go_upto_region 4 with (fail)
 refine rs hU1 ?_
 refine qs uMp ?_
 refine putS [[41, 32]] (bs1 _) (by simp [BP]; omega) (fun _ => ?_)
 refine ds fun u2 hU2 => ?_
 simp only [setT, sC, sZ]
 go_upto_region 5 with (fail)
 refine rs hU2 ?_
 refine qs uMp ?_
 refine qs (uF fd_Item_14) ?_
 refine qs (uC ctstring fun W hW => cellB (hW.heap HK.out (by decide) HKn) (fI_lab x HX.out)) ?_
 refine qs (uF fd_Item_15) ?_
 simp only [setT, sC, sZ]
 refine qs (uC ctS_Item fun W hW => cellB (hW.heap HK.out (by decide) HKn) (fI_I x HX.out)) ?_
 refine qs (uK (enter_p_part _) fun W hW => PrO.upR HBI.out hW (IPa B b _ W _ _ _ _ _ (HTb.out.next (HO.out.trans hW.low) hBw) hW.here (Rw.only HF.out.I (HO.out.trans hW.low) (fun _ h h2 => absurd h (Nat.not_lt.2 h2)) (fun _ _ h => PrI.only (HO.out.trans hW.low) (fun _ h h2 => absurd h (Nat.not_lt.2 h2)) h)) (by rw [← HBI.out]; exact (by simp [BP]; omega)))) ?_
 refine ds fun u3 hU3 => ?_
 simp only [setT, sC, sZ]
 go_upto_region 6 with (fail)
 refine rs hU3 ?_
 refine qs uMp ?_
 refine putS [[101, 110, 100]] (bs1 _) (by simp [BP]; omega) (fun _ => ?_)
 refine ds fun u4 hU4 => ?_
 simp only [setT, sC, sZ]
 go_upto_region 7 with (fail)
 refine rs hU4 ?_
 refine qs (uF fd_Item_16) ?_
 refine qs (uC ctbool fun W hW => cellB (m := 62) (v := .bool true) (hW.heap HK.out (by decide) HKn) (by rw [← HH.out]; exact fI_he x HX.out)) ?_
 refine ds fun u5 hU5 => ?_
 simp only [setT, sC, sZ]
 go_upto_region 8 with (fail)
 refine rs hU5 ?_
 refine qs uMp ?_
 refine putS [[32, 101, 108, 115, 101, 32]] (bs1 _) (by simp [BP]; omega) (fun _ => ?_)
 refine ds fun u6 hU6 => ?_
 simp only [setT, sC, sZ]
 go_upto_region 9 with (fail)
 refine rs hU6 ?_
 refine qs uMp ?_
 refine qs (uF fd_Item_17) ?_
 refine qs (uC ctstring fun W hW => cellB (hW.heap HK.out (by decide) HKn) (fI_elab x HX.out)) ?_
 refine qs (uF fd_Item_18) ?_
 simp only [setT, sC, sZ]
 refine qs (uC ctS_Item fun W hW => cellB (hW.heap HK.out (by decide) HKn) (fI_L x HX.out)) ?_
 refine qs (uK (enter_p_part _) fun W hW => PrO.upR HBL.out hW (IPa B b _ W _ _ _ _ _ (HTb.out.next (HO.out.trans hW.low) hBw) hW.here (Rw.only HF.out.L (HO.out.trans hW.low) (fun _ h h2 => absurd h (Nat.not_lt.2 h2)) (fun _ _ h => PrI.only (HO.out.trans hW.low) (fun _ h h2 => absurd h (Nat.not_lt.2 h2)) h)) (by rw [← HBL.out]; exact (by simp [BP]; omega)))) ?_
 refine ds fun u7 hU7 => ?_
 simp only [setT, sC, sZ]
 go_upto_region 10 with (fail)
 refine rs hU7 ?_
 refine qs uMp ?_
 refine putS [[101, 110, 100]] (bs1 _) (by simp [BP]; omega) (fun _ => ?_)
 refine ds fun u8 hU8 => ?_
 simp only [setT, sC, sZ]
 go_upto_region 11 with (fail)
 refine rs hU8 ?_
 refine qs uMp ?_
 refine putS [[10]] (bs1 _) (by simp [BP]; omega) (fun _ => ?_)
 refine ds fun u9 hU9 => ?_
 simp only [setT, sC, sZ]
 go_wp2_with fail
 go_end0
 exact ⟨rfl, by rw [HT.out]; simpa using H01.out.trans hU9⟩
set_option maxRecDepth 100000 in
set_option maxHeartbeats 8000000 in
theorem fi_k9f {d dE : Nat} (IPa : PaP d) {B b : Nat} {l : LB} {w : World} {x : ItV} {r wd : SpT} {tV tG : LB × Int} {tB : LB} {TP TQ : Nat → BiT} {TE : Nat → LB × Int} {TI TL : Nat → LB} {t : LB} (hT : Tabs B w) (hp : PS B b l w w) (F : ItF d dE w (Lo B) x r wd tV tG tB TP TQ TE TI TL) (hk : x.kd = 9) (ht : t = itx x r wd tV tG tB TP TQ TE TI TL) (hlen : l.length + t.length ≤ BP) (hh : x.he = false) :
  Calls Tryd.prog 25 #[.pointer (some ⟨b, 0, none⟩), .agg (cellsI x).toArray] w (PrO B b (l ++ t) w) := by
 have HX := Lib.hid F.len
 have HF := Lib.hid F
 have hBw := hp.sz
 have HTb := Lib.hid hT
 have H0 := Lib.hid hp
 obtain ⟨bI, hbI⟩ : ∃ y, y = beginL x.lab (catL TI x.ni) := ⟨_, rfl⟩
 have HBI := Lib.hid hbI
 have HH := Lib.hid hh
 replace ht : t = [105, 102, 32, 40] ++ tV.1 ++ [41, 32] ++ bI ++ [101, 110, 100] ++ [10] := by rw [ht]; simp [itx, ItT.text, hk, hbI, hh]
 have HT := Lib.hid ht
 have hL := hlen
 rw [ht] at hL
 simp only [List.length_append, List.length_cons, List.length_nil, BP] at hL
 have HKD := Lib.hid hk
 clear hh hbI ht hlen hk F hT hp
 go_enter Tryd.func25, Tryd.ntmps25
 go_wp2_with (refine wpl_boxv rfl 75 (.tmp 1) rfl (some 3) rfl (cells := (cellsI x).toArray) rfl ?_)
 refine ⟨fun w1 b1 HK ho1 ha1 hb1 => ?_⟩
 have H01 := Lib.hid (H0.out.only ho1.out)
 have HKn : b1 ≠ b := H01.out.ne HK.out (by decide)
 have HO : Hid (Only (fun i => B ≤ i) w w1) := Lib.hid (ho1.out.mono (fun _ _ h => h.elim))
 clear ho1 H0
 have c0 : w1.cell? ⟨b1, 0, none⟩ = some (.int .i64 9) := cellB HK.out (by rw [← HKD.out]; exact fI_kd x HX.out)
 go_upto_region 2 with (fail)
 refine rs (S := PS B b _ w1) H01.out.here ?_
 refine qs uMp ?_
 refine putS [[105, 102, 32, 40]] (bs1 _) (by simp [BP]; omega) (fun _ => ?_)
 refine ds fun u0 hU0 => ?_
 simp only [setT, sC, sZ]
 go_upto_region 3 with (fail)
 refine rs hU0 ?_
 refine qs uMp ?_
 refine qs (uF fd_Item_7) ?_
 refine qs (uW stt_Expr HX.out.V fun W hW => segB (hW.heap HK.out (by decide) HKn) (sI_V x HX.out)) ?_
 refine qs (uK (enter_p_expr _) fun W hW => PrO.up hW (fe_all dE B b _ W _ _ _ (HTb.out.next (HO.out.trans hW.low) hBw) hW.here (HF.out.v.only (HO.out.trans hW.low) (fun _ h h2 => absurd h (Nat.not_lt.2 h2))) (by simp [BP]; omega))) ?_
 simp only [setT, sC, sZ]
 refine ds fun u1 hU1 => ?_
 go_upto_region 4 with (fail)
 refine rs hU1 ?_
 refine qs uMp ?_
 refine putS [[41, 32]] (bs1 _) (by simp [BP]; omega) (fun _ => ?_)
 refine ds fun u2 hU2 => ?_
 simp only [setT, sC, sZ]
 go_upto_region 5 with (fail)
 refine rs hU2 ?_
 refine qs uMp ?_
 refine qs (uF fd_Item_14) ?_
 refine qs (uC ctstring fun W hW => cellB (hW.heap HK.out (by decide) HKn) (fI_lab x HX.out)) ?_
 refine qs (uF fd_Item_15) ?_
 simp only [setT, sC, sZ]
 refine qs (uC ctS_Item fun W hW => cellB (hW.heap HK.out (by decide) HKn) (fI_I x HX.out)) ?_
 refine qs (uK (enter_p_part _) fun W hW => PrO.upR HBI.out hW (IPa B b _ W _ _ _ _ _ (HTb.out.next (HO.out.trans hW.low) hBw) hW.here (Rw.only HF.out.I (HO.out.trans hW.low) (fun _ h h2 => absurd h (Nat.not_lt.2 h2)) (fun _ _ h => PrI.only (HO.out.trans hW.low) (fun _ h h2 => absurd h (Nat.not_lt.2 h2)) h)) (by rw [← HBI.out]; exact (by simp [BP]; omega)))) ?_
 refine ds fun u3 hU3 => ?_
 simp only [setT, sC, sZ]
 go_upto_region 6 with (fail)
 refine rs hU3 ?_
 refine qs uMp ?_
 refine putS [[101, 110, 100]] (bs1 _) (by simp [BP]; omega) (fun _ => ?_)
 refine ds fun u4 hU4 => ?_
 simp only [setT, sC, sZ]
 go_upto_region 7 with (fail)
 refine rs hU4 ?_
 refine qs (uF fd_Item_16) ?_
 refine qs (uC ctbool fun W hW => cellB (m := 62) (v := .bool false) (hW.heap HK.out (by decide) HKn) (by rw [← HH.out]; exact fI_he x HX.out)) ?_
 refine ds fun u5 hU5 => ?_
 simp only [setT, sC, sZ]
 go_upto_region 11 with (fail)
 refine rs hU5 ?_
 refine qs uMp ?_
 refine putS [[10]] (bs1 _) (by simp [BP]; omega) (fun _ => ?_)
 refine ds fun u6 hU6 => ?_
 simp only [setT, sC, sZ]
 go_wp2_with fail
 go_end0
 exact ⟨rfl, by rw [HT.out]; simpa using H01.out.trans hU6⟩
theorem fi_succ {d : Nat} (IPa : PaP d) : ItP (d + 1) := by
 intro B b l w cs t hT hp ⟨x, r, wd, tV, tG, tB, TP, TQ, TE, TI, TL, dE, e, ok, h1, h2, h3, h4, h5, h6, h7, h8, h9, h10, ht⟩ hl
 subst e
 have F : ItF d dE w (Lo B) x r wd tV tG tB TP TQ TE TI TL := ⟨ok, h1, h2, h3, h4, h5, h6, h7, h8, h9, h10⟩
 have hk : x.kd = 1 ∨ x.kd = 2 ∨ x.kd = 3 ∨ x.kd = 4 ∨ x.kd = 5 ∨ x.kd = 6 ∨ x.kd = 7 ∨ x.kd = 8 ∨ x.kd = 9 := by have := ok.k; omega
 rcases hk with hk | hk | hk | hk | hk | hk | hk | hk | hk
 ·
  exact fi_k1 hT hp F hk ht hl
 ·
  cases hg : x.given with
  | true => exact fi_k2t hT hp F hk ht hl hg
  | false => exact fi_k2f hT hp F hk ht hl hg
 ·
  exact fi_k3 hT hp F hk ht hl
 ·
  exact fi_k4 hT hp F hk ht hl
 ·
  exact fi_k5 hT hp F hk ht hl
 ·
  cases hc : x.clk with
  | true => exact fi_k6t hT hp F hk ht hl hc
  | false => exact fi_k6f hT hp F hk ht hl hc
 ·
  by_cases hn : 0 < x.np
  ·
   exact fi_k7a hT hp F hk ht hl hn
  ·
   exact fi_k7b hT hp F hk ht hl (by omega)
 ·
  exact fi_k8 IPa hT hp F hk ht hl
 ·
  cases hh : x.he with
  | true => exact fi_k9t IPa hT hp F hk ht hl hh
  | false => exact fi_k9f IPa hT hp F hk ht hl hh
set_option maxRecDepth 100000 in
set_option maxHeartbeats 8000000 in
theorem fp_of {d : Nat} (IH : ItP d) : PaP d := by
 intro B b l w lab A n c T hT hp hr hlen
 have hn3 : n ≤ 3000000 := hr.1
 obtain ⟨tx, htx⟩ : ∃ x : Nat → LB, x = fun i => beginL lab (catL T i) := ⟨_, rfl⟩
 have hfin : beginL lab (catL T n) = tx n := by rw [htx]
 rw [hfin] at hlen ⊢
 have hl2 := hlen
 unfold BP at hl2
 have HTX := Lib.hid htx
 have HX0 : Hid (tx 0 = [98, 101, 103, 105, 110, 32, 58, 32] ++ lab ++ [10]) := Lib.hid (by rw [htx]; simp [beginL, catL])
 have HMON : Hid (∀ i, i ≤ n → (tx i).length ≤ (tx n).length) := Lib.hid (fun i hi => by
  have := catL_mono (T := T) (n := n) i hi
  rw [htx]; simp only [beginL, List.length_append]; omega)
 have hm0 := HMON.out 0 (Nat.zero_le _)
 rw [HX0.out] at hm0
 simp only [List.length_append, List.length_cons, List.length_nil] at hm0
 have HR := Lib.hid hr
 have hBw := hp.sz
 have HTb := Lib.hid hT
 have H0 := Lib.hid hp
 have HO : Hid (Only (fun i => B ≤ i) w w) := Lib.hid (Only.refl _ _)
 clear hr htx hfin hlen hT hp
 go_enter Tryd.func47, Tryd.ntmps47
 go_upto_region 0 with (fail)
 refine rs (S := PS B b _ w) H0.out ?_
 refine qs uMp ?_
 refine qs uMt ?_
 refine putS [[98, 101, 103, 105, 110, 32, 58, 32], lab, [10]] (bs3 _ _ _) (by simp [BP]; omega) (fun _ => ?_)
 refine ds fun w2 hW2 => ?_
 simp only [setT, sC, sZ]
 replace hW2 : PS B b (l ++ (tx 0)) w w2 := by rw [HX0.out]; simpa using hW2
 have HW2 := Lib.hid hW2
 clear hW2
 go_wp2_with fail
 go_loopw [14] (fun vi wr => ∃ (i : Nat), i ≤ n ∧ vi = .int .i64 i ∧ Hid (PS B b (l ++ tx i) w wr)) (fun vi _ => n - (intOf vi).toNat)
 case atStart => exact ⟨0, Nat.zero_le _, rfl, HW2⟩
 case round =>
  obtain ⟨i, hi, rfl, HW⟩ := hrel
  have hm := HMON.out i hi
  by_cases hlt : i < n
  ·
   have hm1 := HMON.out (i + 1) (by omega)
   have hili : (i : Int) < (n : Int) := by omega
   obtain ⟨bA, oA, C, rfl, hpA, hrng, hel⟩ := Rw.open_ HR.out (by omega)
   have HRng := Lib.hid hrng
   have HEl := Lib.hid hel
   have HST : Hid (tx (i + 1) = tx i ++ T i) := Lib.hid (by rw [HTX.out]; simp only [beginL, catL, List.append_assoc])
   have hm2 := hm1
   rw [HST.out] at hm2
   simp only [List.length_append] at hm2
   have HON := Lib.hid (oneI2 (hel i hlt).2)
   clear hrng hel
   go_upto_region 3 with (fail)
   refine rs (S := PS B b _ w) HW.out ?_
   refine qs (uI i euS_Item ezS_Item (hlt := hlt)) ?_
   simp only [setT, sC, sZ]
   refine qs (uW stt_Item (HEl.out i hlt).1 fun W hW => (HRng.out.at_ (HO.out.trans hW.low) (Nat.not_le.2 hpA) hlt)) ?_
   simp only [setT, sC, sZ]
   intro w3 hW3
   refine wpl_box rfl rfl 75 rfl 7 rfl (.tmp 17) rfl rfl Tryd.zeroValue75 (cells := (C i).toArray) (fun _ => rfl) (fun _ => rfl) stt_Item (by simp [(HEl.out i hlt).1]) rfl HON.out ?_
   refine ⟨fun w4 b7 HK7 ho4 ha7 hb7 => ?_⟩
   have HW4 := Lib.hid (hW3.only ho4.out)
   have HK7n : b7 ≠ b := HW4.out.ne HK7.out (by decide)
   have HO4 := Lib.hid HW4.out.low
   clear hW3 ho4
   go_upto_region 4 with (fail)
   refine rs (S := PS B b _ w4) HW4.out.here ?_
   refine qs uMp ?_
   refine qs (uW stt_Item (HEl.out i hlt).1 fun W hW => wholeB (hW.heap HK7.out (by decide) HK7n)) ?_
   refine qs (uK (enter_p_item _) fun W hW => PrO.up hW (IH B b _ W _ _ (HTb.out.next (HO4.out.trans hW.low) hBw) hW.here ((HEl.out i hlt).2.only (HO4.out.trans hW.low) (fun _ h h2 => absurd h (Nat.not_lt.2 h2))) (by simp [BP]; omega))) ?_
   refine ds fun u1 hU1 => ?_
   simp only [setT, sC, sZ]
   replace hU1 : PS B b (l ++ (tx (i + 1))) w4 u1 := by rw [HST.out]; simpa using hU1
   go_wp2_with fail
   go_roundw
   case rel => exact ⟨i + 1, by omega, by go_num, Lib.hid (HW4.out.trans hU1)⟩
   case measure => simp [intOf]; omega
  ·
   obtain rfl : i = n := by omega
   go_wp2_with fail
   go_end0
   exact ⟨rfl, HW.out⟩
theorem fi_all : ∀ d, ItP d
 | 0 => fun _ _ _ _ _ _ _ _ h => h.elim
 | d + 1 => fi_succ (fp_of (fi_all d))
end Go.Proofs.YtbdcpealkllfnaaDoor
