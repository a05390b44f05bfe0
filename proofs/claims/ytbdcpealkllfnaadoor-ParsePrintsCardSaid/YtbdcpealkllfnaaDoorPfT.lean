/- The printer's stmt, walked. Conditions: what is printed lies below the builder, the tables read as laid. -/
import Derived.Test.YtbdcpealkllfnaaDoorPfG
namespace Go.Proofs.YtbdcpealkllfnaaDoor
open Go.RowKit Go.Deep

def StP (d : Nat) : Prop := ∀ (B b : Nat) (l : LB) (w : World) (cs : List Value) (t : LB), Tabs B w → PS B b l w w → PrS d w (Lo B) cs t → l.length + t.length ≤ BP → Calls Tryd.prog 44 #[.pointer (some ⟨b, 0, none⟩), .agg cs.toArray] w (PrO B b (l ++ t) w)
theorem fl_all {d : Nat} {B b : Nat} {l : LB} {w : World} {A : Option Addr} {n c : Nat} {T : Nat → LB × Int} (hT : Tabs B w) (hp : PS B b l w w) (h : ExL d w (Lo B) A n T) (hl : l.length + (comL (fun i => (T i).1) n).length ≤ BP) : Calls Tryd.prog 43 #[.pointer (some ⟨b, 0, none⟩), .slice A n c] w (PrO B b (l ++ comL (fun i => (T i).1) n) w) := fl_of (fe_all d) B b l w A n c T hT hp h hl
theorem oneS2 {d : Nat} {w : World} {p : Nat → Prop} {cs : List Value} {t : LB} (h : PrS d w p cs t) : ∀ v ∈ cs.toArray.toList, v.oneCell' = true := fun v hv => oneS (p := p) (w := w) (t := t) ⟨d, h⟩ v (by simpa using hv)
set_option maxRecDepth 100000 in
set_option maxHeartbeats 8000000 in
theorem fs_k1 {d : Nat} {B b : Nat} {l : LB} {w : World} {at_ : Int} {later : Bool} {nm : LB} {AE AS AR : Option Addr} {ne cE ns cS na cR : Nat} {TE : Nat → LB × Int} {TS TR : Nat → LB} {dE : Nat} {t : LB} (hT : Tabs B w) (hp : PS B b l w w) (_ok : OkS 1 nm ne ns) (_he : ExL dE w (Lo B) AE ne TE)
  (_hs : Rw 73 7 w (Lo B) AS ns (fun cs t => PrS d w (Lo B) cs t) TS) (_hr : Rw 117 9 w (Lo B) AR na (ArmP dE (fun cs t => PrS d w (Lo B) cs t) w (Lo B)) TR) (ht : t = txS 1 later nm (fun i => (TE i).1) ns TS na TR) (hlen : l.length + t.length ≤ BP) :
  Calls Tryd.prog 44 #[.pointer (some ⟨b, 0, none⟩), .agg (cellsS 1 at_ later nm AE ne cE AS ns cS AR na cR).toArray] w (PrO B b (l ++ t) w) := by
 have hBw := hp.sz
 have HTb := Lib.hid hT
 have H0 := Lib.hid hp
 have HT : Hid (t = [59]) := Lib.hid ht
 have hL := hlen
 rw [HT.out] at hL
 simp only [List.length_cons, List.length_nil, BP] at hL
 clear _ok _he _hs _hr ht hlen hT hp
 go_enter Tryd.func44, Tryd.ntmps44
 go_wp2_with (refine wpl_boxv rfl 73 (.tmp 1) rfl (some 3) rfl (cells := (cellsS 1 at_ later nm AE ne cE AS ns cS AR na cR).toArray) rfl ?_)
 refine ⟨fun w1 b1 HK ho1 ha1 hb1 => ?_⟩
 have H01 := Lib.hid (H0.out.only ho1.out)
 have HKn : b1 ≠ b := H01.out.ne HK.out (by decide)
 have HO : Hid (Only (fun i => B ≤ i) w w1) := Lib.hid (ho1.out.mono (fun _ _ h => h.elim))
 clear ho1 H0
 have c0 : w1.cell? ⟨b1, 0, none⟩ = some (.int .i64 1) := cellB HK.out rfl
 go_upto_region 9 with (fail)
 refine rs (S := PS B b _ w1) H01.out.here ?_
 refine qs uMp ?_
 refine putS [[59]] (bs1 _) (by simp [BP]; omega) (fun _ => ?_)
 refine ds fun u0 hU0 => ?_
 simp only [setT, sC, sZ]
 go_wp2_with fail
 go_end0
 exact ⟨rfl, by rw [HT.out]; simpa using H01.out.trans hU0⟩
set_option maxRecDepth 100000 in
set_option maxHeartbeats 8000000 in
theorem fs_k5t {d : Nat} {B b : Nat} {l : LB} {w : World} {at_ : Int} {nm : LB} {AE AS AR : Option Addr} {ne cE ns cS na cR : Nat} {TE : Nat → LB × Int} {TS TR : Nat → LB} {dE : Nat} {t : LB} (hT : Tabs B w) (hp : PS B b l w w) (ok : OkS 5 nm ne ns) (he : ExL dE w (Lo B) AE ne TE)
  (_hs : Rw 73 7 w (Lo B) AS ns (fun cs t => PrS d w (Lo B) cs t) TS) (_hr : Rw 117 9 w (Lo B) AR na (ArmP dE (fun cs t => PrS d w (Lo B) cs t) w (Lo B)) TR) (ht : t = txS 5 true nm (fun i => (TE i).1) ns TS na TR) (hlen : l.length + t.length ≤ BP) :
  Calls Tryd.prog 44 #[.pointer (some ⟨b, 0, none⟩), .agg (cellsS 5 at_ true nm AE ne cE AS ns cS AR na cR).toArray] w (PrO B b (l ++ t) w) := by
 have hBw := hp.sz
 have HTb := Lib.hid hT
 have H0 := Lib.hid hp
 have hne : ne = 2 := ok.a5 rfl
 have hn1 : 2 ≤ ne := by omega
 clear hne
 replace ht : t = (TE 0).1 ++ [32, 60, 61, 32] ++ (TE 1).1 ++ [59] := ht
 obtain ⟨bE, oE, CE, rfl, hpE, hrgE, helE⟩ := Rw.open_ he (by omega)
 have HRgE := Lib.hid hrgE
 have HElE := Lib.hid helE
 clear hrgE helE
 have HT := Lib.hid ht
 have hL := hlen
 rw [ht] at hL
 simp only [List.length_append, List.length_cons, List.length_nil, BP] at hL
 clear ok he _hs _hr ht hlen hT hp
 go_enter Tryd.func44, Tryd.ntmps44
 go_wp2_with (refine wpl_boxv rfl 73 (.tmp 1) rfl (some 3) rfl (cells := (cellsS 5 at_ true nm (some ⟨bE, oE, none⟩) ne cE AS ns cS AR na cR).toArray) rfl ?_)
 refine ⟨fun w1 b1 HK ho1 ha1 hb1 => ?_⟩
 have H01 := Lib.hid (H0.out.only ho1.out)
 have HKn : b1 ≠ b := H01.out.ne HK.out (by decide)
 have HO : Hid (Only (fun i => B ≤ i) w w1) := Lib.hid (ho1.out.mono (fun _ _ h => h.elim))
 clear ho1 H0
 have c0 : w1.cell? ⟨b1, 0, none⟩ = some (.int .i64 5) := cellB HK.out rfl
 go_upto_region 2 with (fail)
 refine rs (S := PS B b _ w1) H01.out.here ?_
 refine qs uMp ?_
 refine qs (uF fd_Stmt_4) ?_
 refine qs (uC ctS_Expr fun W hW => cellB (hW.heap HK.out (by decide) HKn) rfl) ?_
 refine qs (uI 0 euS_Expr ezS_Expr) ?_
 simp only [setT, sC, sZ]
 refine qs (uW stt_Expr (HElE.out 0 (by omega)).1 fun W hW => (HRgE.out.at_ (HO.out.trans hW.low) (Nat.not_le.2 hpE) (show 0 < _ by omega))) ?_
 refine qs (uK (enter_p_expr _) fun W hW => PrO.up hW (fe_all dE B b _ W _ _ _ (HTb.out.next (HO.out.trans hW.low) hBw) hW.here ((HElE.out 0 (by omega)).2.only (HO.out.trans hW.low) (fun _ h h2 => absurd h (Nat.not_lt.2 h2))) (by simp [BP]; omega))) ?_
 refine ds fun u0 hU0 => ?_
 simp only [setT, sC, sZ]
 go_upto_region 3 with (fail)
 refine rs hU0 ?_
 refine qs (uF fd_Stmt_2) ?_
 refine qs (uC ctbool fun W hW => cellB (hW.heap HK.out (by decide) HKn) rfl) ?_
 refine ds fun u1 hU1 => ?_
 simp only [setT, sC, sZ]
 go_upto_region 4 with (fail)
 refine rs hU1 ?_
 refine qs uMp ?_
 refine putS [[32, 60, 61, 32]] (bs1 _) (by simp [BP]; omega) (fun _ => ?_)
 refine ds fun u2 hU2 => ?_
 simp only [setT, sC, sZ]
 go_upto_region 6 with (fail)
 refine rs hU2 ?_
 refine qs uMp ?_
 refine qs (uF fd_Stmt_4) ?_
 refine qs (uC ctS_Expr fun W hW => cellB (hW.heap HK.out (by decide) HKn) rfl) ?_
 refine qs (uI 1 euS_Expr ezS_Expr) ?_
 simp only [setT, sC, sZ]
 refine qs (uW stt_Expr (HElE.out 1 (by omega)).1 fun W hW => (HRgE.out.at_ (HO.out.trans hW.low) (Nat.not_le.2 hpE) (show 1 < _ by omega))) ?_
 refine qs (uK (enter_p_expr _) fun W hW => PrO.up hW (fe_all dE B b _ W _ _ _ (HTb.out.next (HO.out.trans hW.low) hBw) hW.here ((HElE.out 1 (by omega)).2.only (HO.out.trans hW.low) (fun _ h h2 => absurd h (Nat.not_lt.2 h2))) (by simp [BP]; omega))) ?_
 refine ds fun u3 hU3 => ?_
 simp only [setT, sC, sZ]
 go_upto_region 7 with (fail)
 refine rs hU3 ?_
 refine qs uMp ?_
 refine putS [[59]] (bs1 _) (by simp [BP]; omega) (fun _ => ?_)
 refine ds fun u4 hU4 => ?_
 simp only [setT, sC, sZ]
 go_wp2_with fail
 go_end0
 exact ⟨rfl, by rw [HT.out]; simpa using H01.out.trans hU4⟩
set_option maxRecDepth 100000 in
set_option maxHeartbeats 8000000 in
theorem fs_k5f {d : Nat} {B b : Nat} {l : LB} {w : World} {at_ : Int} {nm : LB} {AE AS AR : Option Addr} {ne cE ns cS na cR : Nat} {TE : Nat → LB × Int} {TS TR : Nat → LB} {dE : Nat} {t : LB} (hT : Tabs B w) (hp : PS B b l w w) (ok : OkS 5 nm ne ns) (he : ExL dE w (Lo B) AE ne TE)
  (_hs : Rw 73 7 w (Lo B) AS ns (fun cs t => PrS d w (Lo B) cs t) TS) (_hr : Rw 117 9 w (Lo B) AR na (ArmP dE (fun cs t => PrS d w (Lo B) cs t) w (Lo B)) TR) (ht : t = txS 5 false nm (fun i => (TE i).1) ns TS na TR) (hlen : l.length + t.length ≤ BP) :
  Calls Tryd.prog 44 #[.pointer (some ⟨b, 0, none⟩), .agg (cellsS 5 at_ false nm AE ne cE AS ns cS AR na cR).toArray] w (PrO B b (l ++ t) w) := by
 have hBw := hp.sz
 have HTb := Lib.hid hT
 have H0 := Lib.hid hp
 have hne : ne = 2 := ok.a5 rfl
 have hn1 : 2 ≤ ne := by omega
 clear hne
 replace ht : t = (TE 0).1 ++ [32, 61, 32] ++ (TE 1).1 ++ [59] := ht
 obtain ⟨bE, oE, CE, rfl, hpE, hrgE, helE⟩ := Rw.open_ he (by omega)
 have HRgE := Lib.hid hrgE
 have HElE := Lib.hid helE
 clear hrgE helE
 have HT := Lib.hid ht
 have hL := hlen
 rw [ht] at hL
 simp only [List.length_append, List.length_cons, List.length_nil, BP] at hL
 clear ok he _hs _hr ht hlen hT hp
 go_enter Tryd.func44, Tryd.ntmps44
 go_wp2_with (refine wpl_boxv rfl 73 (.tmp 1) rfl (some 3) rfl (cells := (cellsS 5 at_ false nm (some ⟨bE, oE, none⟩) ne cE AS ns cS AR na cR).toArray) rfl ?_)
 refine ⟨fun w1 b1 HK ho1 ha1 hb1 => ?_⟩
 have H01 := Lib.hid (H0.out.only ho1.out)
 have HKn : b1 ≠ b := H01.out.ne HK.out (by decide)
 have HO : Hid (Only (fun i => B ≤ i) w w1) := Lib.hid (ho1.out.mono (fun _ _ h => h.elim))
 clear ho1 H0
 have c0 : w1.cell? ⟨b1, 0, none⟩ = some (.int .i64 5) := cellB HK.out rfl
 go_upto_region 2 with (fail)
 refine rs (S := PS B b _ w1) H01.out.here ?_
 refine qs uMp ?_
 refine qs (uF fd_Stmt_4) ?_
 refine qs (uC ctS_Expr fun W hW => cellB (hW.heap HK.out (by decide) HKn) rfl) ?_
 refine qs (uI 0 euS_Expr ezS_Expr) ?_
 simp only [setT, sC, sZ]
 refine qs (uW stt_Expr (HElE.out 0 (by omega)).1 fun W hW => (HRgE.out.at_ (HO.out.trans hW.low) (Nat.not_le.2 hpE) (show 0 < _ by omega))) ?_
 refine qs (uK (enter_p_expr _) fun W hW => PrO.up hW (fe_all dE B b _ W _ _ _ (HTb.out.next (HO.out.trans hW.low) hBw) hW.here ((HElE.out 0 (by omega)).2.only (HO.out.trans hW.low) (fun _ h h2 => absurd h (Nat.not_lt.2 h2))) (by simp [BP]; omega))) ?_
 refine ds fun u0 hU0 => ?_
 simp only [setT, sC, sZ]
 go_upto_region 3 with (fail)
 refine rs hU0 ?_
 refine qs (uF fd_Stmt_2) ?_
 refine qs (uC ctbool fun W hW => cellB (hW.heap HK.out (by decide) HKn) rfl) ?_
 refine ds fun u1 hU1 => ?_
 simp only [setT, sC, sZ]
 go_upto_region 5 with (fail)
 refine rs hU1 ?_
 refine qs uMp ?_
 refine putS [[32, 61, 32]] (bs1 _) (by simp [BP]; omega) (fun _ => ?_)
 refine ds fun u2 hU2 => ?_
 simp only [setT, sC, sZ]
 go_upto_region 6 with (fail)
 refine rs hU2 ?_
 refine qs uMp ?_
 refine qs (uF fd_Stmt_4) ?_
 refine qs (uC ctS_Expr fun W hW => cellB (hW.heap HK.out (by decide) HKn) rfl) ?_
 refine qs (uI 1 euS_Expr ezS_Expr) ?_
 simp only [setT, sC, sZ]
 refine qs (uW stt_Expr (HElE.out 1 (by omega)).1 fun W hW => (HRgE.out.at_ (HO.out.trans hW.low) (Nat.not_le.2 hpE) (show 1 < _ by omega))) ?_
 refine qs (uK (enter_p_expr _) fun W hW => PrO.up hW (fe_all dE B b _ W _ _ _ (HTb.out.next (HO.out.trans hW.low) hBw) hW.here ((HElE.out 1 (by omega)).2.only (HO.out.trans hW.low) (fun _ h h2 => absurd h (Nat.not_lt.2 h2))) (by simp [BP]; omega))) ?_
 refine ds fun u3 hU3 => ?_
 simp only [setT, sC, sZ]
 go_upto_region 7 with (fail)
 refine rs hU3 ?_
 refine qs uMp ?_
 refine putS [[59]] (bs1 _) (by simp [BP]; omega) (fun _ => ?_)
 refine ds fun u4 hU4 => ?_
 simp only [setT, sC, sZ]
 go_wp2_with fail
 go_end0
 exact ⟨rfl, by rw [HT.out]; simpa using H01.out.trans hU4⟩
set_option maxRecDepth 100000 in
set_option maxHeartbeats 8000000 in
theorem fs_k6 {d : Nat} (IS : StP d) {B b : Nat} {l : LB} {w : World} {at_ : Int} {later : Bool} {nm : LB} {AE AS AR : Option Addr} {ne cE ns cS na cR : Nat} {TE : Nat → LB × Int} {TS TR : Nat → LB} {dE : Nat} {t : LB} (hT : Tabs B w) (hp : PS B b l w w) (ok : OkS 6 nm ne ns) (he : ExL dE w (Lo B) AE ne TE)
  (hs : Rw 73 7 w (Lo B) AS ns (fun cs t => PrS d w (Lo B) cs t) TS) (_hr : Rw 117 9 w (Lo B) AR na (ArmP dE (fun cs t => PrS d w (Lo B) cs t) w (Lo B)) TR) (ht : t = txS 6 later nm (fun i => (TE i).1) ns TS na TR) (hlen : l.length + t.length ≤ BP) :
  Calls Tryd.prog 44 #[.pointer (some ⟨b, 0, none⟩), .agg (cellsS 6 at_ later nm AE ne cE AS ns cS AR na cR).toArray] w (PrO B b (l ++ t) w) := by
 have hBw := hp.sz
 have HTb := Lib.hid hT
 have H0 := Lib.hid hp
 have hne : ne = 3 := (ok.a6 rfl).1
 have hns : ns = 1 := (ok.a6 rfl).2
 have hn1 : 1 ≤ ns := by omega
 have HNE := Lib.hid hne
 clear hns hne
 have HRE := Lib.hid he
 obtain ⟨lt, hlt⟩ : ∃ x, x = loopL nm (fun i => (TE i).1) := ⟨_, rfl⟩
 have HLt := Lib.hid hlt
 replace ht : t = lt ++ TS 0 := (by rw [ht, hlt]; rfl)
 obtain ⟨bS, oS, CS, rfl, hpS, hrgS, helS⟩ := Rw.open_ hs (by omega)
 have HRgS := Lib.hid hrgS
 have HElS := Lib.hid helS
 clear hrgS helS
 have HT := Lib.hid ht
 have hL := hlen
 rw [ht] at hL
 simp only [List.length_append, BP] at hL
 clear hlt ok he hs _hr ht hlen hT hp
 go_enter Tryd.func44, Tryd.ntmps44
 go_wp2_with (refine wpl_boxv rfl 73 (.tmp 1) rfl (some 3) rfl (cells := (cellsS 6 at_ later nm AE ne cE (some ⟨bS, oS, none⟩) ns cS AR na cR).toArray) rfl ?_)
 refine ⟨fun w1 b1 HK ho1 ha1 hb1 => ?_⟩
 have H01 := Lib.hid (H0.out.only ho1.out)
 have HKn : b1 ≠ b := H01.out.ne HK.out (by decide)
 have HO : Hid (Only (fun i => B ≤ i) w w1) := Lib.hid (ho1.out.mono (fun _ _ h => h.elim))
 clear ho1 H0
 have c0 : w1.cell? ⟨b1, 0, none⟩ = some (.int .i64 6) := cellB HK.out rfl
 go_upto_region 43 with (fail)
 refine rs (S := PS B b _ w1) H01.out.here ?_
 refine qs uMp ?_
 refine qs (uF fd_Stmt_3) ?_
 refine qs (uC ctstring fun W hW => cellB (hW.heap HK.out (by decide) HKn) rfl) ?_
 refine qs (uF fd_Stmt_4) ?_
 simp only [setT, sC, sZ]
 refine qs (uC ctS_Expr fun W hW => cellB (hW.heap HK.out (by decide) HKn) rfl) ?_
 refine qs (uK (enter_p_loop _) fun W hW => PrO.upR HLt.out hW (loopP_any (l := _) (HTb.out.next (HO.out.trans hW.low) hBw) hW.here (ExL.only HRE.out (HO.out.trans hW.low) (fun _ h h2 => absurd h (Nat.not_lt.2 h2))) HNE.out (by rw [← HLt.out]; exact (by simp [BP]; omega)))) ?_
 refine ds fun u0 hU0 => ?_
 simp only [setT, sC, sZ]
 go_upto_region 44 with (fail)
 refine rs hU0 ?_
 refine qs uMp ?_
 refine qs (uF fd_Stmt_5) ?_
 refine qs (uC ctS_Stmt fun W hW => cellB (hW.heap HK.out (by decide) HKn) rfl) ?_
 refine qs (uI 0 euS_Stmt ezS_Stmt) ?_
 simp only [setT, sC, sZ]
 refine qs (uW stt_Stmt (HElS.out 0 (by omega)).1 fun W hW => (HRgS.out.at_ (HO.out.trans hW.low) (Nat.not_le.2 hpS) (show 0 < _ by omega))) ?_
 refine qs (uK (enter_p_stmt _) fun W hW => PrO.up hW (IS B b _ W _ _ (HTb.out.next (HO.out.trans hW.low) hBw) hW.here ((HElS.out 0 (by omega)).2.only (HO.out.trans hW.low) (fun _ h h2 => absurd h (Nat.not_lt.2 h2))) (by simp [BP]; omega))) ?_
 refine ds fun u1 hU1 => ?_
 simp only [setT, sC, sZ]
 go_wp2_with fail
 go_end0
 exact ⟨rfl, by rw [HT.out]; simpa using H01.out.trans hU1⟩
set_option maxRecDepth 100000 in
set_option maxHeartbeats 8000000 in
theorem fs_k3a {d : Nat} (IS : StP d) {B b : Nat} {l : LB} {w : World} {at_ : Int} {later : Bool} {nm : LB} {AE AS AR : Option Addr} {ne cE ns cS na cR : Nat} {TE : Nat → LB × Int} {TS TR : Nat → LB} {dE : Nat} {t : LB} (hT : Tabs B w) (hp : PS B b l w w) (ok : OkS 3 nm ne ns) (he : ExL dE w (Lo B) AE ne TE)
  (hs : Rw 73 7 w (Lo B) AS ns (fun cs t => PrS d w (Lo B) cs t) TS) (_hr : Rw 117 9 w (Lo B) AR na (ArmP dE (fun cs t => PrS d w (Lo B) cs t) w (Lo B)) TR) (ht : t = txS 3 later nm (fun i => (TE i).1) ns TS na TR) (hlen : l.length + t.length ≤ BP) (h2 : ¬ 1 < ns) :
  Calls Tryd.prog 44 #[.pointer (some ⟨b, 0, none⟩), .agg (cellsS 3 at_ later nm AE ne cE AS ns cS AR na cR).toArray] w (PrO B b (l ++ t) w) := by
 have hBw := hp.sz
 have HTb := Lib.hid hT
 have H0 := Lib.hid hp
 have hn1 : 1 ≤ ne := by have := (ok.a3 rfl).1; omega
 have hn2 : 1 ≤ ns := (ok.a3 rfl).2.1
 have H2 := Lib.hid h2
 replace ht : t = [105, 102, 32, 40] ++ (TE 0).1 ++ [41, 32] ++ TS 0 := (by rw [ht]; unfold txS; rw [if_neg (by decide), if_neg (by decide), if_pos rfl, if_neg h2]; simp)
 obtain ⟨bE, oE, CE, rfl, hpE, hrgE, helE⟩ := Rw.open_ he (by omega)
 have HRgE := Lib.hid hrgE
 have HElE := Lib.hid helE
 clear hrgE helE
 obtain ⟨bS, oS, CS, rfl, hpS, hrgS, helS⟩ := Rw.open_ hs (by omega)
 have HRgS := Lib.hid hrgS
 have HElS := Lib.hid helS
 clear hrgS helS
 have HT := Lib.hid ht
 have hL := hlen
 rw [ht] at hL
 simp only [List.length_append, List.length_cons, List.length_nil, BP] at hL
 clear h2 ok he hs _hr ht hlen hT hp
 go_enter Tryd.func44, Tryd.ntmps44
 go_wp2_with (refine wpl_boxv rfl 73 (.tmp 1) rfl (some 3) rfl (cells := (cellsS 3 at_ later nm (some ⟨bE, oE, none⟩) ne cE (some ⟨bS, oS, none⟩) ns cS AR na cR).toArray) rfl ?_)
 refine ⟨fun w1 b1 HK ho1 ha1 hb1 => ?_⟩
 have H01 := Lib.hid (H0.out.only ho1.out)
 have HKn : b1 ≠ b := H01.out.ne HK.out (by decide)
 have HO : Hid (Only (fun i => B ≤ i) w w1) := Lib.hid (ho1.out.mono (fun _ _ h => h.elim))
 clear ho1 H0
 have c0 : w1.cell? ⟨b1, 0, none⟩ = some (.int .i64 3) := cellB HK.out rfl
 go_upto_region 20 with (fail)
 refine rs (S := PS B b _ w1) H01.out.here ?_
 refine qs uMp ?_
 refine putS [[105, 102, 32, 40]] (bs1 _) (by simp [BP]; omega) (fun _ => ?_)
 refine ds fun u0 hU0 => ?_
 simp only [setT, sC, sZ]
 go_upto_region 21 with (fail)
 refine rs hU0 ?_
 refine qs uMp ?_
 refine qs (uF fd_Stmt_4) ?_
 refine qs (uC ctS_Expr fun W hW => cellB (hW.heap HK.out (by decide) HKn) rfl) ?_
 refine qs (uI 0 euS_Expr ezS_Expr) ?_
 simp only [setT, sC, sZ]
 refine qs (uW stt_Expr (HElE.out 0 (by omega)).1 fun W hW => (HRgE.out.at_ (HO.out.trans hW.low) (Nat.not_le.2 hpE) (show 0 < _ by omega))) ?_
 refine qs (uK (enter_p_expr _) fun W hW => PrO.up hW (fe_all dE B b _ W _ _ _ (HTb.out.next (HO.out.trans hW.low) hBw) hW.here ((HElE.out 0 (by omega)).2.only (HO.out.trans hW.low) (fun _ h h2 => absurd h (Nat.not_lt.2 h2))) (by simp [BP]; omega))) ?_
 refine ds fun u1 hU1 => ?_
 simp only [setT, sC, sZ]
 go_upto_region 22 with (fail)
 refine rs hU1 ?_
 refine qs uMp ?_
 refine putS [[41, 32]] (bs1 _) (by simp [BP]; omega) (fun _ => ?_)
 refine ds fun u2 hU2 => ?_
 simp only [setT, sC, sZ]
 go_upto_region 23 with (fail)
 refine rs hU2 ?_
 refine qs uMp ?_
 refine qs (uF fd_Stmt_5) ?_
 refine qs (uC ctS_Stmt fun W hW => cellB (hW.heap HK.out (by decide) HKn) rfl) ?_
 refine qs (uI 0 euS_Stmt ezS_Stmt) ?_
 simp only [setT, sC, sZ]
 refine qs (uW stt_Stmt (HElS.out 0 (by omega)).1 fun W hW => (HRgS.out.at_ (HO.out.trans hW.low) (Nat.not_le.2 hpS) (show 0 < _ by omega))) ?_
 refine qs (uK (enter_p_stmt _) fun W hW => PrO.up hW (IS B b _ W _ _ (HTb.out.next (HO.out.trans hW.low) hBw) hW.here ((HElS.out 0 (by omega)).2.only (HO.out.trans hW.low) (fun _ h h2 => absurd h (Nat.not_lt.2 h2))) (by simp [BP]; omega))) ?_
 refine ds fun u3 hU3 => ?_
 simp only [setT, sC, sZ]
 go_upto_region 24 with (fail)
 refine rs hU3 ?_
 refine qs (uF fd_Stmt_5) ?_
 refine qs (uC ctS_Stmt fun W hW => cellB (hW.heap HK.out (by decide) HKn) rfl) ?_
 refine qs (uL euS_Stmt) ?_
 refine qs (uQ (r := false) (hr := (decide_eq_false (by have := H2.out; omega)))) ?_
 simp only [setT, sC, sZ]
 refine ds fun u4 hU4 => ?_
 go_wp2_with fail
 go_end0
 exact ⟨rfl, by rw [HT.out]; simpa using H01.out.trans hU4⟩
set_option maxRecDepth 100000 in
set_option maxHeartbeats 8000000 in
theorem fs_k3b {d : Nat} (IS : StP d) {B b : Nat} {l : LB} {w : World} {at_ : Int} {later : Bool} {nm : LB} {AE AS AR : Option Addr} {ne cE ns cS na cR : Nat} {TE : Nat → LB × Int} {TS TR : Nat → LB} {dE : Nat} {t : LB} (hT : Tabs B w) (hp : PS B b l w w) (ok : OkS 3 nm ne ns) (he : ExL dE w (Lo B) AE ne TE)
  (hs : Rw 73 7 w (Lo B) AS ns (fun cs t => PrS d w (Lo B) cs t) TS) (_hr : Rw 117 9 w (Lo B) AR na (ArmP dE (fun cs t => PrS d w (Lo B) cs t) w (Lo B)) TR) (ht : t = txS 3 later nm (fun i => (TE i).1) ns TS na TR) (hlen : l.length + t.length ≤ BP) (h2 : 1 < ns) :
  Calls Tryd.prog 44 #[.pointer (some ⟨b, 0, none⟩), .agg (cellsS 3 at_ later nm AE ne cE AS ns cS AR na cR).toArray] w (PrO B b (l ++ t) w) := by
 have hBw := hp.sz
 have HTb := Lib.hid hT
 have H0 := Lib.hid hp
 have hn1 : 1 ≤ ne := by have := (ok.a3 rfl).1; omega
 have hn2 : 1 ≤ ns := (ok.a3 rfl).2.1
 have H2 := Lib.hid h2
 replace ht : t = [105, 102, 32, 40] ++ (TE 0).1 ++ [41, 32] ++ TS 0 ++ [32, 101, 108, 115, 101, 32] ++ TS 1 := (by rw [ht]; unfold txS; rw [if_neg (by decide), if_neg (by decide), if_pos rfl, if_pos h2]; simp)
 obtain ⟨bE, oE, CE, rfl, hpE, hrgE, helE⟩ := Rw.open_ he (by omega)
 have HRgE := Lib.hid hrgE
 have HElE := Lib.hid helE
 clear hrgE helE
 obtain ⟨bS, oS, CS, rfl, hpS, hrgS, helS⟩ := Rw.open_ hs (by omega)
 have HRgS := Lib.hid hrgS
 have HElS := Lib.hid helS
 clear hrgS helS
 have HT := Lib.hid ht
 have hL := hlen
 rw [ht] at hL
 simp only [List.length_append, List.length_cons, List.length_nil, BP] at hL
 clear ok he hs _hr ht hlen hT hp
 go_enter Tryd.func44, Tryd.ntmps44
 go_wp2_with (refine wpl_boxv rfl 73 (.tmp 1) rfl (some 3) rfl (cells := (cellsS 3 at_ later nm (some ⟨bE, oE, none⟩) ne cE (some ⟨bS, oS, none⟩) ns cS AR na cR).toArray) rfl ?_)
 refine ⟨fun w1 b1 HK ho1 ha1 hb1 => ?_⟩
 have H01 := Lib.hid (H0.out.only ho1.out)
 have HKn : b1 ≠ b := H01.out.ne HK.out (by decide)
 have HO : Hid (Only (fun i => B ≤ i) w w1) := Lib.hid (ho1.out.mono (fun _ _ h => h.elim))
 clear ho1 H0
 have c0 : w1.cell? ⟨b1, 0, none⟩ = some (.int .i64 3) := cellB HK.out rfl
 go_upto_region 20 with (fail)
 refine rs (S := PS B b _ w1) H01.out.here ?_
 refine qs uMp ?_
 refine putS [[105, 102, 32, 40]] (bs1 _) (by simp [BP]; omega) (fun _ => ?_)
 refine ds fun u0 hU0 => ?_
 simp only [setT, sC, sZ]
 go_upto_region 21 with (fail)
 refine rs hU0 ?_
 refine qs uMp ?_
 refine qs (uF fd_Stmt_4) ?_
 refine qs (uC ctS_Expr fun W hW => cellB (hW.heap HK.out (by decide) HKn) rfl) ?_
 refine qs (uI 0 euS_Expr ezS_Expr) ?_
 simp only [setT, sC, sZ]
 refine qs (uW stt_Expr (HElE.out 0 (by omega)).1 fun W hW => (HRgE.out.at_ (HO.out.trans hW.low) (Nat.not_le.2 hpE) (show 0 < _ by omega))) ?_
 refine qs (uK (enter_p_expr _) fun W hW => PrO.up hW (fe_all dE B b _ W _ _ _ (HTb.out.next (HO.out.trans hW.low) hBw) hW.here ((HElE.out 0 (by omega)).2.only (HO.out.trans hW.low) (fun _ h h2 => absurd h (Nat.not_lt.2 h2))) (by simp [BP]; omega))) ?_
 refine ds fun u1 hU1 => ?_
 simp only [setT, sC, sZ]
 go_upto_region 22 with (fail)
 refine rs hU1 ?_
 refine qs uMp ?_
 refine putS [[41, 32]] (bs1 _) (by simp [BP]; omega) (fun _ => ?_)
 refine ds fun u2 hU2 => ?_
 simp only [setT, sC, sZ]
 go_upto_region 23 with (fail)
 refine rs hU2 ?_
 refine qs uMp ?_
 refine qs (uF fd_Stmt_5) ?_
 refine qs (uC ctS_Stmt fun W hW => cellB (hW.heap HK.out (by decide) HKn) rfl) ?_
 refine qs (uI 0 euS_Stmt ezS_Stmt) ?_
 simp only [setT, sC, sZ]
 refine qs (uW stt_Stmt (HElS.out 0 (by omega)).1 fun W hW => (HRgS.out.at_ (HO.out.trans hW.low) (Nat.not_le.2 hpS) (show 0 < _ by omega))) ?_
 refine qs (uK (enter_p_stmt _) fun W hW => PrO.up hW (IS B b _ W _ _ (HTb.out.next (HO.out.trans hW.low) hBw) hW.here ((HElS.out 0 (by omega)).2.only (HO.out.trans hW.low) (fun _ h h2 => absurd h (Nat.not_lt.2 h2))) (by simp [BP]; omega))) ?_
 refine ds fun u3 hU3 => ?_
 simp only [setT, sC, sZ]
 go_upto_region 24 with (fail)
 refine rs hU3 ?_
 refine qs (uF fd_Stmt_5) ?_
 refine qs (uC ctS_Stmt fun W hW => cellB (hW.heap HK.out (by decide) HKn) rfl) ?_
 refine qs (uL euS_Stmt) ?_
 refine qs (uQ (r := true) (hr := (decide_eq_true (by have := H2.out; omega)))) ?_
 simp only [setT, sC, sZ]
 refine ds fun u4 hU4 => ?_
 go_upto_region 25 with (fail)
 refine rs hU4 ?_
 refine qs uMp ?_
 refine putS [[32, 101, 108, 115, 101, 32]] (bs1 _) (by simp [BP]; omega) (fun _ => ?_)
 refine ds fun u5 hU5 => ?_
 simp only [setT, sC, sZ]
 go_upto_region 26 with (fail)
 refine rs hU5 ?_
 refine qs uMp ?_
 refine qs (uF fd_Stmt_5) ?_
 refine qs (uC ctS_Stmt fun W hW => cellB (hW.heap HK.out (by decide) HKn) rfl) ?_
 refine qs (uI 1 euS_Stmt ezS_Stmt) ?_
 simp only [setT, sC, sZ]
 refine qs (uW stt_Stmt (HElS.out 1 (by omega)).1 fun W hW => (HRgS.out.at_ (HO.out.trans hW.low) (Nat.not_le.2 hpS) (show 1 < _ by omega))) ?_
 refine qs (uK (enter_p_stmt _) fun W hW => PrO.up hW (IS B b _ W _ _ (HTb.out.next (HO.out.trans hW.low) hBw) hW.here ((HElS.out 1 (by omega)).2.only (HO.out.trans hW.low) (fun _ h h2 => absurd h (Nat.not_lt.2 h2))) (by simp [BP]; omega))) ?_
 refine ds fun u6 hU6 => ?_
 simp only [setT, sC, sZ]
 go_wp2_with fail
 go_end0
 exact ⟨rfl, by rw [HT.out]; simpa using H01.out.trans hU6⟩
set_option maxRecDepth 100000 in
set_option maxHeartbeats 8000000 in
theorem fs_k2 {d : Nat} (IS : StP d) {B b : Nat} {l : LB} {w : World} {at_ : Int} {later : Bool} {nm : LB} {AE AS AR : Option Addr} {ne cE ns cS na cR : Nat} {TE : Nat → LB × Int} {TS TR : Nat → LB} {dE : Nat} {t : LB} (hT : Tabs B w) (hp : PS B b l w w) (_ok : OkS 2 nm ne ns) (_he : ExL dE w (Lo B) AE ne TE)
  (hs : Rw 73 7 w (Lo B) AS ns (fun cs t => PrS d w (Lo B) cs t) TS) (_hr : Rw 117 9 w (Lo B) AR na (ArmP dE (fun cs t => PrS d w (Lo B) cs t) w (Lo B)) TR) (ht : t = txS 2 later nm (fun i => (TE i).1) ns TS na TR) (hlen : l.length + t.length ≤ BP) :
  Calls Tryd.prog 44 #[.pointer (some ⟨b, 0, none⟩), .agg (cellsS 2 at_ later nm AE ne cE AS ns cS AR na cR).toArray] w (PrO B b (l ++ t) w) := by
 have hBw := hp.sz
 have HTb := Lib.hid hT
 have H0 := Lib.hid hp
 have hn3 : ns ≤ 3000000 := hs.1
 obtain ⟨tx, htx⟩ : ∃ x : Nat → LB, x = fun i => [98, 101, 103, 105, 110, 32] ++ catL (fun i => TS i ++ [32]) i := ⟨_, rfl⟩
 replace ht : t = tx ns ++ [101, 110, 100] := by rw [ht, htx]; rfl
 have HT := Lib.hid ht
 have hL := hlen
 rw [ht] at hL
 simp only [List.length_append, List.length_cons, List.length_nil, BP] at hL
 have HTX := Lib.hid htx
 have HX0 : Hid (tx 0 = [98, 101, 103, 105, 110, 32]) := Lib.hid (by rw [htx]; rfl)
 have HMON : Hid (∀ i, i ≤ ns → (tx i).length ≤ (tx ns).length) := Lib.hid (fun i hi => by
  have := catL_mono (T := fun i => TS i ++ [32]) (n := ns) i hi
  rw [htx]; simp only [List.length_append]; omega)
 have hm0 := HMON.out 0 (Nat.zero_le _)
 rw [HX0.out] at hm0
 simp only [List.length_cons, List.length_nil] at hm0
 have HR := Lib.hid hs
 clear _ok _he hs _hr ht hlen htx hT hp
 go_enter Tryd.func44, Tryd.ntmps44
 go_wp2_with (refine wpl_boxv rfl 73 (.tmp 1) rfl (some 3) rfl (cells := (cellsS 2 at_ later nm AE ne cE AS ns cS AR na cR).toArray) rfl ?_)
 refine ⟨fun w1 b1 HK ho1 ha1 hb1 => ?_⟩
 have H01 := Lib.hid (H0.out.only ho1.out)
 have HKn : b1 ≠ b := H01.out.ne HK.out (by decide)
 have HO : Hid (Only (fun i => B ≤ i) w w1) := Lib.hid (ho1.out.mono (fun _ _ h => h.elim))
 clear ho1 H0
 have c0 : w1.cell? ⟨b1, 0, none⟩ = some (.int .i64 2) := cellB HK.out rfl
 go_upto_region 11 with (fail)
 refine rs (S := PS B b _ w1) H01.out.here ?_
 refine qs uMp ?_
 refine putS [[98, 101, 103, 105, 110, 32]] (bs1 _) (by simp [BP]; omega) (fun _ => ?_)
 refine ds fun u0 hU0 => ?_
 simp only [setT, sC, sZ]
 replace hU0 : PS B b (l ++ (tx 0)) w1 u0 := by rw [HX0.out]; simpa using hU0
 go_upto_region 12 with (fail)
 refine rs hU0 ?_
 refine qs (uF fd_Stmt_5) ?_
 refine qs (uC ctS_Stmt fun W hW => cellB (hW.heap HK.out (by decide) HKn) rfl) ?_
 refine qs (uL euS_Stmt) ?_
 refine qs uMi ?_
 simp only [setT, sC, sZ]
 refine ds fun u1 hU1 => ?_
 have HU1 := Lib.hid hU1
 clear hU1 hU0
 go_wp2_with fail
 go_loopw [46] (fun vi wr => ∃ (i : Nat), i ≤ ns ∧ vi = .int .i64 i ∧ Hid (PS B b (l ++ tx i) w1 wr)) (fun vi _ => ns - (intOf vi).toNat)
 case atStart => exact ⟨0, Nat.zero_le _, rfl, HU1⟩
 case round =>
  obtain ⟨i, hi, rfl, HW⟩ := hrel
  have hm := HMON.out i hi
  by_cases hlt : i < ns
  ·
   have hm1 := HMON.out (i + 1) (by omega)
   have hili : (i : Int) < (ns : Int) := by omega
   obtain ⟨bS, oS, CS, rfl, hpS, hrgS, helS⟩ := Rw.open_ HR.out (by omega)
   have HRgS := Lib.hid hrgS
   have HElS := Lib.hid helS
   have HST : Hid (tx (i + 1) = tx i ++ TS i ++ [32]) := Lib.hid (by rw [HTX.out]; simp only [catL, List.append_assoc])
   have hm2 := hm1
   rw [HST.out] at hm2
   simp only [List.length_append, List.length_cons, List.length_nil] at hm2
   have HON := Lib.hid (oneS2 (helS i hlt).2)
   clear hrgS helS
   go_upto_region 14 with (fail)
   refine rs (S := PS B b _ w1) HW.out ?_
   refine qs (uI i euS_Stmt ezS_Stmt) ?_
   simp only [setT, sC, sZ]
   refine qs (uW stt_Stmt (HElS.out i (by omega)).1 fun W hW => (HRgS.out.at_ (HO.out.trans hW.low) (Nat.not_le.2 hpS) (show i < _ by omega))) ?_
   simp only [setT, sC, sZ]
   intro w3 hW3
   refine wpl_box rfl rfl 73 rfl 5 rfl (.tmp 49) rfl rfl Tryd.zeroValue73 (cells := (CS i).toArray) (fun _ => rfl) (fun _ => rfl) stt_Stmt (by simp [(HElS.out i hlt).1]) rfl HON.out ?_
   refine ⟨fun w4 b5 HK5 ho4 ha5 hb5 => ?_⟩
   have HW4 := Lib.hid (hW3.only ho4.out)
   have HK5n : b5 ≠ b := HW4.out.ne HK5.out (by decide)
   have HO4 := Lib.hid (HO.out.trans HW4.out.low)
   clear hW3 ho4
   go_upto_region 15 with (fail)
   refine rs (S := PS B b _ w4) HW4.out.here ?_
   refine qs uMp ?_
   refine qs (uW stt_Stmt (HElS.out i (by omega)).1 fun W hW => wholeB (hW.heap HK5.out (by decide) HK5n)) ?_
   refine qs (uK (enter_p_stmt _) fun W hW => PrO.up hW (IS B b _ W _ _ (HTb.out.next (HO4.out.trans hW.low) hBw) hW.here ((HElS.out i (by omega)).2.only (HO4.out.trans hW.low) (fun _ h h2 => absurd h (Nat.not_lt.2 h2))) (by simp [BP]; omega))) ?_
   refine ds fun u2 hU2 => ?_
   simp only [setT, sC, sZ]
   go_upto_region 16 with (fail)
   refine rs hU2 ?_
   refine qs uMp ?_
   refine putS [[32]] (bs1 _) (by simp [BP]; omega) (fun _ => ?_)
   refine ds fun u3 hU3 => ?_
   simp only [setT, sC, sZ]
   replace hU3 : PS B b (l ++ (tx (i + 1))) w4 u3 := by rw [HST.out]; simpa using hU3
   go_wp2_with fail
   go_roundw
   case rel => exact ⟨i + 1, by omega, by go_num, Lib.hid (HW4.out.trans hU3)⟩
   case measure => simp [intOf]; omega
  ·
   obtain rfl : i = ns := by omega
   go_upto_region 18 with (fail)
   refine rs (S := PS B b _ w1) HW.out ?_
   refine qs uMp ?_
   refine putS [[101, 110, 100]] (bs1 _) (by simp [BP]; omega) (fun _ => ?_)
   refine ds fun we hWe => ?_
   simp only [setT, sC, sZ]
   go_wp2_with fail
   go_end0
   exact ⟨rfl, by rw [HT.out]; simpa using H01.out.trans hWe⟩
set_option maxRecDepth 100000 in
set_option maxHeartbeats 8000000 in
theorem fs_k4 {d : Nat} (IS : StP d) {B b : Nat} {l : LB} {w : World} {at_ : Int} {later : Bool} {nm : LB} {AE AS AR : Option Addr} {ne cE ns cS na cR : Nat} {TE : Nat → LB × Int} {TS TR : Nat → LB} {dE : Nat} {t : LB} (hT : Tabs B w) (hp : PS B b l w w) (ok : OkS 4 nm ne ns) (he : ExL dE w (Lo B) AE ne TE)
  (_hs : Rw 73 7 w (Lo B) AS ns (fun cs t => PrS d w (Lo B) cs t) TS) (hr : Rw 117 9 w (Lo B) AR na (ArmP dE (fun cs t => PrS d w (Lo B) cs t) w (Lo B)) TR) (ht : t = txS 4 later nm (fun i => (TE i).1) ns TS na TR) (hlen : l.length + t.length ≤ BP) :
  Calls Tryd.prog 44 #[.pointer (some ⟨b, 0, none⟩), .agg (cellsS 4 at_ later nm AE ne cE AS ns cS AR na cR).toArray] w (PrO B b (l ++ t) w) := by
 have hBw := hp.sz
 have HTb := Lib.hid hT
 have H0 := Lib.hid hp
 have hn1 : 1 ≤ ne := by have := ok.a4 rfl; omega
 have hn3 : na ≤ 3000000 := hr.1
 obtain ⟨tx, htx⟩ : ∃ x : Nat → LB, x = fun i => ([99, 97, 115, 101, 32, 40] ++ (TE 0).1 ++ [41, 32]) ++ catL TR i := ⟨_, rfl⟩
 replace ht : t = tx na ++ [101, 110, 100, 99, 97, 115, 101] := by rw [ht, htx]; rfl
 have HT := Lib.hid ht
 have hL := hlen
 rw [ht] at hL
 simp only [List.length_append, List.length_cons, List.length_nil, BP] at hL
 have HTX := Lib.hid htx
 have HMON : Hid (∀ i, i ≤ na → (tx i).length ≤ (tx na).length) := Lib.hid (fun i hi => by
  have := catL_mono (T := TR) (n := na) i hi
  rw [htx]; simp only [List.length_append]; omega)
 have HX0 : Hid (tx 0 = [99, 97, 115, 101, 32, 40] ++ (TE 0).1 ++ [41, 32]) := Lib.hid (by rw [htx]; simp [catL])
 have hm0 := HMON.out 0 (Nat.zero_le _)
 have hm00 := hm0
 rw [HX0.out] at hm00
 simp only [List.length_append, List.length_cons, List.length_nil] at hm00
 have HR := Lib.hid hr
 obtain ⟨bE, oE, CE, rfl, hpE, hrgE, helE⟩ := Rw.open_ he (by omega)
 have HRgE := Lib.hid hrgE
 have HElE := Lib.hid helE
 clear hrgE helE
 clear ok he _hs hr ht hlen htx hT hp
 go_enter Tryd.func44, Tryd.ntmps44
 go_wp2_with (refine wpl_boxv rfl 73 (.tmp 1) rfl (some 3) rfl (cells := (cellsS 4 at_ later nm (some ⟨bE, oE, none⟩) ne cE AS ns cS AR na cR).toArray) rfl ?_)
 refine ⟨fun w1 b1 HK ho1 ha1 hb1 => ?_⟩
 have H01 := Lib.hid (H0.out.only ho1.out)
 have HKn : b1 ≠ b := H01.out.ne HK.out (by decide)
 have HO : Hid (Only (fun i => B ≤ i) w w1) := Lib.hid (ho1.out.mono (fun _ _ h => h.elim))
 clear ho1 H0
 have c0 : w1.cell? ⟨b1, 0, none⟩ = some (.int .i64 4) := cellB HK.out rfl
 go_upto_region 28 with (fail)
 refine rs (S := PS B b _ w1) H01.out.here ?_
 refine qs uMp ?_
 refine putS [[99, 97, 115, 101, 32, 40]] (bs1 _) (by simp [BP]; omega) (fun _ => ?_)
 refine ds fun u0 hU0 => ?_
 simp only [setT, sC, sZ]
 go_upto_region 29 with (fail)
 refine rs hU0 ?_
 refine qs uMp ?_
 refine qs (uF fd_Stmt_4) ?_
 refine qs (uC ctS_Expr fun W hW => cellB (hW.heap HK.out (by decide) HKn) rfl) ?_
 refine qs (uI 0 euS_Expr ezS_Expr) ?_
 simp only [setT, sC, sZ]
 refine qs (uW stt_Expr (HElE.out 0 (by omega)).1 fun W hW => (HRgE.out.at_ (HO.out.trans hW.low) (Nat.not_le.2 hpE) (show 0 < _ by omega))) ?_
 refine qs (uK (enter_p_expr _) fun W hW => PrO.up hW (fe_all dE B b _ W _ _ _ (HTb.out.next (HO.out.trans hW.low) hBw) hW.here ((HElE.out 0 (by omega)).2.only (HO.out.trans hW.low) (fun _ h h2 => absurd h (Nat.not_lt.2 h2))) (by simp [BP]; omega))) ?_
 refine ds fun u1 hU1 => ?_
 simp only [setT, sC, sZ]
 go_upto_region 30 with (fail)
 refine rs hU1 ?_
 refine qs uMp ?_
 refine putS [[41, 32]] (bs1 _) (by simp [BP]; omega) (fun _ => ?_)
 refine ds fun u2 hU2 => ?_
 simp only [setT, sC, sZ]
 replace hU2 : PS B b (l ++ (tx 0)) w1 u2 := by rw [HX0.out]; simpa using hU2
 go_upto_region 31 with (fail)
 refine rs hU2 ?_
 refine qs (uF fd_Stmt_6) ?_
 refine qs (uC ctS_Arm fun W hW => cellB (hW.heap HK.out (by decide) HKn) rfl) ?_
 refine qs (uL euS_Arm) ?_
 refine qs uMi ?_
 simp only [setT, sC, sZ]
 refine ds fun u3 hU3 => ?_
 have HU3 := Lib.hid hU3
 clear hU0 hU1 hU2 hU3
 go_wp2_with fail
 go_loopw [110] (fun vi wr => ∃ (i : Nat), i ≤ na ∧ vi = .int .i64 i ∧ Hid (PS B b (l ++ tx i) w1 wr)) (fun vi _ => na - (intOf vi).toNat)
 case atStart => exact ⟨0, Nat.zero_le _, rfl, HU3⟩
 case round =>
  obtain ⟨i, hi, rfl, HW⟩ := hrel
  have hm := HMON.out i hi
  by_cases hlt : i < na
  ·
   have hm1 := HMON.out (i + 1) (by omega)
   have hili : (i : Int) < (na : Int) := by omega
   obtain ⟨bR, oR, CR, rfl, hpR, hrgR, helR⟩ := Rw.open_ HR.out (by omega)
   have HRgR := Lib.hid hrgR
   obtain ⟨lcr0, df, AL, nL, cL, TL, CB, TB, hCi, hCB, hdf, hAL, hB, hTR⟩ := helR i hlt
   have lcr := Lib.hid lcr0
   have HC := Lib.hid hCi
   have HAL := Lib.hid hAL
   have HBB := Lib.hid hB
   have lcb := Lib.hid hCB
   obtain ⟨lab, hlab⟩ : ∃ x, x = comL (fun i => (TL i).1) nL := ⟨_, rfl⟩
   have HLab := Lib.hid hlab
   have ones : ∀ v ∈ (CR i).toArray.toList, v.oneCell' = true := by
    rw [HC.out]
    intro v hv
    have hv' : v ∈ ([.bool df, .slice AL nL cL] ++ CB : List Value) := hv
    rcases List.mem_append.1 hv' with h | h
    ·
     rcases List.mem_cons.1 h with rfl | h
     ·
      rfl
     ·
      rcases List.mem_cons.1 h with rfl | h
      ·
       rfl
      ·
       cases h
    ·
     exact oneS (p := Lo B) (w := w) (t := TB) ⟨d, HBB.out⟩ v h
   have HON := Lib.hid ones
   have hstep : tx (i + 1) = tx i ++ ((if df = true then [100, 101, 102, 97, 117, 108, 116] else lab) ++ [58, 32] ++ TB ++ [32]) := by rw [HTX.out, hlab]; simp only [catL, hTR, armL, List.append_assoc]
   have hl0 : df = true → lab = [] := fun h => by rw [hlab, hdf h]; rfl
   clear hrgR helR lcr0 hCi hCB hAL hB hTR hlab ones hdf
   cases df with
   | true =>
    have HST : Hid (tx (i + 1) = tx i ++ [100, 101, 102, 97, 117, 108, 116] ++ lab ++ [58, 32] ++ TB ++ [32]) := Lib.hid (by rw [hstep, hl0 rfl]; simp)
    have hm2 := hm1
    rw [HST.out] at hm2
    simp only [List.length_append, List.length_cons, List.length_nil] at hm2
    clear hstep hl0
    go_upto_region 33 with (fail)
    refine rs (S := PS B b _ w1) HW.out ?_
    refine qs (uI i euS_Arm ezS_Arm (hlt := hlt)) ?_
    simp only [setT, sC, sZ]
    refine qs (uW stt_Arm lcr.out fun W hW => (HRgR.out.at_ (HO.out.trans hW.low) (Nat.not_le.2 hpR) hlt)) ?_
    simp only [setT, sC, sZ]
    intro w3 hW3
    refine wpl_box rfl rfl 117 rfl 7 rfl (.tmp 113) rfl rfl Tryd.zeroValue117 (cells := (CR i).toArray) (fun _ => rfl) (fun _ => rfl) stt_Arm (by simp [lcr.out]) rfl HON.out ?_
    refine ⟨fun w4 b7 HK7 ho4 ha7 hb7 => ?_⟩
    have HW4 := Lib.hid (hW3.only ho4.out)
    have HK7n : b7 ≠ b := HW4.out.ne HK7.out (by decide)
    have HO4 := Lib.hid (HO.out.trans HW4.out.low)
    clear hW3 ho4
    go_upto_region 34 with (fail)
    refine rs (S := PS B b _ w4) HW4.out.here ?_
    refine qs (uF fd_Arm_0) ?_
    refine qs (uC ctbool fun W hW => cellB (m := 0) (v := .bool true) (hW.heap HK7.out (by decide) HK7n) (by rw [HC.out]; rfl)) ?_
    refine ds fun u0 hU0 => ?_
    simp only [setT, sC, sZ]
    go_upto_region 35 with (fail)
    refine rs hU0 ?_
    refine qs uMp ?_
    refine putS [[100, 101, 102, 97, 117, 108, 116]] (bs1 _) (by simp [BP]; omega) (fun _ => ?_)
    refine ds fun u1 hU1 => ?_
    simp only [setT, sC, sZ]
    go_upto_region 36 with (fail)
    refine rs hU1 ?_
    refine qs uMp ?_
    refine qs (uF fd_Arm_1) ?_
    refine qs (uC ctS_Expr fun W hW => cellB (m := 1) (v := .slice AL nL cL) (hW.heap HK7.out (by decide) HK7n) (by rw [HC.out]; rfl)) ?_
    refine qs (uK (enter_p_list _) fun W hW => PrO.upR HLab.out hW (fl_all (l := _) (HTb.out.next (HO4.out.trans hW.low) hBw) hW.here (ExL.only HAL.out (HO4.out.trans hW.low) (fun _ h h2 => absurd h (Nat.not_lt.2 h2))) (by rw [← HLab.out]; exact (by simp [BP]; omega)))) ?_
    simp only [setT, sC, sZ]
    refine ds fun u2 hU2 => ?_
    go_upto_region 37 with (fail)
    refine rs hU2 ?_
    refine qs uMp ?_
    refine putS [[58, 32]] (bs1 _) (by simp [BP]; omega) (fun _ => ?_)
    refine ds fun u3 hU3 => ?_
    simp only [setT, sC, sZ]
    go_upto_region 38 with (fail)
    refine rs hU3 ?_
    refine qs uMp ?_
    refine qs (uF fd_Arm_2) ?_
    refine qs (uW stt_Stmt lcb.out fun W hW => segB (hW.heap HK7.out (by decide) HK7n) (by rw [HC.out]; exact segA)) ?_
    refine qs (uK (enter_p_stmt _) fun W hW => PrO.up hW (IS B b _ W _ _ (HTb.out.next (HO4.out.trans hW.low) hBw) hW.here (HBB.out.only (HO4.out.trans hW.low) (fun _ h h2 => absurd h (Nat.not_lt.2 h2))) (by simp [BP]; omega))) ?_
    simp only [setT, sC, sZ]
    refine ds fun u4 hU4 => ?_
    go_upto_region 39 with (fail)
    refine rs hU4 ?_
    refine qs uMp ?_
    refine putS [[32]] (bs1 _) (by simp [BP]; omega) (fun _ => ?_)
    refine ds fun u9 hU9 => ?_
    simp only [setT, sC, sZ]
    replace hU9 : PS B b (l ++ (tx (i + 1))) w4 u9 := by rw [HST.out]; simpa using hU9
    go_wp2_with fail
    go_roundw
    case rel => exact ⟨i + 1, by omega, by go_num, Lib.hid (HW4.out.trans hU9)⟩
    case measure => simp [intOf]; omega
   | false =>
    have HST : Hid (tx (i + 1) = tx i ++ lab ++ [58, 32] ++ TB ++ [32]) := Lib.hid (by rw [hstep]; simp)
    have hm2 := hm1
    rw [HST.out] at hm2
    simp only [List.length_append, List.length_cons, List.length_nil] at hm2
    clear hstep hl0
    go_upto_region 33 with (fail)
    refine rs (S := PS B b _ w1) HW.out ?_
    refine qs (uI i euS_Arm ezS_Arm (hlt := hlt)) ?_
    simp only [setT, sC, sZ]
    refine qs (uW stt_Arm lcr.out fun W hW => (HRgR.out.at_ (HO.out.trans hW.low) (Nat.not_le.2 hpR) hlt)) ?_
    simp only [setT, sC, sZ]
    intro w3 hW3
    refine wpl_box rfl rfl 117 rfl 7 rfl (.tmp 113) rfl rfl Tryd.zeroValue117 (cells := (CR i).toArray) (fun _ => rfl) (fun _ => rfl) stt_Arm (by simp [lcr.out]) rfl HON.out ?_
    refine ⟨fun w4 b7 HK7 ho4 ha7 hb7 => ?_⟩
    have HW4 := Lib.hid (hW3.only ho4.out)
    have HK7n : b7 ≠ b := HW4.out.ne HK7.out (by decide)
    have HO4 := Lib.hid (HO.out.trans HW4.out.low)
    clear hW3 ho4
    go_upto_region 34 with (fail)
    refine rs (S := PS B b _ w4) HW4.out.here ?_
    refine qs (uF fd_Arm_0) ?_
    refine qs (uC ctbool fun W hW => cellB (m := 0) (v := .bool false) (hW.heap HK7.out (by decide) HK7n) (by rw [HC.out]; rfl)) ?_
    refine ds fun u0 hU0 => ?_
    simp only [setT, sC, sZ]
    go_upto_region 36 with (fail)
    refine rs hU0 ?_
    refine qs uMp ?_
    refine qs (uF fd_Arm_1) ?_
    refine qs (uC ctS_Expr fun W hW => cellB (m := 1) (v := .slice AL nL cL) (hW.heap HK7.out (by decide) HK7n) (by rw [HC.out]; rfl)) ?_
    refine qs (uK (enter_p_list _) fun W hW => PrO.upR HLab.out hW (fl_all (l := _) (HTb.out.next (HO4.out.trans hW.low) hBw) hW.here (ExL.only HAL.out (HO4.out.trans hW.low) (fun _ h h2 => absurd h (Nat.not_lt.2 h2))) (by rw [← HLab.out]; exact (by simp [BP]; omega)))) ?_
    simp only [setT, sC, sZ]
    refine ds fun u1 hU1 => ?_
    go_upto_region 37 with (fail)
    refine rs hU1 ?_
    refine qs uMp ?_
    refine putS [[58, 32]] (bs1 _) (by simp [BP]; omega) (fun _ => ?_)
    refine ds fun u2 hU2 => ?_
    simp only [setT, sC, sZ]
    go_upto_region 38 with (fail)
    refine rs hU2 ?_
    refine qs uMp ?_
    refine qs (uF fd_Arm_2) ?_
    refine qs (uW stt_Stmt lcb.out fun W hW => segB (hW.heap HK7.out (by decide) HK7n) (by rw [HC.out]; exact segA)) ?_
    refine qs (uK (enter_p_stmt _) fun W hW => PrO.up hW (IS B b _ W _ _ (HTb.out.next (HO4.out.trans hW.low) hBw) hW.here (HBB.out.only (HO4.out.trans hW.low) (fun _ h h2 => absurd h (Nat.not_lt.2 h2))) (by simp [BP]; omega))) ?_
    simp only [setT, sC, sZ]
    refine ds fun u3 hU3 => ?_
    go_upto_region 39 with (fail)
    refine rs hU3 ?_
    refine qs uMp ?_
    refine putS [[32]] (bs1 _) (by simp [BP]; omega) (fun _ => ?_)
    refine ds fun u9 hU9 => ?_
    simp only [setT, sC, sZ]
    replace hU9 : PS B b (l ++ (tx (i + 1))) w4 u9 := by rw [HST.out]; simpa using hU9
    go_wp2_with fail
    go_roundw
    case rel => exact ⟨i + 1, by omega, by go_num, Lib.hid (HW4.out.trans hU9)⟩
    case measure => simp [intOf]; omega
  ·
   obtain rfl : i = na := by omega
   go_upto_region 41 with (fail)
   refine rs (S := PS B b _ w1) HW.out ?_
   refine qs uMp ?_
   refine putS [[101, 110, 100, 99, 97, 115, 101]] (bs1 _) (by simp [BP]; omega) (fun _ => ?_)
   refine ds fun we hWe => ?_
   simp only [setT, sC, sZ]
   go_wp2_with fail
   go_end0
   exact ⟨rfl, by rw [HT.out]; simpa using H01.out.trans hWe⟩
theorem fs_succ {d : Nat} (IS : StP d) : StP (d + 1) := by
 intro B b l w cs t hT hp ⟨kd, at_, later, nm, AE, AS, AR, ne, cE, ns, cS, na, cR, TE, TS, TR, dE, e, ok, he, hs, hr, ht⟩ hl
 subst e
 have hk : kd = 1 ∨ kd = 2 ∨ kd = 3 ∨ kd = 4 ∨ kd = 5 ∨ kd = 6 := by have := ok.k; omega
 rcases hk with rfl | rfl | rfl | rfl | rfl | rfl
 ·
  exact fs_k1 hT hp ok he hs hr ht hl
 ·
  exact fs_k2 IS hT hp ok he hs hr ht hl
 ·
  by_cases h2 : 1 < ns
  ·
   exact fs_k3b IS hT hp ok he hs hr ht hl h2
  ·
   exact fs_k3a IS hT hp ok he hs hr ht hl h2
 ·
  exact fs_k4 IS hT hp ok he hs hr ht hl
 ·
  cases later with
  | true => exact fs_k5t hT hp ok he hs hr ht hl
  | false => exact fs_k5f hT hp ok he hs hr ht hl
 ·
  exact fs_k6 IS hT hp ok he hs hr ht hl
theorem fs_all : ∀ d, StP d
 | 0 => fun _ _ _ _ _ _ _ _ h => h.elim
 | d + 1 => fs_succ (fs_all d)
end Go.Proofs.YtbdcpealkllfnaaDoor
