/- The reference's PrintStmt, walked: the text of a statement in memory. No condition. -/
import Derived.Test.YtbdcpealkllfnaaDoorPtG
import Derived.Test.YtbdcpealkllfnaaDoorItT
namespace Go.Proofs.YtbdcpealkllfnaaDoor
open Go.RowKit Go.Deep

def StR (d : Nat) : Prop := ∀ (w : World) (p : Nat → Prop) (cs : List Value) (t : LB), PrS d w p cs t → t.length ≤ BT → Calls Tryd.prog 65 #[.agg cs.toArray] w (StrO t w)
theorem pcm_any {d : Nat} {w : World} {p : Nat → Prop} {A : Option Addr} {n c : Nat} {T : Nat → LB × Int} (h : ExL d w p A n T) (hl : (comL (fun i => (T i).1) n).length ≤ BT) : Calls Tryd.prog 51 #[.slice A n c] w (StrO (comL (fun i => (T i).1) n) w) := pcm_of (pe_all d) w p A n c T h hl
theorem segA {a b : Value} {V : List Value} : Seg ([a, b] ++ V) 2 V := ⟨[a, b], [], by simp, rfl⟩
set_option maxRecDepth 100000 in
set_option maxHeartbeats 8000000 in
theorem ps_k1 {d : Nat} {w : World} {p : Nat → Prop} {at_ : Int} {later : Bool} {nm : LB} {AE AS AR : Option Addr} {ne cE ns cS na cR : Nat} {TE : Nat → LB × Int} {TS TR : Nat → LB} {dE : Nat} {t : LB} (_ok : OkS 1 nm ne ns) (_he : ExL dE w p AE ne TE)
  (_hs : Rw 73 7 w p AS ns (fun cs t => PrS d w p cs t) TS) (_hr : Rw 117 9 w p AR na (ArmP dE (fun cs t => PrS d w p cs t) w p) TR) (ht : t = txS 1 later nm (fun i => (TE i).1) ns TS na TR) (_hlen : t.length ≤ BT) :
  Calls Tryd.prog 65 #[.agg (cellsS 1 at_ later nm AE ne cE AS ns cS AR na cR).toArray] w (StrO t w) := by
 have HT : Hid (t = [59]) := Lib.hid ht
 clear _ok _he _hs _hr ht _hlen
 go_enter Tryd.func65, Tryd.ntmps65
 go_wp2_with (refine wpl_boxv rfl 73 (.tmp 0) rfl (some 1) rfl (cells := (cellsS 1 at_ later nm AE ne cE AS ns cS AR na cR).toArray) rfl ?_)
 refine ⟨fun w1 b1 HK HO ha1 hb1 => ?_⟩
 have c0 : w1.cell? ⟨b1, 0, none⟩ = some (.int .i64 1) := cellB HK.out rfl
 go_wp2
 go_ret
 exact StrO.mk HT.out.symm HO.out
set_option maxRecDepth 100000 in
set_option maxHeartbeats 8000000 in
theorem ps_k5t {d : Nat} {w : World} {p : Nat → Prop} {at_ : Int} {nm : LB} {AE AS AR : Option Addr} {ne cE ns cS na cR : Nat} {TE : Nat → LB × Int} {TS TR : Nat → LB} {dE : Nat} {t : LB} (ok : OkS 5 nm ne ns) (he : ExL dE w p AE ne TE)
  (_hs : Rw 73 7 w p AS ns (fun cs t => PrS d w p cs t) TS) (_hr : Rw 117 9 w p AR na (ArmP dE (fun cs t => PrS d w p cs t) w p) TR) (ht : t = txS 5 true nm (fun i => (TE i).1) ns TS na TR) (hlen : t.length ≤ BT) :
  Calls Tryd.prog 65 #[.agg (cellsS 5 at_ true nm AE ne cE AS ns cS AR na cR).toArray] w (StrO t w) := by
 have hne : ne = 2 := ok.a5 rfl
 have hn1 : 2 ≤ ne := by omega
 clear hne
 replace ht : t = (TE 0).1 ++ [32, 60, 61, 32] ++ (TE 1).1 ++ [59] := ht
 obtain ⟨bE, oE, CE, rfl, hpE, hrgE, helE⟩ := Rw.open_ he (by omega)
 have HRgE := Lib.hid hrgE
 have HElE := Lib.hid helE
 clear hrgE helE hpE
 have HT := Lib.hid ht
 have hL := hlen
 have hL2 := hlen
 unfold BT at hL2
 rw [ht] at hL
 simp only [List.length_append, List.length_cons, List.length_nil, BT] at hL
 clear ok he _hs _hr ht hlen
 go_enter Tryd.func65, Tryd.ntmps65
 go_wp2_with (refine wpl_boxv rfl 73 (.tmp 0) rfl (some 1) rfl (cells := (cellsS 5 at_ true nm (some ⟨bE, oE, none⟩) ne cE AS ns cS AR na cR).toArray) rfl ?_)
 refine ⟨fun w1 b1 HK HO ha1 hb1 => ?_⟩
 have c0 : w1.cell? ⟨b1, 0, none⟩ = some (.int .i64 5) := cellB HK.out rfl
 have c2 : w1.cell? ⟨b1, 2, none⟩ = some (.bool true) := cellB HK.out rfl
 go_upto_region 30 with (fail)
 refine ro (S := Only (fun _ => False) w1) (Only.refl _ _).drew (by kernel_rfl) (by kernel_rfl) (by kernel_rfl) ?_
 refine qo (uF fd_Stmt_4) ?_
 refine qo (uC ctS_Expr fun W hW => cellB (boxG HK hW) rfl) ?_
 refine qo (uI 0 euS_Expr ezS_Expr) ?_
 refine qo (uW stt_Expr (HElE.out 0 (by omega)).1 fun W hW => (HRgE.out.at_ (HO.out.trans hW) (fun h => h) (show 0 < _ by omega))) ?_
 simp only [setT, sC, sZ]
 refine qo (uK (enter_PrintExpr _) fun W hW => StrO.up hW (pe_all dE W p _ _ _ ((HElE.out 0 (by omega)).2.only (HO.out.trans hW) (fun _ _ h => h)) (by unfold BT; omega))) ?_
 refine qo uS ?_
 refine qo (uF fd_Stmt_4) ?_
 refine qo (uC ctS_Expr fun W hW => cellB (boxG HK hW) rfl) ?_
 simp only [setT, sC, sZ]
 refine qo (uI 1 euS_Expr ezS_Expr) ?_
 refine qo (uW stt_Expr (HElE.out 1 (by omega)).1 fun W hW => (HRgE.out.at_ (HO.out.trans hW) (fun h => h) (show 1 < _ by omega))) ?_
 refine qo (uK (enter_PrintExpr _) fun W hW => StrO.up hW (pe_all dE W p _ _ _ ((HElE.out 1 (by omega)).2.only (HO.out.trans hW) (fun _ _ h => h)) (by unfold BT; omega))) ?_
 refine qo uS ?_
 simp only [setT, sC, sZ]
 refine qo (uSn HT.out) ?_
 refine qo (uA (.string (bstr t))) ?_
 refine dO fun we hWe => ?_
 simp only [setT, sC, sZ]
 go_wp2
 go_ret
 exact StrO.mk rfl (HO.out.trans hWe)
set_option maxRecDepth 100000 in
set_option maxHeartbeats 8000000 in
theorem ps_k5f {d : Nat} {w : World} {p : Nat → Prop} {at_ : Int} {nm : LB} {AE AS AR : Option Addr} {ne cE ns cS na cR : Nat} {TE : Nat → LB × Int} {TS TR : Nat → LB} {dE : Nat} {t : LB} (ok : OkS 5 nm ne ns) (he : ExL dE w p AE ne TE)
  (_hs : Rw 73 7 w p AS ns (fun cs t => PrS d w p cs t) TS) (_hr : Rw 117 9 w p AR na (ArmP dE (fun cs t => PrS d w p cs t) w p) TR) (ht : t = txS 5 false nm (fun i => (TE i).1) ns TS na TR) (hlen : t.length ≤ BT) :
  Calls Tryd.prog 65 #[.agg (cellsS 5 at_ false nm AE ne cE AS ns cS AR na cR).toArray] w (StrO t w) := by
 have hne : ne = 2 := ok.a5 rfl
 have hn1 : 2 ≤ ne := by omega
 clear hne
 replace ht : t = (TE 0).1 ++ [32, 61, 32] ++ (TE 1).1 ++ [59] := ht
 obtain ⟨bE, oE, CE, rfl, hpE, hrgE, helE⟩ := Rw.open_ he (by omega)
 have HRgE := Lib.hid hrgE
 have HElE := Lib.hid helE
 clear hrgE helE hpE
 have HT := Lib.hid ht
 have hL := hlen
 have hL2 := hlen
 unfold BT at hL2
 rw [ht] at hL
 simp only [List.length_append, List.length_cons, List.length_nil, BT] at hL
 clear ok he _hs _hr ht hlen
 go_enter Tryd.func65, Tryd.ntmps65
 go_wp2_with (refine wpl_boxv rfl 73 (.tmp 0) rfl (some 1) rfl (cells := (cellsS 5 at_ false nm (some ⟨bE, oE, none⟩) ne cE AS ns cS AR na cR).toArray) rfl ?_)
 refine ⟨fun w1 b1 HK HO ha1 hb1 => ?_⟩
 have c0 : w1.cell? ⟨b1, 0, none⟩ = some (.int .i64 5) := cellB HK.out rfl
 have c2 : w1.cell? ⟨b1, 2, none⟩ = some (.bool false) := cellB HK.out rfl
 go_upto_region 31 with (fail)
 refine ro (S := Only (fun _ => False) w1) (Only.refl _ _).drew (by kernel_rfl) (by kernel_rfl) (by kernel_rfl) ?_
 refine qo (uF fd_Stmt_4) ?_
 refine qo (uC ctS_Expr fun W hW => cellB (boxG HK hW) rfl) ?_
 refine qo (uI 0 euS_Expr ezS_Expr) ?_
 refine qo (uW stt_Expr (HElE.out 0 (by omega)).1 fun W hW => (HRgE.out.at_ (HO.out.trans hW) (fun h => h) (show 0 < _ by omega))) ?_
 simp only [setT, sC, sZ]
 refine qo (uK (enter_PrintExpr _) fun W hW => StrO.up hW (pe_all dE W p _ _ _ ((HElE.out 0 (by omega)).2.only (HO.out.trans hW) (fun _ _ h => h)) (by unfold BT; omega))) ?_
 refine qo uS ?_
 refine qo (uF fd_Stmt_4) ?_
 refine qo (uC ctS_Expr fun W hW => cellB (boxG HK hW) rfl) ?_
 simp only [setT, sC, sZ]
 refine qo (uI 1 euS_Expr ezS_Expr) ?_
 refine qo (uW stt_Expr (HElE.out 1 (by omega)).1 fun W hW => (HRgE.out.at_ (HO.out.trans hW) (fun h => h) (show 1 < _ by omega))) ?_
 refine qo (uK (enter_PrintExpr _) fun W hW => StrO.up hW (pe_all dE W p _ _ _ ((HElE.out 1 (by omega)).2.only (HO.out.trans hW) (fun _ _ h => h)) (by unfold BT; omega))) ?_
 refine qo uS ?_
 simp only [setT, sC, sZ]
 refine qo (uSn HT.out) ?_
 refine qo (uA (.string (bstr t))) ?_
 refine dO fun we hWe => ?_
 simp only [setT, sC, sZ]
 go_wp2
 go_ret
 exact StrO.mk rfl (HO.out.trans hWe)
set_option maxRecDepth 100000 in
set_option maxHeartbeats 8000000 in
theorem ps_k6 {d : Nat} (IS : StR d) {w : World} {p : Nat → Prop} {at_ : Int} {later : Bool} {nm : LB} {AE AS AR : Option Addr} {ne cE ns cS na cR : Nat} {TE : Nat → LB × Int} {TS TR : Nat → LB} {dE : Nat} {t : LB} (ok : OkS 6 nm ne ns) (he : ExL dE w p AE ne TE)
  (hs : Rw 73 7 w p AS ns (fun cs t => PrS d w p cs t) TS) (_hr : Rw 117 9 w p AR na (ArmP dE (fun cs t => PrS d w p cs t) w p) TR) (ht : t = txS 6 later nm (fun i => (TE i).1) ns TS na TR) (hlen : t.length ≤ BT) :
  Calls Tryd.prog 65 #[.agg (cellsS 6 at_ later nm AE ne cE AS ns cS AR na cR).toArray] w (StrO t w) := by
 have hne : ne = 3 := (ok.a6 rfl).1
 have hns : ns = 1 := (ok.a6 rfl).2
 have hn1 : 1 ≤ ns := by omega
 have HNE := Lib.hid hne
 clear hns hne
 have HRE := Lib.hid he
 obtain ⟨lt, hlt⟩ : ∃ x, x = loopL nm (fun i => (TE i).1) := ⟨_, rfl⟩
 have HLt := Lib.hid hlt
 replace ht : t = lt ++ TS 0 := (by rw [ht, hlt]; rfl)
 obtain ⟨bS, oS, CS, rfl, hpS, hrgS, helS⟩ := Rw.open_ hs (by omega)
 have HRgS := Lib.hid hrgS
 have HElS := Lib.hid helS
 clear hrgS helS hpS
 have HT := Lib.hid ht
 have hL := hlen
 have hL2 := hlen
 unfold BT at hL2
 rw [ht] at hL
 simp only [List.length_append, BT] at hL
 clear hlt ok he hs _hr ht hlen
 go_enter Tryd.func65, Tryd.ntmps65
 go_wp2_with (refine wpl_boxv rfl 73 (.tmp 0) rfl (some 1) rfl (cells := (cellsS 6 at_ later nm AE ne cE (some ⟨bS, oS, none⟩) ns cS AR na cR).toArray) rfl ?_)
 refine ⟨fun w1 b1 HK HO ha1 hb1 => ?_⟩
 have c0 : w1.cell? ⟨b1, 0, none⟩ = some (.int .i64 6) := cellB HK.out rfl
 go_upto_region 28 with (fail)
 refine ro (S := Only (fun _ => False) w1) (Only.refl _ _).drew (by kernel_rfl) (by kernel_rfl) (by kernel_rfl) ?_
 refine qo (uF fd_Stmt_3) ?_
 refine qo (uC ctstring fun W hW => cellB (boxG HK hW) rfl) ?_
 refine qo (uF fd_Stmt_4) ?_
 refine qo (uC ctS_Expr fun W hW => cellB (boxG HK hW) rfl) ?_
 simp only [setT, sC, sZ]
 refine qo (uK (enter_printLoop _) fun W hW => StrO.upR HLt.out hW (loopR_any (ExL.only HRE.out (HO.out.trans hW) (fun _ _ h => h)) HNE.out (by rw [← HLt.out]; unfold BT; omega))) ?_
 refine qo (uF fd_Stmt_5) ?_
 refine qo (uC ctS_Stmt fun W hW => cellB (boxG HK hW) rfl) ?_
 refine qo (uI 0 euS_Stmt ezS_Stmt) ?_
 simp only [setT, sC, sZ]
 refine qo (uW stt_Stmt (HElS.out 0 (by omega)).1 fun W hW => (HRgS.out.at_ (HO.out.trans hW) (fun h => h) (show 0 < _ by omega))) ?_
 refine qo (uK (enter_PrintStmt _) fun W hW => StrO.up hW (IS W p _ _ ((HElS.out 0 (by omega)).2.only (HO.out.trans hW) (fun _ _ h => h)) (by unfold BT; omega))) ?_
 refine qo (uSn HT.out) ?_
 refine qo (uA (.string (bstr t))) ?_
 simp only [setT, sC, sZ]
 refine dO fun we hWe => ?_
 go_wp2
 go_ret
 exact StrO.mk rfl (HO.out.trans hWe)
set_option maxRecDepth 100000 in
set_option maxHeartbeats 8000000 in
theorem ps_k3a {d : Nat} (IS : StR d) {w : World} {p : Nat → Prop} {at_ : Int} {later : Bool} {nm : LB} {AE AS AR : Option Addr} {ne cE ns cS na cR : Nat} {TE : Nat → LB × Int} {TS TR : Nat → LB} {dE : Nat} {t : LB} (ok : OkS 3 nm ne ns) (he : ExL dE w p AE ne TE)
  (hs : Rw 73 7 w p AS ns (fun cs t => PrS d w p cs t) TS) (_hr : Rw 117 9 w p AR na (ArmP dE (fun cs t => PrS d w p cs t) w p) TR) (ht : t = txS 3 later nm (fun i => (TE i).1) ns TS na TR) (hlen : t.length ≤ BT) (h2 : ¬ 1 < ns) :
  Calls Tryd.prog 65 #[.agg (cellsS 3 at_ later nm AE ne cE AS ns cS AR na cR).toArray] w (StrO t w) := by
 have hn1 : 1 ≤ ne := by have := (ok.a3 rfl).1; omega
 have hn2 : 1 ≤ ns := (ok.a3 rfl).2.1
 replace ht : t = [105, 102, 32, 40] ++ (TE 0).1 ++ [41, 32] ++ TS 0 := (by rw [ht]; unfold txS; rw [if_neg (by decide), if_neg (by decide), if_pos rfl, if_neg h2]; simp)
 obtain ⟨bE, oE, CE, rfl, hpE, hrgE, helE⟩ := Rw.open_ he (by omega)
 have HRgE := Lib.hid hrgE
 have HElE := Lib.hid helE
 clear hrgE helE hpE
 obtain ⟨bS, oS, CS, rfl, hpS, hrgS, helS⟩ := Rw.open_ hs (by omega)
 have HRgS := Lib.hid hrgS
 have HElS := Lib.hid helS
 clear hrgS helS hpS
 have HT := Lib.hid ht
 have hL := hlen
 have hL2 := hlen
 unfold BT at hL2
 rw [ht] at hL
 simp only [List.length_append, List.length_cons, List.length_nil, BT] at hL
 have h2i : ¬ (1 : Int) < (ns : Int) := by omega
 clear ok he hs _hr ht hlen
 go_enter Tryd.func65, Tryd.ntmps65
 go_wp2_with (refine wpl_boxv rfl 73 (.tmp 0) rfl (some 1) rfl (cells := (cellsS 3 at_ later nm (some ⟨bE, oE, none⟩) ne cE (some ⟨bS, oS, none⟩) ns cS AR na cR).toArray) rfl ?_)
 refine ⟨fun w1 b1 HK HO ha1 hb1 => ?_⟩
 have c0 : w1.cell? ⟨b1, 0, none⟩ = some (.int .i64 3) := cellB HK.out rfl
 go_upto_region 12 with (fail)
 refine ro (S := Only (fun _ => False) w1) (Only.refl _ _).drew (by kernel_rfl) (by kernel_rfl) (by kernel_rfl) ?_
 refine qo (uF fd_Stmt_4) ?_
 refine qo (uC ctS_Expr fun W hW => cellB (boxG HK hW) rfl) ?_
 refine qo (uI 0 euS_Expr ezS_Expr) ?_
 refine qo (uW stt_Expr (HElE.out 0 (by omega)).1 fun W hW => (HRgE.out.at_ (HO.out.trans hW) (fun h => h) (show 0 < _ by omega))) ?_
 simp only [setT, sC, sZ]
 refine qo (uK (enter_PrintExpr _) fun W hW => StrO.up hW (pe_all dE W p _ _ _ ((HElE.out 0 (by omega)).2.only (HO.out.trans hW) (fun _ _ h => h)) (by unfold BT; omega))) ?_
 refine qo uS ?_
 refine qo uS ?_
 refine qo (uF fd_Stmt_5) ?_
 simp only [setT, sC, sZ]
 refine qo (uC ctS_Stmt fun W hW => cellB (boxG HK hW) rfl) ?_
 refine qo (uI 0 euS_Stmt ezS_Stmt) ?_
 refine qo (uW stt_Stmt (HElS.out 0 (by omega)).1 fun W hW => (HRgS.out.at_ (HO.out.trans hW) (fun h => h) (show 0 < _ by omega))) ?_
 refine qo (uK (enter_PrintStmt _) fun W hW => StrO.up hW (IS W p _ _ ((HElS.out 0 (by omega)).2.only (HO.out.trans hW) (fun _ _ h => h)) (by unfold BT; omega))) ?_
 simp only [setT, sC, sZ]
 refine qo (uSn HT.out) ?_
 refine qo (uA (.string (bstr t))) ?_
 refine dO fun w2 hW2 => ?_
 simp only [setT, sC, sZ]
 go_upto_region 13 with (fail)
 refine rs hW2 ?_
 refine qs (uF fd_Stmt_5) ?_
 refine qs (uC ctS_Stmt fun W hW => cellB (boxG HK hW) rfl) ?_
 refine qs (uL euS_Stmt) ?_
 refine qs (uQ (r := false) (hr := (decide_eq_false (by omega)))) ?_
 simp only [setT, sC, sZ]
 refine ds fun w3 hW3 => ?_
 go_upto_region 15 with (fail)
 refine rs hW3 ?_
 refine qs uMt ?_
 refine qs (uA (.string (bstr t))) ?_
 refine ds fun we hWe => ?_
 simp only [setT, sC, sZ]
 go_wp2
 go_ret
 exact StrO.mk rfl (HO.out.trans hWe)
set_option maxRecDepth 100000 in
set_option maxHeartbeats 8000000 in
theorem ps_k3b {d : Nat} (IS : StR d) {w : World} {p : Nat → Prop} {at_ : Int} {later : Bool} {nm : LB} {AE AS AR : Option Addr} {ne cE ns cS na cR : Nat} {TE : Nat → LB × Int} {TS TR : Nat → LB} {dE : Nat} {t : LB} (ok : OkS 3 nm ne ns) (he : ExL dE w p AE ne TE)
  (hs : Rw 73 7 w p AS ns (fun cs t => PrS d w p cs t) TS) (_hr : Rw 117 9 w p AR na (ArmP dE (fun cs t => PrS d w p cs t) w p) TR) (ht : t = txS 3 later nm (fun i => (TE i).1) ns TS na TR) (hlen : t.length ≤ BT) (h2 : 1 < ns) :
  Calls Tryd.prog 65 #[.agg (cellsS 3 at_ later nm AE ne cE AS ns cS AR na cR).toArray] w (StrO t w) := by
 have hn1 : 1 ≤ ne := by have := (ok.a3 rfl).1; omega
 have hn2 : 1 ≤ ns := (ok.a3 rfl).2.1
 replace ht : t = [105, 102, 32, 40] ++ (TE 0).1 ++ [41, 32] ++ TS 0 ++ [32, 101, 108, 115, 101, 32] ++ TS 1 := (by rw [ht]; unfold txS; rw [if_neg (by decide), if_neg (by decide), if_pos rfl, if_pos h2]; simp)
 obtain ⟨bE, oE, CE, rfl, hpE, hrgE, helE⟩ := Rw.open_ he (by omega)
 have HRgE := Lib.hid hrgE
 have HElE := Lib.hid helE
 clear hrgE helE hpE
 obtain ⟨bS, oS, CS, rfl, hpS, hrgS, helS⟩ := Rw.open_ hs (by omega)
 have HRgS := Lib.hid hrgS
 have HElS := Lib.hid helS
 clear hrgS helS hpS
 have HT := Lib.hid ht
 have hL := hlen
 have hL2 := hlen
 unfold BT at hL2
 rw [ht] at hL
 simp only [List.length_append, List.length_cons, List.length_nil, BT] at hL
 have h2i : (1 : Int) < (ns : Int) := by omega
 clear ok he hs _hr ht hlen
 go_enter Tryd.func65, Tryd.ntmps65
 go_wp2_with (refine wpl_boxv rfl 73 (.tmp 0) rfl (some 1) rfl (cells := (cellsS 3 at_ later nm (some ⟨bE, oE, none⟩) ne cE (some ⟨bS, oS, none⟩) ns cS AR na cR).toArray) rfl ?_)
 refine ⟨fun w1 b1 HK HO ha1 hb1 => ?_⟩
 have c0 : w1.cell? ⟨b1, 0, none⟩ = some (.int .i64 3) := cellB HK.out rfl
 go_upto_region 12 with (fail)
 refine ro (S := Only (fun _ => False) w1) (Only.refl _ _).drew (by kernel_rfl) (by kernel_rfl) (by kernel_rfl) ?_
 refine qo (uF fd_Stmt_4) ?_
 refine qo (uC ctS_Expr fun W hW => cellB (boxG HK hW) rfl) ?_
 refine qo (uI 0 euS_Expr ezS_Expr) ?_
 refine qo (uW stt_Expr (HElE.out 0 (by omega)).1 fun W hW => (HRgE.out.at_ (HO.out.trans hW) (fun h => h) (show 0 < _ by omega))) ?_
 simp only [setT, sC, sZ]
 refine qo (uK (enter_PrintExpr _) fun W hW => StrO.up hW (pe_all dE W p _ _ _ ((HElE.out 0 (by omega)).2.only (HO.out.trans hW) (fun _ _ h => h)) (by unfold BT; omega))) ?_
 refine qo uS ?_
 refine qo uS ?_
 refine qo (uF fd_Stmt_5) ?_
 simp only [setT, sC, sZ]
 refine qo (uC ctS_Stmt fun W hW => cellB (boxG HK hW) rfl) ?_
 refine qo (uI 0 euS_Stmt ezS_Stmt) ?_
 refine qo (uW stt_Stmt (HElS.out 0 (by omega)).1 fun W hW => (HRgS.out.at_ (HO.out.trans hW) (fun h => h) (show 0 < _ by omega))) ?_
 refine qo (uK (enter_PrintStmt _) fun W hW => StrO.up hW (IS W p _ _ ((HElS.out 0 (by omega)).2.only (HO.out.trans hW) (fun _ _ h => h)) (by unfold BT; omega))) ?_
 simp only [setT, sC, sZ]
 refine qo uS ?_
 refine qo (uA (.string (bstr ((([105, 102, 32, 40] ++ (TE 0).1) ++ [41, 32]) ++ (TS 0))))) ?_
 refine dO fun w2 hW2 => ?_
 simp only [setT, sC, sZ]
 go_upto_region 13 with (fail)
 refine rs hW2 ?_
 refine qs (uF fd_Stmt_5) ?_
 refine qs (uC ctS_Stmt fun W hW => cellB (boxG HK hW) rfl) ?_
 refine qs (uL euS_Stmt) ?_
 refine qs (uQ (r := true) (hr := (decide_eq_true (by omega)))) ?_
 simp only [setT, sC, sZ]
 refine ds fun w3 hW3 => ?_
 go_upto_region 14 with (fail)
 refine rs hW3 ?_
 refine qs uMt ?_
 refine qs uS ?_
 refine qs (uF fd_Stmt_5) ?_
 refine qs (uC ctS_Stmt fun W hW => cellB (boxG HK hW) rfl) ?_
 simp only [setT, sC, sZ]
 refine qs (uI 1 euS_Stmt ezS_Stmt) ?_
 refine qs (uW stt_Stmt (HElS.out 1 (by omega)).1 fun W hW => (HRgS.out.at_ (HO.out.trans hW) (fun h => h) (show 1 < _ by omega))) ?_
 refine qs (uK (enter_PrintStmt _) fun W hW => StrO.up hW (IS W p _ _ ((HElS.out 1 (by omega)).2.only (HO.out.trans hW) (fun _ _ h => h)) (by unfold BT; omega))) ?_
 refine qs (uSn HT.out) ?_
 simp only [setT, sC, sZ]
 refine qs (uA (.string (bstr t))) ?_
 refine ds fun w4 hW4 => ?_
 simp only [setT, sC, sZ]
 go_upto_region 15 with (fail)
 refine rs hW4 ?_
 refine qs uMt ?_
 refine qs (uA (.string (bstr t))) ?_
 refine ds fun we hWe => ?_
 simp only [setT, sC, sZ]
 go_wp2
 go_ret
 exact StrO.mk rfl (HO.out.trans hWe)
set_option maxRecDepth 100000 in
set_option maxHeartbeats 8000000 in
theorem ps_k2 {d : Nat} (IS : StR d) {w : World} {p : Nat → Prop} {at_ : Int} {later : Bool} {nm : LB} {AE AS AR : Option Addr} {ne cE ns cS na cR : Nat} {TE : Nat → LB × Int} {TS TR : Nat → LB} {dE : Nat} {t : LB} (_ok : OkS 2 nm ne ns) (_he : ExL dE w p AE ne TE)
  (hs : Rw 73 7 w p AS ns (fun cs t => PrS d w p cs t) TS) (_hr : Rw 117 9 w p AR na (ArmP dE (fun cs t => PrS d w p cs t) w p) TR) (ht : t = txS 2 later nm (fun i => (TE i).1) ns TS na TR) (hlen : t.length ≤ BT) :
  Calls Tryd.prog 65 #[.agg (cellsS 2 at_ later nm AE ne cE AS ns cS AR na cR).toArray] w (StrO t w) := by
 have hn3 : ns ≤ 3000000 := hs.1
 obtain ⟨tx, htx⟩ : ∃ x : Nat → LB, x = fun i => [98, 101, 103, 105, 110, 32] ++ catL (fun i => TS i ++ [32]) i := ⟨_, rfl⟩
 replace ht : t = tx ns ++ [101, 110, 100] := by rw [ht, htx]; rfl
 have HT := Lib.hid ht
 have hL2 := hlen
 unfold BT at hL2
 have hL := hL2
 rw [ht] at hL
 simp only [List.length_append, List.length_cons, List.length_nil] at hL
 have HTX := Lib.hid htx
 have HMON : Hid (∀ i, i ≤ ns → (tx i).length ≤ (tx ns).length) := Lib.hid (fun i hi => by
  have := catL_mono (T := fun i => TS i ++ [32]) (n := ns) i hi
  rw [htx]; simp only [List.length_append]; omega)
 have HR := Lib.hid hs
 clear _ok _he hs _hr ht hlen htx
 go_enter Tryd.func65, Tryd.ntmps65
 go_wp2_with (refine wpl_boxv rfl 73 (.tmp 0) rfl (some 1) rfl (cells := (cellsS 2 at_ later nm AE ne cE AS ns cS AR na cR).toArray) rfl ?_)
 refine ⟨fun w1 b1 HK HO ha1 hb1 => ?_⟩
 have c0 : w1.cell? ⟨b1, 0, none⟩ = some (.int .i64 2) := cellB HK.out rfl
 go_wp2
 go_loopw [3, 4] (fun vs vi wr => ∃ (i : Nat), i ≤ ns ∧ vi = .int .i64 i ∧ vs = .string (bstr (tx i)) ∧ Hid (Only (fun _ => False) w1 wr)) (fun _ vi _ => ns - (intOf vi).toNat)
 case atStart => exact ⟨0, Nat.zero_le _, rfl, by rw [HTX.out]; rfl, Lib.hid (Only.refl _ _)⟩
 case round =>
  obtain ⟨i, hi, rfl, rfl, HOr⟩ := hrel
  have HO2 := Lib.hid (HO.out.trans HOr.out)
  have hm := HMON.out i hi
  have HK2 := Lib.hid (boxG HK HOr.out)
  by_cases hlt : i < ns
  ·
   have hm1 := HMON.out (i + 1) (by omega)
   obtain ⟨bS, oS, CS, rfl, hpS, hrgS, helS⟩ := Rw.open_ HR.out (by omega)
   have HRgS := Lib.hid hrgS
   have HElS := Lib.hid helS
   have c5 : wr.cell? ⟨b1, 5, none⟩ = some (.slice (some ⟨bS, oS, none⟩) ns cS) := cellB HK2.out rfl
   have HST : Hid (tx (i + 1) = tx i ++ TS i ++ [32]) := Lib.hid (by rw [HTX.out]; simp only [catL, List.append_assoc])
   have hm2 := hm1
   rw [HST.out] at hm2
   simp only [List.length_append, List.length_cons, List.length_nil] at hm2
   clear hrgS helS hpS
   go_upto_region 9 with (fail)
   refine rs (S := Only (fun _ => False) wr) (Only.refl _ _) ?_
   refine qs uMt ?_
   refine qs (uF fd_Stmt_5) ?_
   refine qs (uC ctS_Stmt fun W hW => cellB (boxG HK2 hW) rfl) ?_
   refine qs uMi ?_
   simp only [setT, sC, sZ]
   refine qs (uI i euS_Stmt ezS_Stmt) ?_
   refine qs (uW stt_Stmt (HElS.out i (by omega)).1 fun W hW => (HRgS.out.at_ (HO2.out.trans hW) (fun h => h) (show i < _ by omega))) ?_
   refine qs (uK (enter_PrintStmt _) fun W hW => StrO.up hW (IS W p _ _ ((HElS.out i (by omega)).2.only (HO2.out.trans hW) (fun _ _ h => h)) (by unfold BT; omega))) ?_
   refine qs uS ?_
   simp only [setT, sC, sZ]
   refine qs (uSn HST.out) ?_
   refine qs (uA (.string (bstr (tx (i + 1))))) ?_
   refine ds fun w2 hW2 => ?_
   simp only [setT, sC, sZ]
   go_wp2
   go_roundw
   case rel => exact ⟨i + 1, by omega, by go_num, rfl, Lib.hid (HOr.out.trans hW2)⟩
   case measure => simp [intOf]; omega
  ·
   obtain rfl : i = ns := by omega
   have c5 : wr.cell? ⟨b1, 5, none⟩ = some (.slice AS i cS) := cellB HK2.out rfl
   go_upto_region 10 with (fail)
   refine rs (S := Only (fun _ => False) wr) (Only.refl _ _) ?_
   refine qs uMt ?_
   refine qs (uSn HT.out) ?_
   refine qs (uA (.string (bstr t))) ?_
   refine ds fun we hWe => ?_
   simp only [setT, sC, sZ]
   go_wp2
   go_ret
   exact StrO.mk rfl (HO2.out.trans hWe)
set_option maxRecDepth 100000 in
set_option maxHeartbeats 8000000 in
theorem ps_k4 {d : Nat} (IS : StR d) {w : World} {p : Nat → Prop} {at_ : Int} {later : Bool} {nm : LB} {AE AS AR : Option Addr} {ne cE ns cS na cR : Nat} {TE : Nat → LB × Int} {TS TR : Nat → LB} {dE : Nat} {t : LB} (ok : OkS 4 nm ne ns) (he : ExL dE w p AE ne TE)
  (_hs : Rw 73 7 w p AS ns (fun cs t => PrS d w p cs t) TS) (hr : Rw 117 9 w p AR na (ArmP dE (fun cs t => PrS d w p cs t) w p) TR) (ht : t = txS 4 later nm (fun i => (TE i).1) ns TS na TR) (hlen : t.length ≤ BT) :
  Calls Tryd.prog 65 #[.agg (cellsS 4 at_ later nm AE ne cE AS ns cS AR na cR).toArray] w (StrO t w) := by
 have hn1 : 1 ≤ ne := by have := ok.a4 rfl; omega
 have hn3 : na ≤ 3000000 := hr.1
 obtain ⟨tx, htx⟩ : ∃ x : Nat → LB, x = fun i => ([99, 97, 115, 101, 32, 40] ++ (TE 0).1 ++ [41, 32]) ++ catL TR i := ⟨_, rfl⟩
 replace ht : t = tx na ++ [101, 110, 100, 99, 97, 115, 101] := by rw [ht, htx]; rfl
 have HT := Lib.hid ht
 have hL2 := hlen
 unfold BT at hL2
 have hL := hL2
 rw [ht] at hL
 simp only [List.length_append, List.length_cons, List.length_nil] at hL
 have HTX := Lib.hid htx
 have HMON : Hid (∀ i, i ≤ na → (tx i).length ≤ (tx na).length) := Lib.hid (fun i hi => by
  have := catL_mono (T := TR) (n := na) i hi
  rw [htx]; simp only [List.length_append]; omega)
 have HX0 : Hid (tx 0 = [99, 97, 115, 101, 32, 40] ++ (TE 0).1 ++ [41, 32]) := Lib.hid (by rw [htx]; simp [catL])
 have hm0 := HMON.out 0 (Nat.zero_le _)
 have hm00 := hm0
 rw [HX0.out] at hm00
 simp only [List.length_append, List.length_cons, List.length_nil] at hm00
 have HR := Lib.hid hr
 obtain ⟨bE, oE, CE, rfl, hpE, hrgE, helE⟩ := Rw.open_ he (by omega)
 have HRgE := Lib.hid hrgE
 have HElE := Lib.hid helE
 clear hrgE helE hpE
 clear ok he _hs hr ht hlen htx
 go_enter Tryd.func65, Tryd.ntmps65
 go_wp2_with (refine wpl_boxv rfl 73 (.tmp 0) rfl (some 1) rfl (cells := (cellsS 4 at_ later nm (some ⟨bE, oE, none⟩) ne cE AS ns cS AR na cR).toArray) rfl ?_)
 refine ⟨fun w1 b1 HK HO ha1 hb1 => ?_⟩
 have c0 : w1.cell? ⟨b1, 0, none⟩ = some (.int .i64 4) := cellB HK.out rfl
 go_upto_region 17 with (fail)
 refine rs (S := Only (fun _ => False) w1) (Only.refl _ _) ?_
 refine qs (uF fd_Stmt_4) ?_
 refine qs (uC ctS_Expr fun W hW => cellB (boxG HK hW) rfl) ?_
 refine qs (uI 0 euS_Expr ezS_Expr) ?_
 refine qs (uW stt_Expr (HElE.out 0 (by omega)).1 fun W hW => (HRgE.out.at_ (HO.out.trans hW) (fun h => h) (show 0 < _ by omega))) ?_
 simp only [setT, sC, sZ]
 refine qs (uK (enter_PrintExpr _) fun W hW => StrO.up hW (pe_all dE W p _ _ _ ((HElE.out 0 (by omega)).2.only (HO.out.trans hW) (fun _ _ h => h)) (by unfold BT; omega))) ?_
 refine qs uS ?_
 refine qs (uSn HX0.out) ?_
 refine qs (uA (.string (bstr (tx 0)))) ?_
 simp only [setT, sC, sZ]
 refine ds fun w2 hW2 => ?_
 have HO0 := Lib.hid (HO.out.trans hW2)
 have HK0 := Lib.hid (boxG HK hW2)
 clear c0
 go_wp2
 go_loopw [6, 7] (fun vs vi wr => ∃ (i : Nat), i ≤ na ∧ vi = .int .i64 i ∧ vs = .string (bstr (tx i)) ∧ Hid (Only (fun _ => False) w2 wr)) (fun _ vi _ => na - (intOf vi).toNat)
 case atStart => exact ⟨0, Nat.zero_le _, rfl, rfl, Lib.hid (Only.refl _ _)⟩
 case round =>
  obtain ⟨i, hi, rfl, rfl, HOr⟩ := hrel
  have HO2 := Lib.hid (HO0.out.trans HOr.out)
  have hm := HMON.out i hi
  have HK2 := Lib.hid (boxG HK0 HOr.out)
  by_cases hlt : i < na
  ·
   have hm1 := HMON.out (i + 1) (by omega)
   obtain ⟨bR, oR, CR, rfl, hpR, hrgR, helR⟩ := Rw.open_ HR.out (by omega)
   have HRgR := Lib.hid hrgR
   have c6 : wr.cell? ⟨b1, 6, none⟩ = some (.slice (some ⟨bR, oR, none⟩) na cR) := cellB HK2.out rfl
   obtain ⟨lcr0, df, AL, nL, cL, TL, CB, TB, hCi, hCB, hdf, hAL, hB, hTR⟩ := helR i hlt
   have lcr := Lib.hid lcr0
   have HC := Lib.hid hCi
   have HAL := Lib.hid hAL
   have HBB := Lib.hid hB
   have lcb := Lib.hid hCB
   obtain ⟨lab, hlab⟩ : ∃ x, x = comL (fun i => (TL i).1) nL := ⟨_, rfl⟩
   have HLab := Lib.hid hlab
   have ones : ∀ v ∈ (CR i).toArray.toList, v.oneCell' = true := by
    rw [HC.out]
    intro v hv
    have hv' : v ∈ ([.bool df, .slice AL nL cL] ++ CB : List Value) := hv
    rcases List.mem_append.1 hv' with h | h
    ·
     rcases List.mem_cons.1 h with rfl | h
     ·
      rfl
     ·
      rcases List.mem_cons.1 h with rfl | h
      ·
       rfl
      ·
       cases h
    ·
     exact oneS (p := p) (w := w) (t := TB) ⟨d, HBB.out⟩ v h
   have HON := Lib.hid ones
   have hstep : tx (i + 1) = tx i ++ ((if df = true then [100, 101, 102, 97, 117, 108, 116] else lab) ++ [58, 32] ++ TB ++ [32]) := by rw [HTX.out, hlab]; simp only [catL, hTR, armL, List.append_assoc]
   clear hrgR helR hpR lcr0 hCi hCB hAL hB hTR hlab ones hdf
   cases df with
   | true =>
    have HST : Hid (tx (i + 1) = tx i ++ [100, 101, 102, 97, 117, 108, 116] ++ [58, 32] ++ TB ++ [32]) := Lib.hid (by rw [hstep]; simp)
    have hm2 := hm1
    rw [HST.out] at hm2
    simp only [List.length_append, List.length_cons, List.length_nil] at hm2
    clear hstep
    go_upto_region 21 with (fail)
    refine rs (S := Only (fun _ => False) wr) (Only.refl _ _) ?_
    refine qs (uF fd_Stmt_6) ?_
    simp only [setT, sC, sZ]
    refine qs (uC ctS_Arm fun W hW => cellB (boxG HK2 hW) rfl) ?_
    simp only [setT, sC, sZ]
    refine qs uMi ?_
    simp only [setT, sC, sZ]
    refine qs (uI i euS_Arm ezS_Arm) ?_
    simp only [setT, sC, sZ]
    refine qs (uW stt_Arm lcr.out fun W hW => (HRgR.out.at_ (HO2.out.trans hW) (fun h => h) hlt)) ?_
    simp only [setT, sC, sZ]
    intro w3 hW3
    refine wpl_box rfl rfl 117 rfl 8 rfl (.tmp 81) rfl rfl Tryd.zeroValue117 (cells := (CR i).toArray) (fun _ => rfl) (fun _ => rfl) stt_Arm (by simp [lcr.out]) rfl HON.out ?_
    refine ⟨fun w4 b8 HK8 ho4 ha8 hb8 => ?_⟩
    have HO4 := Lib.hid (HO2.out.trans (hW3.trans ho4.out))
    have HK4 := Lib.hid (boxG HK2 (hW3.trans ho4.out))
    have HO4r := Lib.hid (HOr.out.trans (hW3.trans ho4.out))
    clear hW3 ho4
    go_upto_region 22 with (fail)
    refine rs (S := Only (fun _ => False) w4) (Only.refl _ _) ?_
    refine qs (uF fd_Arm_0) ?_
    refine qs (uC ctbool fun W hW => cellB (m := 0) (v := .bool true) (boxG HK8 hW) (by rw [HC.out]; rfl)) ?_
    refine ds fun w5 hW5 => ?_
    simp only [setT, sC, sZ]
    go_upto_region 23 with (fail)
    refine rs hW5 ?_
    refine qs uMt ?_
    refine qs uS ?_
    refine qs (uA (.string (bstr ((tx i) ++ [100, 101, 102, 97, 117, 108, 116])))) ?_
    refine ds fun w6 hW6 => ?_
    simp only [setT, sC, sZ]
    go_upto_region 25 with (fail)
    refine rs hW6 ?_
    refine qs uMt ?_
    refine qs uS ?_
    refine qs (uF fd_Arm_2) ?_
    refine qs (uW stt_Stmt lcb.out fun W hW => segB (boxG HK8 hW) (by rw [HC.out]; exact segA)) ?_
    simp only [setT, sC, sZ]
    refine qs (uK (enter_PrintStmt _) fun W hW => StrO.up hW (IS W p _ _ (HBB.out.only (HO4.out.trans hW) (fun _ _ h => h)) (by unfold BT; omega))) ?_
    refine qs uS ?_
    refine qs (uSn HST.out) ?_
    refine qs (uA (.string (bstr (tx (i + 1))))) ?_
    simp only [setT, sC, sZ]
    refine ds fun w7 hW7 => ?_
    go_wp2
    go_roundw
    case rel => exact ⟨i + 1, by omega, by go_num, rfl, Lib.hid (HO4r.out.trans hW7)⟩
    case measure => simp [intOf]; omega
   | false =>
    have HST : Hid (tx (i + 1) = tx i ++ lab ++ [58, 32] ++ TB ++ [32]) := Lib.hid (by rw [hstep]; simp)
    have hm2 := hm1
    rw [HST.out] at hm2
    simp only [List.length_append, List.length_cons, List.length_nil] at hm2
    clear hstep
    go_upto_region 21 with (fail)
    refine rs (S := Only (fun _ => False) wr) (Only.refl _ _) ?_
    refine qs (uF fd_Stmt_6) ?_
    simp only [setT, sC, sZ]
    refine qs (uC ctS_Arm fun W hW => cellB (boxG HK2 hW) rfl) ?_
    simp only [setT, sC, sZ]
    refine qs uMi ?_
    simp only [setT, sC, sZ]
    refine qs (uI i euS_Arm ezS_Arm) ?_
    simp only [setT, sC, sZ]
    refine qs (uW stt_Arm lcr.out fun W hW => (HRgR.out.at_ (HO2.out.trans hW) (fun h => h) hlt)) ?_
    simp only [setT, sC, sZ]
    intro w3 hW3
    refine wpl_box rfl rfl 117 rfl 8 rfl (.tmp 81) rfl rfl Tryd.zeroValue117 (cells := (CR i).toArray) (fun _ => rfl) (fun _ => rfl) stt_Arm (by simp [lcr.out]) rfl HON.out ?_
    refine ⟨fun w4 b8 HK8 ho4 ha8 hb8 => ?_⟩
    have HO4 := Lib.hid (HO2.out.trans (hW3.trans ho4.out))
    have HK4 := Lib.hid (boxG HK2 (hW3.trans ho4.out))
    have HO4r := Lib.hid (HOr.out.trans (hW3.trans ho4.out))
    clear hW3 ho4
    go_upto_region 22 with (fail)
    refine rs (S := Only (fun _ => False) w4) (Only.refl _ _) ?_
    refine qs (uF fd_Arm_0) ?_
    refine qs (uC ctbool fun W hW => cellB (m := 0) (v := .bool false) (boxG HK8 hW) (by rw [HC.out]; rfl)) ?_
    refine ds fun w5 hW5 => ?_
    simp only [setT, sC, sZ]
    go_upto_region 24 with (fail)
    refine rs hW5 ?_
    refine qs uMt ?_
    refine qs (uF fd_Arm_1) ?_
    refine qs (uC ctS_Expr fun W hW => cellB (m := 1) (v := .slice AL nL cL) (boxG HK8 hW) (by rw [HC.out]; rfl)) ?_
    refine qs (uK (enter_comma _) fun W hW => StrO.upR HLab.out hW (pcm_any (ExL.only HAL.out (HO4.out.trans hW) (fun _ _ h => h)) (by rw [← HLab.out]; unfold BT; omega))) ?_
    simp only [setT, sC, sZ]
    refine qs uS ?_
    refine qs (uA (.string (bstr ((tx i) ++ lab)))) ?_
    refine ds fun w6 hW6 => ?_
    simp only [setT, sC, sZ]
    go_upto_region 25 with (fail)
    refine rs hW6 ?_
    refine qs uMt ?_
    refine qs uS ?_
    refine qs (uF fd_Arm_2) ?_
    refine qs (uW stt_Stmt lcb.out fun W hW => segB (boxG HK8 hW) (by rw [HC.out]; exact segA)) ?_
    simp only [setT, sC, sZ]
    refine qs (uK (enter_PrintStmt _) fun W hW => StrO.up hW (IS W p _ _ (HBB.out.only (HO4.out.trans hW) (fun _ _ h => h)) (by unfold BT; omega))) ?_
    refine qs uS ?_
    refine qs (uSn HST.out) ?_
    refine qs (uA (.string (bstr (tx (i + 1))))) ?_
    simp only [setT, sC, sZ]
    refine ds fun w7 hW7 => ?_
    go_wp2
    go_roundw
    case rel => exact ⟨i + 1, by omega, by go_num, rfl, Lib.hid (HO4r.out.trans hW7)⟩
    case measure => simp [intOf]; omega
  ·
   obtain rfl : i = na := by omega
   have c6 : wr.cell? ⟨b1, 6, none⟩ = some (.slice AR i cR) := cellB HK2.out rfl
   go_upto_region 26 with (fail)
   refine rs (S := Only (fun _ => False) wr) (Only.refl _ _) ?_
   refine qs uMt ?_
   refine qs (uSn HT.out) ?_
   refine qs (uA (.string (bstr t))) ?_
   refine ds fun we hWe => ?_
   simp only [setT, sC, sZ]
   go_wp2
   go_ret
   exact StrO.mk rfl (HO2.out.trans hWe)
theorem ps_succ {d : Nat} (IS : StR d) : StR (d + 1) := by
 intro w p cs t ⟨kd, at_, later, nm, AE, AS, AR, ne, cE, ns, cS, na, cR, TE, TS, TR, dE, e, ok, he, hs, hr, ht⟩ hl
 subst e
 have hk : kd = 1 ∨ kd = 2 ∨ kd = 3 ∨ kd = 4 ∨ kd = 5 ∨ kd = 6 := by have := ok.k; omega
 rcases hk with rfl | rfl | rfl | rfl | rfl | rfl
 ·
  exact ps_k1 ok he hs hr ht hl
 ·
  exact ps_k2 IS ok he hs hr ht hl
 ·
  by_cases h2 : 1 < ns
  ·
   exact ps_k3b IS ok he hs hr ht hl h2
  ·
   exact ps_k3a IS ok he hs hr ht hl h2
 ·
  exact ps_k4 IS ok he hs hr ht hl
 ·
  cases later with
  | true => exact ps_k5t ok he hs hr ht hl
  | false => exact ps_k5f ok he hs hr ht hl
 ·
  exact ps_k6 IS ok he hs hr ht hl
theorem ps_all : ∀ d, StR d
 | 0 => fun _ _ _ _ h => h.elim
 | d + 1 => ps_succ (ps_all d)
end Go.Proofs.YtbdcpealkllfnaaDoor
