/- The printer's expr, operand, list, walked: the builder gets the text of a tree in memory. Conditions: the tree lies below the builder, the tables read as laid. -/
import Derived.Test.YtbdcpealkllfnaaDoorPbS
namespace Go.Proofs.YtbdcpealkllfnaaDoor
open Go.RowKit Go.Deep

theorem eaSigns : Tryd.prog.underlying 95 = some (.array (Tryd.prog.arrayLen 95) (Tryd.prog.elem 95)) := by go_simp
theorem elSigns : Tryd.prog.arrayLen 95 = 23 := by simp [Program.arrayLen, Tryd.underlying95]
theorem ezSigns : ∀ w, (sizeOf (Tryd.prog.elem 95)).run Tryd.prog w = .ok 1 w := fun w => by go_simp
abbrev Lo (B : Nat) : Nat → Prop := fun i => i < B
def ExP (d : Nat) : Prop := ∀ (B b : Nat) (l : LB) (w : World) (cs : List Value) (t : LB) (k : Int), Tabs B w → PS B b l w w → PrE d w (Lo B) cs t k → l.length + t.length ≤ BP → Calls Tryd.prog 23 #[.pointer (some ⟨b, 0, none⟩), .agg cs.toArray] w (PrO B b (l ++ t) w)
def OpP (d : Nat) : Prop := ∀ (B b : Nat) (l : LB) (w : World) (cs : List Value) (t : LB) (k : Int), Tabs B w → PS B b l w w → PrE d w (Lo B) cs t k → l.length + (innL k t).length ≤ BP → Calls Tryd.prog 42 #[.pointer (some ⟨b, 0, none⟩), .agg cs.toArray] w (PrO B b (l ++ innL k t) w)
def LiP (d : Nat) : Prop := ∀ (B b : Nat) (l : LB) (w : World) (A : Option Addr) (n c : Nat) (T : Nat → LB × Int), Tabs B w → PS B b l w w → ExL d w (Lo B) A n T → l.length + (comL (fun i => (T i).1) n).length ≤ BP → Calls Tryd.prog 43 #[.pointer (some ⟨b, 0, none⟩), .slice A n c] w (PrO B b (l ++ comL (fun i => (T i).1) n) w)
set_option maxRecDepth 100000 in
set_option maxHeartbeats 8000000 in
theorem fe_k1a {d : Nat} {B b : Nat} {l : LB} {w : World} {at_ op width : Int} {num : Nat} {nm : LB} {A : Option Addr} {n c : Nat} {T : Nat → LB × Int} {t : LB} (hT : Tabs B w) (hp : PS B b l w w) (ok : OkE 1 op width num nm n)
  (hr : Rw 56 7 w (Lo B) A n (fun cs t => PrE d w (Lo B) cs t.1 t.2) T) (ht : t = txE 1 op width num nm n (fun i => (T i).2) (fun i => (T i).1)) (hlen : l.length + t.length ≤ BP) (hz : width = 0) :
  Calls Tryd.prog 23 #[.pointer (some ⟨b, 0, none⟩), .agg (cellsE 1 at_ op width num nm A n c).toArray] w (PrO B b (l ++ t) w) := by
 obtain ⟨wd, rfl⟩ := Int.eq_ofNat_of_zero_le ok.w.1
 obtain ⟨o, rfl⟩ := Int.eq_ofNat_of_zero_le ok.o.1
 have HWD := Lib.hid ok.w.2
 have HOP := Lib.hid ok.o.2
 have HNUM := Lib.hid ok.u
 have hBw := hp.sz
 have HTb := Lib.hid hT
 have H0 := Lib.hid hp
 have HZ := Lib.hid hz
 have HR := Lib.hid hr
 replace ht : t = digL num := by rw [ht]; simp [txE, hz]
 have HT := Lib.hid ht
 have hL := hlen
 rw [ht] at hL
 unfold BP at hL
 clear ok hr ht hp hT hlen hz
 go_enter Tryd.func23, Tryd.ntmps23
 go_wp2_with (refine wpl_boxv rfl 56 (.tmp 1) rfl (some 3) rfl (cells := (cellsE 1 at_ (o : Int) (wd : Int) num nm A n c).toArray) rfl ?_)
 refine ⟨fun w1 b1 HK ho1 ha1 hb1 => ?_⟩
 have H01 := Lib.hid (H0.out.only ho1.out)
 have HKn : b1 ≠ b := H01.out.ne HK.out (by decide)
 have HO : Hid (Only (fun i => B ≤ i) w w1) := Lib.hid (ho1.out.mono (fun _ _ h => h.elim))
 clear ho1 H0
 have c0 : w1.cell? ⟨b1, 0, none⟩ = some (.int .i64 1) := cellB HK.out rfl
 go_upto_region 6 with (fail)
 refine rs (S := PS B b _ w1) H01.out.here ?_
 refine qs (uF fd_Expr_3) ?_
 refine qs (uC ctint fun W hW => cellB (hW.heap HK.out (by decide) HKn) rfl) ?_
 refine qs (uQ (r := false) (hr := (decide_eq_false (by have := HZ.out; omega)))) ?_
 refine ds fun u0 hU0 => ?_
 simp only [setT, sC, sZ]
 go_upto_region 8 with (fail)
 refine rs hU0 ?_
 refine qs uMp ?_
 refine qs (uF fd_Expr_4) ?_
 refine qs (uC ctuint64 fun W hW => cellB (hW.heap HK.out (by decide) HKn) rfl) ?_
 refine qs (uK (enter_p_FormatUint _) fun W hW => StrO.upP hW (fmtP_any num W (by have := HNUM.out; omega) (HTb.out.next (HO.out.trans hW.low) hBw).here)) ?_
 simp only [setT, sC, sZ]
 refine putS [(digL num)] (bs1 _) (by simp [BP]; omega) (fun _ => ?_)
 refine ds fun u1 hU1 => ?_
 simp only [setT, sC, sZ]
 go_wp2_with fail
 go_end0
 exact ⟨rfl, by rw [HT.out]; simpa using H01.out.trans hU1⟩
set_option maxRecDepth 100000 in
set_option maxHeartbeats 8000000 in
theorem fe_k1b {d : Nat} {B b : Nat} {l : LB} {w : World} {at_ op width : Int} {num : Nat} {nm : LB} {A : Option Addr} {n c : Nat} {T : Nat → LB × Int} {t : LB} (hT : Tabs B w) (hp : PS B b l w w) (ok : OkE 1 op width num nm n)
  (hr : Rw 56 7 w (Lo B) A n (fun cs t => PrE d w (Lo B) cs t.1 t.2) T) (ht : t = txE 1 op width num nm n (fun i => (T i).2) (fun i => (T i).1)) (hlen : l.length + t.length ≤ BP) (hz : width ≠ 0) :
  Calls Tryd.prog 23 #[.pointer (some ⟨b, 0, none⟩), .agg (cellsE 1 at_ op width num nm A n c).toArray] w (PrO B b (l ++ t) w) := by
 obtain ⟨wd, rfl⟩ := Int.eq_ofNat_of_zero_le ok.w.1
 obtain ⟨o, rfl⟩ := Int.eq_ofNat_of_zero_le ok.o.1
 have HWD := Lib.hid ok.w.2
 have HOP := Lib.hid ok.o.2
 have HNUM := Lib.hid ok.u
 have hBw := hp.sz
 have HTb := Lib.hid hT
 have H0 := Lib.hid hp
 have HZ := Lib.hid hz
 have HR := Lib.hid hr
 replace ht : t = digL wd ++ [39, 100] ++ digL num := by rw [ht]; unfold txE; rw [if_pos rfl, if_neg hz]; rfl
 have HT := Lib.hid ht
 have hL := hlen
 rw [ht] at hL
 simp only [List.length_append, List.length_cons, List.length_nil, BP] at hL
 clear ok hr ht hp hT hlen hz
 go_enter Tryd.func23, Tryd.ntmps23
 go_wp2_with (refine wpl_boxv rfl 56 (.tmp 1) rfl (some 3) rfl (cells := (cellsE 1 at_ (o : Int) (wd : Int) num nm A n c).toArray) rfl ?_)
 refine ⟨fun w1 b1 HK ho1 ha1 hb1 => ?_⟩
 have H01 := Lib.hid (H0.out.only ho1.out)
 have HKn : b1 ≠ b := H01.out.ne HK.out (by decide)
 have HO : Hid (Only (fun i => B ≤ i) w w1) := Lib.hid (ho1.out.mono (fun _ _ h => h.elim))
 clear ho1 H0
 have c0 : w1.cell? ⟨b1, 0, none⟩ = some (.int .i64 1) := cellB HK.out rfl
 go_upto_region 6 with (fail)
 refine rs (S := PS B b _ w1) H01.out.here ?_
 refine qs (uF fd_Expr_3) ?_
 refine qs (uC ctint fun W hW => cellB (hW.heap HK.out (by decide) HKn) rfl) ?_
 refine qs (uQ (r := true) (hr := (decide_eq_true (by have := HZ.out; omega)))) ?_
 refine ds fun u0 hU0 => ?_
 simp only [setT, sC, sZ]
 go_upto_region 7 with (fail)
 refine rs hU0 ?_
 refine qs uMp ?_
 refine qs (uF fd_Expr_3) ?_
 refine qs (uC ctint fun W hW => cellB (hW.heap HK.out (by decide) HKn) rfl) ?_
 refine qs (uK (enter_p_Itoa _) fun W hW => StrO.upP hW (itoaP_any wd W (by have := HWD.out; omega) (HTb.out.next (HO.out.trans hW.low) hBw).here)) ?_
 simp only [setT, sC, sZ]
 refine putS [(digL wd), [39, 100]] (bs2 _ _) (by simp [BP]; omega) (fun _ => ?_)
 refine ds fun u1 hU1 => ?_
 simp only [setT, sC, sZ]
 go_upto_region 8 with (fail)
 refine rs hU1 ?_
 refine qs uMp ?_
 refine qs (uF fd_Expr_4) ?_
 refine qs (uC ctuint64 fun W hW => cellB (hW.heap HK.out (by decide) HKn) rfl) ?_
 refine qs (uK (enter_p_FormatUint _) fun W hW => StrO.upP hW (fmtP_any num W (by have := HNUM.out; omega) (HTb.out.next (HO.out.trans hW.low) hBw).here)) ?_
 simp only [setT, sC, sZ]
 refine putS [(digL num)] (bs1 _) (by simp [BP]; omega) (fun _ => ?_)
 refine ds fun u2 hU2 => ?_
 simp only [setT, sC, sZ]
 go_wp2_with fail
 go_end0
 exact ⟨rfl, by rw [HT.out]; simpa using H01.out.trans hU2⟩
set_option maxRecDepth 100000 in
set_option maxHeartbeats 8000000 in
theorem fe_k2 {d : Nat} {B b : Nat} {l : LB} {w : World} {at_ op width : Int} {num : Nat} {nm : LB} {A : Option Addr} {n c : Nat} {T : Nat → LB × Int} {t : LB} (hT : Tabs B w) (hp : PS B b l w w) (ok : OkE 2 op width num nm n)
  (hr : Rw 56 7 w (Lo B) A n (fun cs t => PrE d w (Lo B) cs t.1 t.2) T) (ht : t = txE 2 op width num nm n (fun i => (T i).2) (fun i => (T i).1)) (hlen : l.length + t.length ≤ BP) :
  Calls Tryd.prog 23 #[.pointer (some ⟨b, 0, none⟩), .agg (cellsE 2 at_ op width num nm A n c).toArray] w (PrO B b (l ++ t) w) := by
 obtain ⟨wd, rfl⟩ := Int.eq_ofNat_of_zero_le ok.w.1
 obtain ⟨o, rfl⟩ := Int.eq_ofNat_of_zero_le ok.o.1
 have HWD := Lib.hid ok.w.2
 have HOP := Lib.hid ok.o.2
 have HNUM := Lib.hid ok.u
 have hBw := hp.sz
 have HTb := Lib.hid hT
 have H0 := Lib.hid hp
 have HR := Lib.hid hr
 replace ht : t = nm := ht
 have HT := Lib.hid ht
 have hL := hlen
 rw [ht] at hL
 unfold BP at hL
 clear ok hr ht hp hT hlen
 go_enter Tryd.func23, Tryd.ntmps23
 go_wp2_with (refine wpl_boxv rfl 56 (.tmp 1) rfl (some 3) rfl (cells := (cellsE 2 at_ (o : Int) (wd : Int) num nm A n c).toArray) rfl ?_)
 refine ⟨fun w1 b1 HK ho1 ha1 hb1 => ?_⟩
 have H01 := Lib.hid (H0.out.only ho1.out)
 have HKn : b1 ≠ b := H01.out.ne HK.out (by decide)
 have HO : Hid (Only (fun i => B ≤ i) w w1) := Lib.hid (ho1.out.mono (fun _ _ h => h.elim))
 clear ho1 H0
 have c0 : w1.cell? ⟨b1, 0, none⟩ = some (.int .i64 2) := cellB HK.out rfl
 go_upto_region 10 with (fail)
 refine rs (S := PS B b _ w1) H01.out.here ?_
 refine qs uMp ?_
 refine qs (uF fd_Expr_5) ?_
 refine qs (uC ctstring fun W hW => cellB (hW.heap HK.out (by decide) HKn) rfl) ?_
 refine putS [nm] (bs1 _) (by simp [BP]; omega) (fun _ => ?_)
 simp only [setT, sC, sZ]
 refine ds fun u0 hU0 => ?_
 go_wp2_with fail
 go_end0
 exact ⟨rfl, by rw [HT.out]; simpa using H01.out.trans hU0⟩
set_option maxRecDepth 100000 in
set_option maxHeartbeats 8000000 in
theorem fe_k3 {d : Nat} (IE : ExP d) {B b : Nat} {l : LB} {w : World} {at_ op width : Int} {num : Nat} {nm : LB} {A : Option Addr} {n c : Nat} {T : Nat → LB × Int} {t : LB} (hT : Tabs B w) (hp : PS B b l w w) (ok : OkE 3 op width num nm n)
  (hr : Rw 56 7 w (Lo B) A n (fun cs t => PrE d w (Lo B) cs t.1 t.2) T) (ht : t = txE 3 op width num nm n (fun i => (T i).2) (fun i => (T i).1)) (hlen : l.length + t.length ≤ BP) :
  Calls Tryd.prog 23 #[.pointer (some ⟨b, 0, none⟩), .agg (cellsE 3 at_ op width num nm A n c).toArray] w (PrO B b (l ++ t) w) := by
 obtain ⟨wd, rfl⟩ := Int.eq_ofNat_of_zero_le ok.w.1
 obtain ⟨o, rfl⟩ := Int.eq_ofNat_of_zero_le ok.o.1
 have HWD := Lib.hid ok.w.2
 have HOP := Lib.hid ok.o.2
 have HNUM := Lib.hid ok.u
 have hBw := hp.sz
 have HTb := Lib.hid hT
 have H0 := Lib.hid hp
 have hn : n = 1 := ok.a3 rfl
 obtain ⟨bA, oA, C, rfl, hpA, hrng, hel⟩ := hr.open_ (by omega)
 have hn1 : 1 ≤ n := by omega
 clear hn
 have HRng := Lib.hid hrng
 have HEl := Lib.hid hel
 clear hrng hel
 replace ht : t = nm ++ [91] ++ (T 0).1 ++ [93] := ht
 have HT := Lib.hid ht
 have hL := hlen
 rw [ht] at hL
 simp only [List.length_append, List.length_cons, List.length_nil, BP] at hL
 clear ok hr ht hp hT hlen
 go_enter Tryd.func23, Tryd.ntmps23
 go_wp2_with (refine wpl_boxv rfl 56 (.tmp 1) rfl (some 3) rfl (cells := (cellsE 3 at_ (o : Int) (wd : Int) num nm (some ⟨bA, oA, none⟩) n c).toArray) rfl ?_)
 refine ⟨fun w1 b1 HK ho1 ha1 hb1 => ?_⟩
 have H01 := Lib.hid (H0.out.only ho1.out)
 have HKn : b1 ≠ b := H01.out.ne HK.out (by decide)
 have HO : Hid (Only (fun i => B ≤ i) w w1) := Lib.hid (ho1.out.mono (fun _ _ h => h.elim))
 clear ho1 H0
 have c0 : w1.cell? ⟨b1, 0, none⟩ = some (.int .i64 3) := cellB HK.out rfl
 go_upto_region 13 with (fail)
 refine rs (S := PS B b _ w1) H01.out.here ?_
 refine qs uMp ?_
 refine qs (uF fd_Expr_5) ?_
 refine qs (uC ctstring fun W hW => cellB (hW.heap HK.out (by decide) HKn) rfl) ?_
 refine putS [nm, [91]] (bs2 _ _) (by simp [BP]; omega) (fun _ => ?_)
 simp only [setT, sC, sZ]
 refine ds fun u0 hU0 => ?_
 go_upto_region 14 with (fail)
 refine rs hU0 ?_
 refine qs uMp ?_
 refine qs (uF fd_Expr_6) ?_
 refine qs (uC ctS_Expr fun W hW => cellB (hW.heap HK.out (by decide) HKn) rfl) ?_
 refine qs (uI 0 euS_Expr ezS_Expr) ?_
 simp only [setT, sC, sZ]
 refine qs (uW stt_Expr (HEl.out 0 (by omega)).1 fun W hW => (HRng.out.at_ (HO.out.trans hW.low) (Nat.not_le.2 hpA) (show 0 < _ by omega))) ?_
 refine qs (uK (enter_p_expr _) fun W hW => PrO.up hW (IE B b _ W _ _ _ (HTb.out.next (HO.out.trans hW.low) hBw) hW.here ((HEl.out 0 (by omega)).2.only (HO.out.trans hW.low) (fun _ h h2 => absurd h (Nat.not_lt.2 h2))) (by simp [BP]; omega))) ?_
 refine ds fun u1 hU1 => ?_
 simp only [setT, sC, sZ]
 go_upto_region 15 with (fail)
 refine rs hU1 ?_
 refine qs (uF fd_Expr_0) ?_
 refine qs (uC ctint fun W hW => cellB (hW.heap HK.out (by decide) HKn) rfl) ?_
 refine qs (uE (r := false)) ?_
 refine ds fun u2 hU2 => ?_
 simp only [setT, sC, sZ]
 go_upto_region 18 with (fail)
 refine rs hU2 ?_
 refine qs uMp ?_
 refine putS [[93]] (bs1 _) (by simp [BP]; omega) (fun _ => ?_)
 refine ds fun u3 hU3 => ?_
 simp only [setT, sC, sZ]
 go_wp2_with fail
 go_end0
 exact ⟨rfl, by rw [HT.out]; simpa using H01.out.trans hU3⟩
set_option maxRecDepth 100000 in
set_option maxHeartbeats 8000000 in
theorem fe_k4 {d : Nat} (IE : ExP d) {B b : Nat} {l : LB} {w : World} {at_ op width : Int} {num : Nat} {nm : LB} {A : Option Addr} {n c : Nat} {T : Nat → LB × Int} {t : LB} (hT : Tabs B w) (hp : PS B b l w w) (ok : OkE 4 op width num nm n)
  (hr : Rw 56 7 w (Lo B) A n (fun cs t => PrE d w (Lo B) cs t.1 t.2) T) (ht : t = txE 4 op width num nm n (fun i => (T i).2) (fun i => (T i).1)) (hlen : l.length + t.length ≤ BP) :
  Calls Tryd.prog 23 #[.pointer (some ⟨b, 0, none⟩), .agg (cellsE 4 at_ op width num nm A n c).toArray] w (PrO B b (l ++ t) w) := by
 obtain ⟨wd, rfl⟩ := Int.eq_ofNat_of_zero_le ok.w.1
 obtain ⟨o, rfl⟩ := Int.eq_ofNat_of_zero_le ok.o.1
 have HWD := Lib.hid ok.w.2
 have HOP := Lib.hid ok.o.2
 have HNUM := Lib.hid ok.u
 have hBw := hp.sz
 have HTb := Lib.hid hT
 have H0 := Lib.hid hp
 have hn : n = 2 := ok.a4 rfl
 obtain ⟨bA, oA, C, rfl, hpA, hrng, hel⟩ := hr.open_ (by omega)
 have hn1 : 2 ≤ n := by omega
 clear hn
 have HRng := Lib.hid hrng
 have HEl := Lib.hid hel
 clear hrng hel
 replace ht : t = nm ++ [91] ++ (T 0).1 ++ [58] ++ (T 1).1 ++ [93] := ht
 have HT := Lib.hid ht
 have hL := hlen
 rw [ht] at hL
 simp only [List.length_append, List.length_cons, List.length_nil, BP] at hL
 clear ok hr ht hp hT hlen
 go_enter Tryd.func23, Tryd.ntmps23
 go_wp2_with (refine wpl_boxv rfl 56 (.tmp 1) rfl (some 3) rfl (cells := (cellsE 4 at_ (o : Int) (wd : Int) num nm (some ⟨bA, oA, none⟩) n c).toArray) rfl ?_)
 refine ⟨fun w1 b1 HK ho1 ha1 hb1 => ?_⟩
 have H01 := Lib.hid (H0.out.only ho1.out)
 have HKn : b1 ≠ b := H01.out.ne HK.out (by decide)
 have HO : Hid (Only (fun i => B ≤ i) w w1) := Lib.hid (ho1.out.mono (fun _ _ h => h.elim))
 clear ho1 H0
 have c0 : w1.cell? ⟨b1, 0, none⟩ = some (.int .i64 4) := cellB HK.out rfl
 go_upto_region 13 with (fail)
 refine rs (S := PS B b _ w1) H01.out.here ?_
 refine qs uMp ?_
 refine qs (uF fd_Expr_5) ?_
 refine qs (uC ctstring fun W hW => cellB (hW.heap HK.out (by decide) HKn) rfl) ?_
 refine putS [nm, [91]] (bs2 _ _) (by simp [BP]; omega) (fun _ => ?_)
 simp only [setT, sC, sZ]
 refine ds fun u0 hU0 => ?_
 go_upto_region 14 with (fail)
 refine rs hU0 ?_
 refine qs uMp ?_
 refine qs (uF fd_Expr_6) ?_
 refine qs (uC ctS_Expr fun W hW => cellB (hW.heap HK.out (by decide) HKn) rfl) ?_
 refine qs (uI 0 euS_Expr ezS_Expr) ?_
 simp only [setT, sC, sZ]
 refine qs (uW stt_Expr (HEl.out 0 (by omega)).1 fun W hW => (HRng.out.at_ (HO.out.trans hW.low) (Nat.not_le.2 hpA) (show 0 < _ by omega))) ?_
 refine qs (uK (enter_p_expr _) fun W hW => PrO.up hW (IE B b _ W _ _ _ (HTb.out.next (HO.out.trans hW.low) hBw) hW.here ((HEl.out 0 (by omega)).2.only (HO.out.trans hW.low) (fun _ h h2 => absurd h (Nat.not_lt.2 h2))) (by simp [BP]; omega))) ?_
 refine ds fun u1 hU1 => ?_
 simp only [setT, sC, sZ]
 go_upto_region 15 with (fail)
 refine rs hU1 ?_
 refine qs (uF fd_Expr_0) ?_
 refine qs (uC ctint fun W hW => cellB (hW.heap HK.out (by decide) HKn) rfl) ?_
 refine qs (uE (r := true)) ?_
 refine ds fun u2 hU2 => ?_
 simp only [setT, sC, sZ]
 go_upto_region 16 with (fail)
 refine rs hU2 ?_
 refine qs uMp ?_
 refine putS [[58]] (bs1 _) (by simp [BP]; omega) (fun _ => ?_)
 refine ds fun u3 hU3 => ?_
 simp only [setT, sC, sZ]
 go_upto_region 17 with (fail)
 refine rs hU3 ?_
 refine qs uMp ?_
 refine qs (uF fd_Expr_6) ?_
 refine qs (uC ctS_Expr fun W hW => cellB (hW.heap HK.out (by decide) HKn) rfl) ?_
 refine qs (uI 1 euS_Expr ezS_Expr) ?_
 simp only [setT, sC, sZ]
 refine qs (uW stt_Expr (HEl.out 1 (by omega)).1 fun W hW => (HRng.out.at_ (HO.out.trans hW.low) (Nat.not_le.2 hpA) (show 1 < _ by omega))) ?_
 refine qs (uK (enter_p_expr _) fun W hW => PrO.up hW (IE B b _ W _ _ _ (HTb.out.next (HO.out.trans hW.low) hBw) hW.here ((HEl.out 1 (by omega)).2.only (HO.out.trans hW.low) (fun _ h h2 => absurd h (Nat.not_lt.2 h2))) (by simp [BP]; omega))) ?_
 refine ds fun u4 hU4 => ?_
 simp only [setT, sC, sZ]
 go_upto_region 18 with (fail)
 refine rs hU4 ?_
 refine qs uMp ?_
 refine putS [[93]] (bs1 _) (by simp [BP]; omega) (fun _ => ?_)
 refine ds fun u5 hU5 => ?_
 simp only [setT, sC, sZ]
 go_wp2_with fail
 go_end0
 exact ⟨rfl, by rw [HT.out]; simpa using H01.out.trans hU5⟩
set_option maxRecDepth 100000 in
set_option maxHeartbeats 8000000 in
theorem fe_k5 {d : Nat} (IO : OpP d) {B b : Nat} {l : LB} {w : World} {at_ op width : Int} {num : Nat} {nm : LB} {A : Option Addr} {n c : Nat} {T : Nat → LB × Int} {t : LB} (hT : Tabs B w) (hp : PS B b l w w) (ok : OkE 5 op width num nm n)
  (hr : Rw 56 7 w (Lo B) A n (fun cs t => PrE d w (Lo B) cs t.1 t.2) T) (ht : t = txE 5 op width num nm n (fun i => (T i).2) (fun i => (T i).1)) (hlen : l.length + t.length ≤ BP) :
  Calls Tryd.prog 23 #[.pointer (some ⟨b, 0, none⟩), .agg (cellsE 5 at_ op width num nm A n c).toArray] w (PrO B b (l ++ t) w) := by
 obtain ⟨wd, rfl⟩ := Int.eq_ofNat_of_zero_le ok.w.1
 obtain ⟨o, rfl⟩ := Int.eq_ofNat_of_zero_le ok.o.1
 have HWD := Lib.hid ok.w.2
 have HOP := Lib.hid ok.o.2
 have HNUM := Lib.hid ok.u
 have hBw := hp.sz
 have HTb := Lib.hid hT
 have H0 := Lib.hid hp
 have hn : n = 1 := ok.a5 rfl
 obtain ⟨bA, oA, C, rfl, hpA, hrng, hel⟩ := hr.open_ (by omega)
 have hn1 : 1 ≤ n := by omega
 clear hn
 have HRng := Lib.hid hrng
 have HEl := Lib.hid hel
 clear hrng hel
 replace ht : t = sgnL (o : Int) ++ innL (T 0).2 (T 0).1 := ht
 have HT := Lib.hid ht
 have hL := hlen
 rw [ht] at hL
 simp only [List.length_append, BP] at hL
 clear ok hr ht hp hT hlen
 go_enter Tryd.func23, Tryd.ntmps23
 go_wp2_with (refine wpl_boxv rfl 56 (.tmp 1) rfl (some 3) rfl (cells := (cellsE 5 at_ (o : Int) (wd : Int) num nm (some ⟨bA, oA, none⟩) n c).toArray) rfl ?_)
 refine ⟨fun w1 b1 HK ho1 ha1 hb1 => ?_⟩
 have H01 := Lib.hid (H0.out.only ho1.out)
 have HKn : b1 ≠ b := H01.out.ne HK.out (by decide)
 have HO : Hid (Only (fun i => B ≤ i) w w1) := Lib.hid (ho1.out.mono (fun _ _ h => h.elim))
 clear ho1 H0
 have c0 : w1.cell? ⟨b1, 0, none⟩ = some (.int .i64 5) := cellB HK.out rfl
 go_upto_region 20 with (fail)
 refine rs (S := PS B b _ w1) H01.out.here ?_
 refine qs uMp ?_
 refine qs (uF fd_Expr_2) ?_
 refine qs (uC ctint fun W hW => cellB (hW.heap HK.out (by decide) HKn) rfl) ?_
 refine qs (uG (m := o) o eaSigns ezSigns (by rw [elSigns]; have := HOP.out; omega)) ?_
 simp only [setT, sC, sZ]
 refine qs (uC ctstring fun W hW => (HTb.out.next (HO.out.trans hW.low) hBw).sg o (by have := HOP.out; omega)) ?_
 refine putS [(sgnL (o : Int))] (bs1 _) (by simp [BP]; omega) (fun _ => ?_)
 refine ds fun u0 hU0 => ?_
 simp only [setT, sC, sZ]
 go_upto_region 21 with (fail)
 refine rs hU0 ?_
 refine qs uMp ?_
 refine qs (uF fd_Expr_6) ?_
 refine qs (uC ctS_Expr fun W hW => cellB (hW.heap HK.out (by decide) HKn) rfl) ?_
 refine qs (uI 0 euS_Expr ezS_Expr) ?_
 simp only [setT, sC, sZ]
 refine qs (uW stt_Expr (HEl.out 0 (by omega)).1 fun W hW => (HRng.out.at_ (HO.out.trans hW.low) (Nat.not_le.2 hpA) (show 0 < _ by omega))) ?_
 refine qs (uK (enter_p_operand _) fun W hW => PrO.up hW (IO B b _ W _ _ _ (HTb.out.next (HO.out.trans hW.low) hBw) hW.here ((HEl.out 0 (by omega)).2.only (HO.out.trans hW.low) (fun _ h h2 => absurd h (Nat.not_lt.2 h2))) (by simp [BP]; omega))) ?_
 refine ds fun u1 hU1 => ?_
 simp only [setT, sC, sZ]
 go_wp2_with fail
 go_end0
 exact ⟨rfl, by rw [HT.out]; simpa using H01.out.trans hU1⟩
set_option maxRecDepth 100000 in
set_option maxHeartbeats 8000000 in
theorem fe_k6 {d : Nat} (IO : OpP d) {B b : Nat} {l : LB} {w : World} {at_ op width : Int} {num : Nat} {nm : LB} {A : Option Addr} {n c : Nat} {T : Nat → LB × Int} {t : LB} (hT : Tabs B w) (hp : PS B b l w w) (ok : OkE 6 op width num nm n)
  (hr : Rw 56 7 w (Lo B) A n (fun cs t => PrE d w (Lo B) cs t.1 t.2) T) (ht : t = txE 6 op width num nm n (fun i => (T i).2) (fun i => (T i).1)) (hlen : l.length + t.length ≤ BP) :
  Calls Tryd.prog 23 #[.pointer (some ⟨b, 0, none⟩), .agg (cellsE 6 at_ op width num nm A n c).toArray] w (PrO B b (l ++ t) w) := by
 obtain ⟨wd, rfl⟩ := Int.eq_ofNat_of_zero_le ok.w.1
 obtain ⟨o, rfl⟩ := Int.eq_ofNat_of_zero_le ok.o.1
 have HWD := Lib.hid ok.w.2
 have HOP := Lib.hid ok.o.2
 have HNUM := Lib.hid ok.u
 have hBw := hp.sz
 have HTb := Lib.hid hT
 have H0 := Lib.hid hp
 have hn : n = 2 := ok.a6 rfl
 obtain ⟨bA, oA, C, rfl, hpA, hrng, hel⟩ := hr.open_ (by omega)
 have hn1 : 2 ≤ n := by omega
 clear hn
 have HRng := Lib.hid hrng
 have HEl := Lib.hid hel
 clear hrng hel
 replace ht : t = innL (T 0).2 (T 0).1 ++ [32] ++ sgnL (o : Int) ++ [32] ++ innL (T 1).2 (T 1).1 := ht
 have HT := Lib.hid ht
 have hL := hlen
 rw [ht] at hL
 simp only [List.length_append, List.length_cons, List.length_nil, BP] at hL
 clear ok hr ht hp hT hlen
 go_enter Tryd.func23, Tryd.ntmps23
 go_wp2_with (refine wpl_boxv rfl 56 (.tmp 1) rfl (some 3) rfl (cells := (cellsE 6 at_ (o : Int) (wd : Int) num nm (some ⟨bA, oA, none⟩) n c).toArray) rfl ?_)
 refine ⟨fun w1 b1 HK ho1 ha1 hb1 => ?_⟩
 have H01 := Lib.hid (H0.out.only ho1.out)
 have HKn : b1 ≠ b := H01.out.ne HK.out (by decide)
 have HO : Hid (Only (fun i => B ≤ i) w w1) := Lib.hid (ho1.out.mono (fun _ _ h => h.elim))
 clear ho1 H0
 have c0 : w1.cell? ⟨b1, 0, none⟩ = some (.int .i64 6) := cellB HK.out rfl
 go_upto_region 23 with (fail)
 refine rs (S := PS B b _ w1) H01.out.here ?_
 refine qs uMp ?_
 refine qs (uF fd_Expr_6) ?_
 refine qs (uC ctS_Expr fun W hW => cellB (hW.heap HK.out (by decide) HKn) rfl) ?_
 refine qs (uI 0 euS_Expr ezS_Expr) ?_
 simp only [setT, sC, sZ]
 refine qs (uW stt_Expr (HEl.out 0 (by omega)).1 fun W hW => (HRng.out.at_ (HO.out.trans hW.low) (Nat.not_le.2 hpA) (show 0 < _ by omega))) ?_
 refine qs (uK (enter_p_operand _) fun W hW => PrO.up hW (IO B b _ W _ _ _ (HTb.out.next (HO.out.trans hW.low) hBw) hW.here ((HEl.out 0 (by omega)).2.only (HO.out.trans hW.low) (fun _ h h2 => absurd h (Nat.not_lt.2 h2))) (by simp [BP]; omega))) ?_
 refine ds fun u0 hU0 => ?_
 simp only [setT, sC, sZ]
 go_upto_region 24 with (fail)
 refine rs hU0 ?_
 refine qs uMp ?_
 refine qs (uF fd_Expr_2) ?_
 refine qs (uC ctint fun W hW => cellB (hW.heap HK.out (by decide) HKn) rfl) ?_
 refine qs (uG (m := o) o eaSigns ezSigns (by rw [elSigns]; have := HOP.out; omega)) ?_
 simp only [setT, sC, sZ]
 refine qs (uC ctstring fun W hW => (HTb.out.next (HO.out.trans hW.low) hBw).sg o (by have := HOP.out; omega)) ?_
 refine putS [[32], (sgnL (o : Int)), [32]] (bs3 _ _ _) (by simp [BP]; omega) (fun _ => ?_)
 refine ds fun u1 hU1 => ?_
 simp only [setT, sC, sZ]
 go_upto_region 25 with (fail)
 refine rs hU1 ?_
 refine qs uMp ?_
 refine qs (uF fd_Expr_6) ?_
 refine qs (uC ctS_Expr fun W hW => cellB (hW.heap HK.out (by decide) HKn) rfl) ?_
 refine qs (uI 1 euS_Expr ezS_Expr) ?_
 simp only [setT, sC, sZ]
 refine qs (uW stt_Expr (HEl.out 1 (by omega)).1 fun W hW => (HRng.out.at_ (HO.out.trans hW.low) (Nat.not_le.2 hpA) (show 1 < _ by omega))) ?_
 refine qs (uK (enter_p_operand _) fun W hW => PrO.up hW (IO B b _ W _ _ _ (HTb.out.next (HO.out.trans hW.low) hBw) hW.here ((HEl.out 1 (by omega)).2.only (HO.out.trans hW.low) (fun _ h h2 => absurd h (Nat.not_lt.2 h2))) (by simp [BP]; omega))) ?_
 refine ds fun u2 hU2 => ?_
 simp only [setT, sC, sZ]
 go_wp2_with fail
 go_end0
 exact ⟨rfl, by rw [HT.out]; simpa using H01.out.trans hU2⟩
set_option maxRecDepth 100000 in
set_option maxHeartbeats 8000000 in
theorem fe_k7 {d : Nat} (IO : OpP d) {B b : Nat} {l : LB} {w : World} {at_ op width : Int} {num : Nat} {nm : LB} {A : Option Addr} {n c : Nat} {T : Nat → LB × Int} {t : LB} (hT : Tabs B w) (hp : PS B b l w w) (ok : OkE 7 op width num nm n)
  (hr : Rw 56 7 w (Lo B) A n (fun cs t => PrE d w (Lo B) cs t.1 t.2) T) (ht : t = txE 7 op width num nm n (fun i => (T i).2) (fun i => (T i).1)) (hlen : l.length + t.length ≤ BP) :
  Calls Tryd.prog 23 #[.pointer (some ⟨b, 0, none⟩), .agg (cellsE 7 at_ op width num nm A n c).toArray] w (PrO B b (l ++ t) w) := by
 obtain ⟨wd, rfl⟩ := Int.eq_ofNat_of_zero_le ok.w.1
 obtain ⟨o, rfl⟩ := Int.eq_ofNat_of_zero_le ok.o.1
 have HWD := Lib.hid ok.w.2
 have HOP := Lib.hid ok.o.2
 have HNUM := Lib.hid ok.u
 have hBw := hp.sz
 have HTb := Lib.hid hT
 have H0 := Lib.hid hp
 have hn : n = 3 := ok.a7 rfl
 obtain ⟨bA, oA, C, rfl, hpA, hrng, hel⟩ := hr.open_ (by omega)
 have hn1 : 3 ≤ n := by omega
 clear hn
 have HRng := Lib.hid hrng
 have HEl := Lib.hid hel
 clear hrng hel
 replace ht : t = innL (T 0).2 (T 0).1 ++ [32, 63, 32] ++ innL (T 1).2 (T 1).1 ++ [32, 58, 32] ++ innL (T 2).2 (T 2).1 := ht
 have HT := Lib.hid ht
 have hL := hlen
 rw [ht] at hL
 simp only [List.length_append, List.length_cons, List.length_nil, BP] at hL
 clear ok hr ht hp hT hlen
 go_enter Tryd.func23, Tryd.ntmps23
 go_wp2_with (refine wpl_boxv rfl 56 (.tmp 1) rfl (some 3) rfl (cells := (cellsE 7 at_ (o : Int) (wd : Int) num nm (some ⟨bA, oA, none⟩) n c).toArray) rfl ?_)
 refine ⟨fun w1 b1 HK ho1 ha1 hb1 => ?_⟩
 have H01 := Lib.hid (H0.out.only ho1.out)
 have HKn : b1 ≠ b := H01.out.ne HK.out (by decide)
 have HO : Hid (Only (fun i => B ≤ i) w w1) := Lib.hid (ho1.out.mono (fun _ _ h => h.elim))
 clear ho1 H0
 have c0 : w1.cell? ⟨b1, 0, none⟩ = some (.int .i64 7) := cellB HK.out rfl
 go_upto_region 27 with (fail)
 refine rs (S := PS B b _ w1) H01.out.here ?_
 refine qs uMp ?_
 refine qs (uF fd_Expr_6) ?_
 refine qs (uC ctS_Expr fun W hW => cellB (hW.heap HK.out (by decide) HKn) rfl) ?_
 refine qs (uI 0 euS_Expr ezS_Expr) ?_
 simp only [setT, sC, sZ]
 refine qs (uW stt_Expr (HEl.out 0 (by omega)).1 fun W hW => (HRng.out.at_ (HO.out.trans hW.low) (Nat.not_le.2 hpA) (show 0 < _ by omega))) ?_
 refine qs (uK (enter_p_operand _) fun W hW => PrO.up hW (IO B b _ W _ _ _ (HTb.out.next (HO.out.trans hW.low) hBw) hW.here ((HEl.out 0 (by omega)).2.only (HO.out.trans hW.low) (fun _ h h2 => absurd h (Nat.not_lt.2 h2))) (by simp [BP]; omega))) ?_
 refine ds fun u0 hU0 => ?_
 simp only [setT, sC, sZ]
 go_upto_region 28 with (fail)
 refine rs hU0 ?_
 refine qs uMp ?_
 refine putS [[32, 63, 32]] (bs1 _) (by simp [BP]; omega) (fun _ => ?_)
 refine ds fun u1 hU1 => ?_
 simp only [setT, sC, sZ]
 go_upto_region 29 with (fail)
 refine rs hU1 ?_
 refine qs uMp ?_
 refine qs (uF fd_Expr_6) ?_
 refine qs (uC ctS_Expr fun W hW => cellB (hW.heap HK.out (by decide) HKn) rfl) ?_
 refine qs (uI 1 euS_Expr ezS_Expr) ?_
 simp only [setT, sC, sZ]
 refine qs (uW stt_Expr (HEl.out 1 (by omega)).1 fun W hW => (HRng.out.at_ (HO.out.trans hW.low) (Nat.not_le.2 hpA) (show 1 < _ by omega))) ?_
 refine qs (uK (enter_p_operand _) fun W hW => PrO.up hW (IO B b _ W _ _ _ (HTb.out.next (HO.out.trans hW.low) hBw) hW.here ((HEl.out 1 (by omega)).2.only (HO.out.trans hW.low) (fun _ h h2 => absurd h (Nat.not_lt.2 h2))) (by simp [BP]; omega))) ?_
 refine ds fun u2 hU2 => ?_
 simp only [setT, sC, sZ]
 go_upto_region 30 with (fail)
 refine rs hU2 ?_
 refine qs uMp ?_
 refine putS [[32, 58, 32]] (bs1 _) (by simp [BP]; omega) (fun _ => ?_)
 refine ds fun u3 hU3 => ?_
 simp only [setT, sC, sZ]
 go_upto_region 31 with (fail)
 refine rs hU3 ?_
 refine qs uMp ?_
 refine qs (uF fd_Expr_6) ?_
 refine qs (uC ctS_Expr fun W hW => cellB (hW.heap HK.out (by decide) HKn) rfl) ?_
 refine qs (uI 2 euS_Expr ezS_Expr) ?_
 simp only [setT, sC, sZ]
 refine qs (uW stt_Expr (HEl.out 2 (by omega)).1 fun W hW => (HRng.out.at_ (HO.out.trans hW.low) (Nat.not_le.2 hpA) (show 2 < _ by omega))) ?_
 refine qs (uK (enter_p_operand _) fun W hW => PrO.up hW (IO B b _ W _ _ _ (HTb.out.next (HO.out.trans hW.low) hBw) hW.here ((HEl.out 2 (by omega)).2.only (HO.out.trans hW.low) (fun _ h h2 => absurd h (Nat.not_lt.2 h2))) (by simp [BP]; omega))) ?_
 refine ds fun u4 hU4 => ?_
 simp only [setT, sC, sZ]
 go_wp2_with fail
 go_end0
 exact ⟨rfl, by rw [HT.out]; simpa using H01.out.trans hU4⟩
set_option maxRecDepth 100000 in
set_option maxHeartbeats 8000000 in
theorem fe_k9 {d : Nat} (IE : ExP d) {B b : Nat} {l : LB} {w : World} {at_ op width : Int} {num : Nat} {nm : LB} {A : Option Addr} {n c : Nat} {T : Nat → LB × Int} {t : LB} (hT : Tabs B w) (hp : PS B b l w w) (ok : OkE 9 op width num nm n)
  (hr : Rw 56 7 w (Lo B) A n (fun cs t => PrE d w (Lo B) cs t.1 t.2) T) (ht : t = txE 9 op width num nm n (fun i => (T i).2) (fun i => (T i).1)) (hlen : l.length + t.length ≤ BP) :
  Calls Tryd.prog 23 #[.pointer (some ⟨b, 0, none⟩), .agg (cellsE 9 at_ op width num nm A n c).toArray] w (PrO B b (l ++ t) w) := by
 obtain ⟨wd, rfl⟩ := Int.eq_ofNat_of_zero_le ok.w.1
 obtain ⟨o, rfl⟩ := Int.eq_ofNat_of_zero_le ok.o.1
 have HWD := Lib.hid ok.w.2
 have HOP := Lib.hid ok.o.2
 have HNUM := Lib.hid ok.u
 have hBw := hp.sz
 have HTb := Lib.hid hT
 have H0 := Lib.hid hp
 have hn : n = 2 := ok.a9 rfl
 obtain ⟨bA, oA, C, rfl, hpA, hrng, hel⟩ := hr.open_ (by omega)
 have hn1 : 2 ≤ n := by omega
 clear hn
 have HRng := Lib.hid hrng
 have HEl := Lib.hid hel
 clear hrng hel
 replace ht : t = [123] ++ (T 0).1 ++ (T 1).1 ++ [125] := ht
 have HT := Lib.hid ht
 have hL := hlen
 rw [ht] at hL
 simp only [List.length_append, List.length_cons, List.length_nil, BP] at hL
 clear ok hr ht hp hT hlen
 go_enter Tryd.func23, Tryd.ntmps23
 go_wp2_with (refine wpl_boxv rfl 56 (.tmp 1) rfl (some 3) rfl (cells := (cellsE 9 at_ (o : Int) (wd : Int) num nm (some ⟨bA, oA, none⟩) n c).toArray) rfl ?_)
 refine ⟨fun w1 b1 HK ho1 ha1 hb1 => ?_⟩
 have H01 := Lib.hid (H0.out.only ho1.out)
 have HKn : b1 ≠ b := H01.out.ne HK.out (by decide)
 have HO : Hid (Only (fun i => B ≤ i) w w1) := Lib.hid (ho1.out.mono (fun _ _ h => h.elim))
 clear ho1 H0
 have c0 : w1.cell? ⟨b1, 0, none⟩ = some (.int .i64 9) := cellB HK.out rfl
 go_upto_region 33 with (fail)
 refine rs (S := PS B b _ w1) H01.out.here ?_
 refine qs uMp ?_
 refine putS [[123]] (bs1 _) (by simp [BP]; omega) (fun _ => ?_)
 refine ds fun u0 hU0 => ?_
 simp only [setT, sC, sZ]
 go_upto_region 34 with (fail)
 refine rs hU0 ?_
 refine qs uMp ?_
 refine qs (uF fd_Expr_6) ?_
 refine qs (uC ctS_Expr fun W hW => cellB (hW.heap HK.out (by decide) HKn) rfl) ?_
 refine qs (uI 0 euS_Expr ezS_Expr) ?_
 simp only [setT, sC, sZ]
 refine qs (uW stt_Expr (HEl.out 0 (by omega)).1 fun W hW => (HRng.out.at_ (HO.out.trans hW.low) (Nat.not_le.2 hpA) (show 0 < _ by omega))) ?_
 refine qs (uK (enter_p_expr _) fun W hW => PrO.up hW (IE B b _ W _ _ _ (HTb.out.next (HO.out.trans hW.low) hBw) hW.here ((HEl.out 0 (by omega)).2.only (HO.out.trans hW.low) (fun _ h h2 => absurd h (Nat.not_lt.2 h2))) (by simp [BP]; omega))) ?_
 refine ds fun u1 hU1 => ?_
 simp only [setT, sC, sZ]
 go_upto_region 35 with (fail)
 refine rs hU1 ?_
 refine qs uMp ?_
 refine qs (uF fd_Expr_6) ?_
 refine qs (uC ctS_Expr fun W hW => cellB (hW.heap HK.out (by decide) HKn) rfl) ?_
 refine qs (uI 1 euS_Expr ezS_Expr) ?_
 simp only [setT, sC, sZ]
 refine qs (uW stt_Expr (HEl.out 1 (by omega)).1 fun W hW => (HRng.out.at_ (HO.out.trans hW.low) (Nat.not_le.2 hpA) (show 1 < _ by omega))) ?_
 refine qs (uK (enter_p_expr _) fun W hW => PrO.up hW (IE B b _ W _ _ _ (HTb.out.next (HO.out.trans hW.low) hBw) hW.here ((HEl.out 1 (by omega)).2.only (HO.out.trans hW.low) (fun _ h h2 => absurd h (Nat.not_lt.2 h2))) (by simp [BP]; omega))) ?_
 refine ds fun u2 hU2 => ?_
 simp only [setT, sC, sZ]
 go_upto_region 36 with (fail)
 refine rs hU2 ?_
 refine qs uMp ?_
 refine putS [[125]] (bs1 _) (by simp [BP]; omega) (fun _ => ?_)
 refine ds fun u3 hU3 => ?_
 simp only [setT, sC, sZ]
 go_wp2_with fail
 go_end0
 exact ⟨rfl, by rw [HT.out]; simpa using H01.out.trans hU3⟩
set_option maxRecDepth 100000 in
set_option maxHeartbeats 8000000 in
theorem fe_k0 {d : Nat} (IL : LiP d) {B b : Nat} {l : LB} {w : World} {at_ op width : Int} {num : Nat} {nm : LB} {A : Option Addr} {n c : Nat} {T : Nat → LB × Int} {t : LB} (hT : Tabs B w) (hp : PS B b l w w) (ok : OkE 0 op width num nm n)
  (hr : Rw 56 7 w (Lo B) A n (fun cs t => PrE d w (Lo B) cs t.1 t.2) T) (ht : t = txE 0 op width num nm n (fun i => (T i).2) (fun i => (T i).1)) (hlen : l.length + t.length ≤ BP) :
  Calls Tryd.prog 23 #[.pointer (some ⟨b, 0, none⟩), .agg (cellsE 0 at_ op width num nm A n c).toArray] w (PrO B b (l ++ t) w) := by
 obtain ⟨wd, rfl⟩ := Int.eq_ofNat_of_zero_le ok.w.1
 obtain ⟨o, rfl⟩ := Int.eq_ofNat_of_zero_le ok.o.1
 have HWD := Lib.hid ok.w.2
 have HOP := Lib.hid ok.o.2
 have HNUM := Lib.hid ok.u
 have hBw := hp.sz
 have HTb := Lib.hid hT
 have H0 := Lib.hid hp
 have HR := Lib.hid hr
 replace ht : t = [123] ++ comL (fun i => (T i).1) n ++ [125] := ht
 have HT := Lib.hid ht
 have hL := hlen
 rw [ht] at hL
 simp only [List.length_append, List.length_cons, List.length_nil, BP] at hL
 clear ok hr ht hp hT hlen
 go_enter Tryd.func23, Tryd.ntmps23
 go_wp2_with (refine wpl_boxv rfl 56 (.tmp 1) rfl (some 3) rfl (cells := (cellsE 0 at_ (o : Int) (wd : Int) num nm A n c).toArray) rfl ?_)
 refine ⟨fun w1 b1 HK ho1 ha1 hb1 => ?_⟩
 have H01 := Lib.hid (H0.out.only ho1.out)
 have HKn : b1 ≠ b := H01.out.ne HK.out (by decide)
 have HO : Hid (Only (fun i => B ≤ i) w w1) := Lib.hid (ho1.out.mono (fun _ _ h => h.elim))
 clear ho1 H0
 have c0 : w1.cell? ⟨b1, 0, none⟩ = some (.int .i64 0) := cellB HK.out rfl
 go_upto_region 2 with (fail)
 refine rs (S := PS B b _ w1) H01.out.here ?_
 refine qs uMp ?_
 refine putS [[123]] (bs1 _) (by simp [BP]; omega) (fun _ => ?_)
 refine ds fun u0 hU0 => ?_
 simp only [setT, sC, sZ]
 go_upto_region 3 with (fail)
 refine rs hU0 ?_
 refine qs uMp ?_
 refine qs (uF fd_Expr_6) ?_
 refine qs (uC ctS_Expr fun W hW => cellB (hW.heap HK.out (by decide) HKn) rfl) ?_
 refine qs (uK (enter_p_list _) fun W hW => PrO.up hW (IL B b _ W _ _ _ _ (HTb.out.next (HO.out.trans hW.low) hBw) hW.here (ExL.only HR.out (HO.out.trans hW.low) (fun _ h h2 => absurd h (Nat.not_lt.2 h2))) (by simp [BP]; omega))) ?_
 simp only [setT, sC, sZ]
 refine ds fun u1 hU1 => ?_
 go_upto_region 4 with (fail)
 refine rs hU1 ?_
 refine qs uMp ?_
 refine putS [[125]] (bs1 _) (by simp [BP]; omega) (fun _ => ?_)
 refine ds fun u2 hU2 => ?_
 simp only [setT, sC, sZ]
 go_wp2_with fail
 go_end0
 exact ⟨rfl, by rw [HT.out]; simpa using H01.out.trans hU2⟩
set_option maxRecDepth 100000 in
set_option maxHeartbeats 8000000 in
theorem fe_k8 {d : Nat} (IL : LiP d) {B b : Nat} {l : LB} {w : World} {at_ op width : Int} {num : Nat} {nm : LB} {A : Option Addr} {n c : Nat} {T : Nat → LB × Int} {t : LB} (hT : Tabs B w) (hp : PS B b l w w) (ok : OkE 8 op width num nm n)
  (hr : Rw 56 7 w (Lo B) A n (fun cs t => PrE d w (Lo B) cs t.1 t.2) T) (ht : t = txE 8 op width num nm n (fun i => (T i).2) (fun i => (T i).1)) (hlen : l.length + t.length ≤ BP) :
  Calls Tryd.prog 23 #[.pointer (some ⟨b, 0, none⟩), .agg (cellsE 8 at_ op width num nm A n c).toArray] w (PrO B b (l ++ t) w) := by
 obtain ⟨wd, rfl⟩ := Int.eq_ofNat_of_zero_le ok.w.1
 obtain ⟨o, rfl⟩ := Int.eq_ofNat_of_zero_le ok.o.1
 have HWD := Lib.hid ok.w.2
 have HOP := Lib.hid ok.o.2
 have HNUM := Lib.hid ok.u
 have hBw := hp.sz
 have HTb := Lib.hid hT
 have H0 := Lib.hid hp
 have HR := Lib.hid hr
 replace ht : t = [123] ++ comL (fun i => (T i).1) n ++ [125] := ht
 have HT := Lib.hid ht
 have hL := hlen
 rw [ht] at hL
 simp only [List.length_append, List.length_cons, List.length_nil, BP] at hL
 clear ok hr ht hp hT hlen
 go_enter Tryd.func23, Tryd.ntmps23
 go_wp2_with (refine wpl_boxv rfl 56 (.tmp 1) rfl (some 3) rfl (cells := (cellsE 8 at_ (o : Int) (wd : Int) num nm A n c).toArray) rfl ?_)
 refine ⟨fun w1 b1 HK ho1 ha1 hb1 => ?_⟩
 have H01 := Lib.hid (H0.out.only ho1.out)
 have HKn : b1 ≠ b := H01.out.ne HK.out (by decide)
 have HO : Hid (Only (fun i => B ≤ i) w w1) := Lib.hid (ho1.out.mono (fun _ _ h => h.elim))
 clear ho1 H0
 have c0 : w1.cell? ⟨b1, 0, none⟩ = some (.int .i64 8) := cellB HK.out rfl
 go_upto_region 2 with (fail)
 refine rs (S := PS B b _ w1) H01.out.here ?_
 refine qs uMp ?_
 refine putS [[123]] (bs1 _) (by simp [BP]; omega) (fun _ => ?_)
 refine ds fun u0 hU0 => ?_
 simp only [setT, sC, sZ]
 go_upto_region 3 with (fail)
 refine rs hU0 ?_
 refine qs uMp ?_
 refine qs (uF fd_Expr_6) ?_
 refine qs (uC ctS_Expr fun W hW => cellB (hW.heap HK.out (by decide) HKn) rfl) ?_
 refine qs (uK (enter_p_list _) fun W hW => PrO.up hW (IL B b _ W _ _ _ _ (HTb.out.next (HO.out.trans hW.low) hBw) hW.here (ExL.only HR.out (HO.out.trans hW.low) (fun _ h h2 => absurd h (Nat.not_lt.2 h2))) (by simp [BP]; omega))) ?_
 simp only [setT, sC, sZ]
 refine ds fun u1 hU1 => ?_
 go_upto_region 4 with (fail)
 refine rs hU1 ?_
 refine qs uMp ?_
 refine putS [[125]] (bs1 _) (by simp [BP]; omega) (fun _ => ?_)
 refine ds fun u2 hU2 => ?_
 simp only [setT, sC, sZ]
 go_wp2_with fail
 go_end0
 exact ⟨rfl, by rw [HT.out]; simpa using H01.out.trans hU2⟩
theorem fe_succ {d : Nat} (IE : ExP d) (IO : OpP d) (IL : LiP d) : ExP (d + 1) := by
 intro B b l w cs t k hT hp ⟨at_, op, width, num, nm, A, n, c, T, e, ok, hr, ht⟩ hl
 subst e
 have hk : k = 0 ∨ k = 1 ∨ k = 2 ∨ k = 3 ∨ k = 4 ∨ k = 5 ∨ k = 6 ∨ k = 7 ∨ k = 8 ∨ k = 9 := by have := ok.k; omega
 rcases hk with rfl | rfl | rfl | rfl | rfl | rfl | rfl | rfl | rfl | rfl
 ·
  exact fe_k0 IL hT hp ok hr ht hl
 ·
  by_cases hz : width = 0
  ·
   exact fe_k1a hT hp ok hr ht hl hz
  ·
   exact fe_k1b hT hp ok hr ht hl hz
 ·
  exact fe_k2 hT hp ok hr ht hl
 ·
  exact fe_k3 IE hT hp ok hr ht hl
 ·
  exact fe_k4 IE hT hp ok hr ht hl
 ·
  exact fe_k5 IO hT hp ok hr ht hl
 ·
  exact fe_k6 IO hT hp ok hr ht hl
 ·
  exact fe_k7 IO hT hp ok hr ht hl
 ·
  exact fe_k8 IL hT hp ok hr ht hl
 ·
  exact fe_k9 IE hT hp ok hr ht hl
set_option maxRecDepth 100000 in
set_option maxHeartbeats 8000000 in
theorem fo_op {d : Nat} (IE : ExP d) {B b : Nat} {l : LB} {w : World} {cs : List Value} {t : LB} {k : Int} (hT : Tabs B w) (hp : PS B b l w w) (h : PrE d w (Lo B) cs t k) (hk : k = 5 ∨ k = 6 ∨ k = 7) (hlen : l.length + (innL k t).length ≤ BP) :
  Calls Tryd.prog 42 #[.pointer (some ⟨b, 0, none⟩), .agg cs.toArray] w (PrO B b (l ++ innL k t) w) := by
 have hI : innL k t = [40] ++ t ++ [41] := if_pos hk
 rw [hI] at hlen ⊢
 simp only [List.length_append, List.length_cons, List.length_nil, BP] at hlen
 clear hI
 have h7 := h.len
 have HP := Lib.hid h
 obtain ⟨x0, h0⟩ : ∃ x : List Value, cs = .int .i64 k :: x := by
  match d, h with
  | d + 1, ⟨a1, a2, a3, a4, a5, a6, a7, a8, a9, e, _⟩ => exact ⟨_, e⟩
 have HC0 := Lib.hid h0
 have H7 := Lib.hid h7
 have hBw := hp.sz
 have HTb := Lib.hid hT
 have H0 := Lib.hid hp
 clear h h0 h7 hp hT
 go_enter Tryd.func42, Tryd.ntmps42
 go_wp2_with (refine wpl_boxv rfl 56 (.tmp 1) rfl (some 3) rfl (cells := cs.toArray) rfl ?_)
 refine ⟨fun w1 b1 HK ho1 ha1 hb1 => ?_⟩
 have H01 := Lib.hid (H0.out.only ho1.out)
 have HKn : b1 ≠ b := H01.out.ne HK.out (by decide)
 have HO : Hid (Only (fun i => B ≤ i) w w1) := Lib.hid (ho1.out.mono (fun _ _ h => h.elim))
 clear ho1 H0
 have c0 : w1.cell? ⟨b1, 0, none⟩ = some (.int .i64 k) := cellB HK.out (by rw [HC0.out]; rfl)
 rcases hk with rfl | rfl | rfl
 all_goals
  go_upto_region 2 with (fail)
  refine rs (S := PS B b _ w1) H01.out.here ?_
  refine qs uMp ?_
  refine putS [[40]] (bs1 _) (by simp [BP]; omega) (fun _ => ?_)
  refine ds fun u0 hU0 => ?_
  simp only [setT, sC, sZ]
  go_upto_region 3 with (fail)
  refine rs hU0 ?_
  refine qs uMp ?_
  refine qs (uW stt_Expr H7.out fun W hW => wholeB (hW.heap HK.out (by decide) HKn)) ?_
  refine qs (uK (enter_p_expr _) fun W hW => PrO.up hW (IE B b _ W _ _ _ (HTb.out.next (HO.out.trans hW.low) hBw) hW.here (HP.out.only (HO.out.trans hW.low) (fun _ h h2 => absurd h (Nat.not_lt.2 h2))) (by simp [BP]; omega))) ?_
  refine ds fun u1 hU1 => ?_
  simp only [setT, sC, sZ]
  go_upto_region 4 with (fail)
  refine rs hU1 ?_
  refine qs uMp ?_
  refine putS [[41]] (bs1 _) (by simp [BP]; omega) (fun _ => ?_)
  refine ds fun u2 hU2 => ?_
  simp only [setT, sC, sZ]
  go_wp2_with fail
  go_end0
  exact ⟨rfl, by simpa using H01.out.trans hU2⟩
set_option maxRecDepth 100000 in
set_option maxHeartbeats 8000000 in
theorem fo_no {d : Nat} (IE : ExP d) {B b : Nat} {l : LB} {w : World} {cs : List Value} {t : LB} {k : Int} (hT : Tabs B w) (hp : PS B b l w w) (h : PrE d w (Lo B) cs t k) (hk : ¬ (k = 5 ∨ k = 6 ∨ k = 7)) (hlen : l.length + (innL k t).length ≤ BP) :
  Calls Tryd.prog 42 #[.pointer (some ⟨b, 0, none⟩), .agg cs.toArray] w (PrO B b (l ++ innL k t) w) := by
 have hI : innL k t = t := if_neg hk
 rw [hI] at hlen ⊢
 unfold BP at hlen
 clear hI
 have h7 := h.len
 have HP := Lib.hid h
 obtain ⟨x0, h0⟩ : ∃ x : List Value, cs = .int .i64 k :: x := by
  match d, h with
  | d + 1, ⟨a1, a2, a3, a4, a5, a6, a7, a8, a9, e, _⟩ => exact ⟨_, e⟩
 have HC0 := Lib.hid h0
 have H7 := Lib.hid h7
 have hBw := hp.sz
 have HTb := Lib.hid hT
 have H0 := Lib.hid hp
 clear h h0 h7 hp hT
 go_enter Tryd.func42, Tryd.ntmps42
 go_wp2_with (refine wpl_boxv rfl 56 (.tmp 1) rfl (some 3) rfl (cells := cs.toArray) rfl ?_)
 refine ⟨fun w1 b1 HK ho1 ha1 hb1 => ?_⟩
 have H01 := Lib.hid (H0.out.only ho1.out)
 have HKn : b1 ≠ b := H01.out.ne HK.out (by decide)
 have HO : Hid (Only (fun i => B ≤ i) w w1) := Lib.hid (ho1.out.mono (fun _ _ h => h.elim))
 clear ho1 H0
 have c0 : w1.cell? ⟨b1, 0, none⟩ = some (.int .i64 k) := cellB HK.out (by rw [HC0.out]; rfl)
 have h5 : (k == 5) = false := by rw [beq_eq_false_iff_ne]; omega
 have h6 : (k == 6) = false := by rw [beq_eq_false_iff_ne]; omega
 have h7 : (k == 7) = false := by rw [beq_eq_false_iff_ne]; omega
 clear hk
 go_upto_region 5 with (fail)
 refine rs (S := PS B b _ w1) H01.out.here ?_
 refine qs uMp ?_
 refine qs (uW stt_Expr H7.out fun W hW => wholeB (hW.heap HK.out (by decide) HKn)) ?_
 refine qs (uK (enter_p_expr _) fun W hW => PrO.up hW (IE B b _ W _ _ _ (HTb.out.next (HO.out.trans hW.low) hBw) hW.here (HP.out.only (HO.out.trans hW.low) (fun _ h h2 => absurd h (Nat.not_lt.2 h2))) (by simp [BP]; omega))) ?_
 refine ds fun u0 hU0 => ?_
 simp only [setT, sC, sZ]
 go_wp2_with fail
 go_end0
 exact ⟨rfl, by simpa using H01.out.trans hU0⟩
theorem fo_of {d : Nat} (IE : ExP d) : OpP d := fun B b l w cs t k hT hp h hl => by
 by_cases hk : k = 5 ∨ k = 6 ∨ k = 7
 ·
  exact fo_op IE hT hp h hk hl
 ·
  exact fo_no IE hT hp h hk hl
set_option maxRecDepth 100000 in
set_option maxHeartbeats 8000000 in
theorem fl_of {d : Nat} (IE : ExP d) : LiP d := by
 intro B b l w A n c T hT hp hr hlen
 have hn3 : n ≤ 3000000 := hr.1
 obtain ⟨tx, htx⟩ : ∃ x, x = comL (fun i => (T i).1) := ⟨_, rfl⟩
 rw [← htx] at hlen ⊢
 have HTX := Lib.hid htx
 have HMON := Lib.hid (comL_mono (T := fun i => (T i).1) (n := n))
 rw [← htx] at HMON
 have hl2 := hlen
 unfold BP at hl2
 have hBw := hp.sz
 have HTb := Lib.hid hT
 have H0 := Lib.hid hp
 have HR := Lib.hid hr
 clear hr htx hp hT hlen
 go_enter Tryd.func43, Tryd.ntmps43
 go_wp2_with fail
 go_loopw [8] (fun vi wr => ∃ (i : Nat), i ≤ n ∧ vi = .int .i64 i ∧ Hid (PS B b (l ++ tx i) w wr)) (fun vi _ => n - (intOf vi).toNat)
 case atStart => exact ⟨0, Nat.zero_le _, rfl, Lib.hid (by rw [HTX.out]; simpa [comL] using H0.out)⟩
 case round =>
  obtain ⟨i, hi, rfl, HW⟩ := hrel
  have hm := HMON.out i hi
  by_cases hlt : i < n
  ·
   have hm1 := HMON.out (i + 1) (by omega)
   have hili : (i : Int) < (n : Int) := by omega
   obtain ⟨ti, hti⟩ : ∃ x, x = (T i).1 := ⟨_, rfl⟩
   have hstep : ∀ k, k = i → tx (k + 1) = tx k ++ (if k = 0 then [] else [44, 32]) ++ ti := fun k hk => by subst hk; rw [HTX.out, hti]; rfl
   obtain ⟨bA, oA, C, rfl, hpA, hrng, hel⟩ := Rw.open_ HR.out (by omega)
   have HRng := Lib.hid hrng
   have HEl := Lib.hid hel
   have HTI := Lib.hid hti
   have hr1 : w.heap.size ≤ wr.heap.size := HW.out.bel.size
   clear hrng hel hti
   by_cases h0 : i = 0
   ·
    subst h0
    have HST : Hid (tx (0 + 1) = tx 0 ++ ti) := Lib.hid (by rw [hstep _ rfl]; simp)
    have hm2 := hm1
    rw [HST.out] at hm2
    simp only [List.length_append] at hm2
    clear hstep
    have HOx : Hid (Only (fun i => B ≤ i) w w) := Lib.hid (Only.refl _ _)
    go_upto_region 2 with (fail)
    refine rs (S := PS B b _ w) HW.out ?_
    refine qs uMi ?_
    simp only [setT, sC, sZ]
    refine qs (uI 0 euS_Expr ezS_Expr (hlt := hlt)) ?_
    simp only [setT, sC, sZ]
    refine qs (uW stt_Expr (HEl.out 0 hlt).1 fun W hW => (HRng.out.at_ (HOx.out.trans hW.low) (Nat.not_le.2 hpA) hlt)) ?_
    simp only [setT, sC, sZ]
    intro w3 hW3
    refine wpl_box3 rfl rfl rfl 56 rfl 5 rfl (.tmp 10) rfl (.tmp 12) rfl rfl Tryd.zeroValue56 (cells := (C 0).toArray) (.int .i64 ((0 : Nat) : Int)) (fun _ => rfl) (fun _ => rfl) (fun _ => rfl) stt_Expr (by simp [(HEl.out 0 hlt).1]) rfl (TrP.ones (p := Lo B) (w := w) (t := T 0) ⟨d, (HEl.out 0 hlt).2⟩) ?_
    refine ⟨fun w4 b5 HK5 ho4 ha5 hb5 => ?_⟩
    have HW4 := Lib.hid (hW3.only ho4.out)
    have HK5n : b5 ≠ b := HW4.out.ne HK5.out (by decide)
    have HO4 := Lib.hid HW4.out.low
    clear hW3 ho4
    go_upto_region 5 with (fail)
    refine rs (S := PS B b _ w4) HW4.out.here ?_
    refine qs uMp ?_
    refine qs (uW stt_Expr (HEl.out 0 hlt).1 fun W hW => wholeB (hW.heap HK5.out (by decide) HK5n)) ?_
    refine qs (uK (enter_p_expr _) fun W hW => PrO.upR HTI.out hW (IE B b _ W _ _ _ (HTb.out.next (HO4.out.trans hW.low) hBw) hW.here ((HEl.out 0 hlt).2.only (HO4.out.trans hW.low) (fun _ h h2 => absurd h (Nat.not_lt.2 h2))) (by rw [← HTI.out]; exact (by simp [BP]; omega)))) ?_
    refine ds fun u2 hU2 => ?_
    simp only [setT, sC, sZ]
    replace hU2 : PS B b (l ++ (tx (0 + 1))) w4 u2 := by rw [HST.out]; simpa using hU2
    go_wp2_with fail
    go_roundw
    case rel => exact ⟨0 + 1, by omega, by go_num, Lib.hid (HW4.out.trans hU2)⟩
    case measure => simp [intOf]; omega
   ·
    have hip : (0 : Int) < (i : Int) := by omega
    have HST : Hid (tx (i + 1) = tx i ++ [44, 32] ++ ti) := Lib.hid (by rw [hstep _ rfl, if_neg h0])
    have hm2 := hm1
    rw [HST.out] at hm2
    simp only [List.length_append, List.length_cons, List.length_nil] at hm2
    clear hstep h0
    have HOx : Hid (Only (fun i => B ≤ i) w w) := Lib.hid (Only.refl _ _)
    go_upto_region 2 with (fail)
    refine rs (S := PS B b _ w) HW.out ?_
    refine qs uMi ?_
    simp only [setT, sC, sZ]
    refine qs (uI i euS_Expr ezS_Expr (hlt := hlt)) ?_
    simp only [setT, sC, sZ]
    refine qs (uW stt_Expr (HEl.out i hlt).1 fun W hW => (HRng.out.at_ (HOx.out.trans hW.low) (Nat.not_le.2 hpA) hlt)) ?_
    simp only [setT, sC, sZ]
    intro w3 hW3
    refine wpl_box3 rfl rfl rfl 56 rfl 5 rfl (.tmp 10) rfl (.tmp 12) rfl rfl Tryd.zeroValue56 (cells := (C i).toArray) (.int .i64 (i : Int)) (fun _ => rfl) (fun _ => rfl) (fun _ => rfl) stt_Expr (by simp [(HEl.out i hlt).1]) rfl (TrP.ones (p := Lo B) (w := w) (t := T i) ⟨d, (HEl.out i hlt).2⟩) ?_
    refine ⟨fun w4 b5 HK5 ho4 ha5 hb5 => ?_⟩
    have HW4 := Lib.hid (hW3.only ho4.out)
    have HK5n : b5 ≠ b := HW4.out.ne HK5.out (by decide)
    have HO4 := Lib.hid HW4.out.low
    clear hW3 ho4
    go_upto_region 4 with (fail)
    refine rs (S := PS B b _ w4) HW4.out.here ?_
    refine qs uMp ?_
    refine putS [[44, 32]] (bs1 _) (by simp [BP]; omega) (fun _ => ?_)
    refine ds fun u1 hU1 => ?_
    simp only [setT, sC, sZ]
    go_upto_region 5 with (fail)
    refine rs hU1 ?_
    refine qs uMp ?_
    refine qs (uW stt_Expr (HEl.out i hlt).1 fun W hW => wholeB (hW.heap HK5.out (by decide) HK5n)) ?_
    refine qs (uK (enter_p_expr _) fun W hW => PrO.upR HTI.out hW (IE B b _ W _ _ _ (HTb.out.next (HO4.out.trans hW.low) hBw) hW.here ((HEl.out i hlt).2.only (HO4.out.trans hW.low) (fun _ h h2 => absurd h (Nat.not_lt.2 h2))) (by rw [← HTI.out]; exact (by simp [BP]; omega)))) ?_
    refine ds fun u2 hU2 => ?_
    simp only [setT, sC, sZ]
    replace hU2 : PS B b (l ++ (tx (i + 1))) w4 u2 := by rw [HST.out]; simpa using hU2
    go_wp2_with fail
    go_roundw
    case rel => exact ⟨i + 1, by omega, by go_num, Lib.hid (HW4.out.trans hU2)⟩
    case measure => simp [intOf]; omega
  ·
   obtain rfl : i = n := by omega
   go_wp2_with fail
   go_end0
   exact ⟨rfl, HW.out⟩
theorem fe_all : ∀ d, ExP d
 | 0 => fun _ _ _ _ _ _ _ _ _ h => h.elim
 | d + 1 => fe_succ (fe_all d) (fo_of (fe_all d)) (fl_of (fe_all d))
end Go.Proofs.YtbdcpealkllfnaaDoor
