/- The reference's PrintExpr, inner, comma, printLoop, walked: the text of a tree in memory. No condition. -/
import Derived.Test.YtbdcpealkllfnaaDoorPtD
namespace Go.Proofs.YtbdcpealkllfnaaDoor
open Go.RowKit Go.Deep

def ExR (d : Nat) : Prop := ∀ (w : World) (p : Nat → Prop) (cs : List Value) (t : LB) (k : Int), PrE d w p cs t k → t.length ≤ BT → Calls Tryd.prog 26 #[.agg cs.toArray] w (StrO t w)
def InR (d : Nat) : Prop := ∀ (w : World) (p : Nat → Prop) (cs : List Value) (t : LB) (k : Int), PrE d w p cs t k → (innL k t).length ≤ BT → Calls Tryd.prog 50 #[.agg cs.toArray] w (StrO (innL k t) w)
def CmR (d : Nat) : Prop := ∀ (w : World) (p : Nat → Prop) (A : Option Addr) (n c : Nat) (T : Nat → LB × Int), ExL d w p A n T → (comL (fun i => (T i).1) n).length ≤ BT → Calls Tryd.prog 51 #[.slice A n c] w (StrO (comL (fun i => (T i).1) n) w)
theorem conv_u64 {k : Nat} (h : k < 18446744073709551616) (w : World) : (convert 3 31 (.int .i64 (k : Int))).run Tryd.prog w = .ok (.int .u64 (k : Int)) w := by
 have h1 : IntKind.u64.wrap (k : Int) = (k : Int) := by simp [IntKind.wrap, IntKind.signed, IntKind.bits]; omega
 rw [run_convert_int w _ _ .i64 _ (by rw [Tryd.underlying3]; rfl) (by simp [go_sem])]
 simp [go_sem, h1]
theorem convE {P : Program} {src dst : TypeId} {x : Operand} {a : Act} {v : Value} {w : World} (h : (convert src dst (a.eval x)).run P w = .ok v w) : ((do pure (.value (← convert src dst (a.eval x))) : Sem Next)).run P w = .ok (.value v) w := by
 simp only [Sem.run_bind, h, Result.andThen_ok, Sem.run_pure]
set_option maxRecDepth 100000 in
set_option maxHeartbeats 8000000 in
theorem pe_k1a {d : Nat} {w : World} {p : Nat → Prop} {at_ op width : Int} {num : Nat} {nm : LB} {A : Option Addr} {n c : Nat} {T : Nat → LB × Int} {t : LB} (ok : OkE 1 op width num nm n)
  (hr : Rw 56 7 w p A n (fun cs t => PrE d w p cs t.1 t.2) T) (ht : t = txE 1 op width num nm n (fun i => (T i).2) (fun i => (T i).1)) (hlen : t.length ≤ BT) (hz : width = 0) :
  Calls Tryd.prog 26 #[.agg (cellsE 1 at_ op width num nm A n c).toArray] w (StrO t w) := by
 obtain ⟨wd, rfl⟩ := Int.eq_ofNat_of_zero_le ok.w.1
 obtain ⟨o, rfl⟩ := Int.eq_ofNat_of_zero_le ok.o.1
 have HWD := Lib.hid ok.w.2
 have HOP := Lib.hid ok.o.2
 have HNUM := Lib.hid ok.u
 have hwe : ((wd : Int) == 0) = true := by rw [beq_iff_eq]; exact hz
 have HR := Lib.hid hr
 replace ht : t = digL num := by rw [ht]; simp [txE, hz]
 have HT := Lib.hid ht
 have hL := hlen
 have hL2 := hlen
 unfold BT at hL2
 rw [ht] at hL
 unfold BT at hL
 clear ok hr ht
 go_enter Tryd.func26, Tryd.ntmps26
 go_wp2_with (refine wpl_boxv rfl 56 (.tmp 0) rfl (some 1) rfl (cells := (cellsE 1 at_ (o : Int) (wd : Int) num nm A n c).toArray) rfl ?_)
 refine ⟨fun w1 b1 HK HO ha1 hb1 => ?_⟩
 have c0 : w1.cell? ⟨b1, 0, none⟩ = some (.int .i64 1) := cellB HK.out rfl
 have c3 : w1.cell? ⟨b1, 3, none⟩ = some (.int .i64 (wd : Int)) := cellB HK.out rfl
 go_upto_region 4 with (fail)
 refine rs (S := Only (fun _ => False) w1) (Only.refl _ _) ?_
 refine qs (uF fd_Expr_4) ?_
 refine qs (uC ctuint64 fun W hW => cellB (boxG HK hW) rfl) ?_
 refine qs (uK (enter_decimal _) fun W hW => StrO.up hW (decimal_any num W (by have := HNUM.out; have := HWD.out; omega))) ?_
 refine qs (uA (.string (bstr (digL num)))) ?_
 simp only [setT, sC, sZ]
 refine ds fun w2 hW2 => ?_
 go_wp2
 go_ret
 exact StrO.mk HT.out.symm (HO.out.trans hW2)
set_option maxRecDepth 100000 in
set_option maxHeartbeats 8000000 in
theorem pe_k1b {d : Nat} {w : World} {p : Nat → Prop} {at_ op width : Int} {num : Nat} {nm : LB} {A : Option Addr} {n c : Nat} {T : Nat → LB × Int} {t : LB} (ok : OkE 1 op width num nm n)
  (hr : Rw 56 7 w p A n (fun cs t => PrE d w p cs t.1 t.2) T) (ht : t = txE 1 op width num nm n (fun i => (T i).2) (fun i => (T i).1)) (hlen : t.length ≤ BT) (hz : width ≠ 0) :
  Calls Tryd.prog 26 #[.agg (cellsE 1 at_ op width num nm A n c).toArray] w (StrO t w) := by
 obtain ⟨wd, rfl⟩ := Int.eq_ofNat_of_zero_le ok.w.1
 obtain ⟨o, rfl⟩ := Int.eq_ofNat_of_zero_le ok.o.1
 have HWD := Lib.hid ok.w.2
 have HOP := Lib.hid ok.o.2
 have HNUM := Lib.hid ok.u
 have hwne : ((wd : Int) == 0) = false := by rw [beq_eq_false_iff_ne]; exact hz
 have HR := Lib.hid hr
 replace ht : t = digL wd ++ [39, 100] ++ digL num := by rw [ht]; unfold txE; rw [if_pos rfl, if_neg hz]; rfl
 have HT := Lib.hid ht
 have hL := hlen
 have hL2 := hlen
 unfold BT at hL2
 rw [ht] at hL
 simp only [List.length_append, List.length_cons, List.length_nil, BT] at hL
 clear ok hr ht
 go_enter Tryd.func26, Tryd.ntmps26
 go_wp2_with (refine wpl_boxv rfl 56 (.tmp 0) rfl (some 1) rfl (cells := (cellsE 1 at_ (o : Int) (wd : Int) num nm A n c).toArray) rfl ?_)
 refine ⟨fun w1 b1 HK HO ha1 hb1 => ?_⟩
 have c0 : w1.cell? ⟨b1, 0, none⟩ = some (.int .i64 1) := cellB HK.out rfl
 have c3 : w1.cell? ⟨b1, 3, none⟩ = some (.int .i64 (wd : Int)) := cellB HK.out rfl
 go_upto_region 5 with (fail)
 refine ro (S := Only (fun _ => False) w1) (Only.refl _ _).drew (by kernel_rfl) (by kernel_rfl) (by kernel_rfl) ?_
 refine qo (uF fd_Expr_3) ?_
 refine qo (uC ctint fun W hW => cellB (boxG HK hW) rfl) ?_
 refine qo (uR fun _ W _ => by simp only [execOp]; exact convE (conv_u64 (by have := HWD.out; omega) W)) ?_
 refine qo (uK (enter_decimal _) fun W hW => StrO.up hW (decimal_any wd W (by have := HNUM.out; have := HWD.out; omega))) ?_
 simp only [setT, sC, sZ]
 refine qo uS ?_
 refine qo (uF fd_Expr_4) ?_
 refine qo (uC ctuint64 fun W hW => cellB (boxG HK hW) rfl) ?_
 refine qo (uK (enter_decimal _) fun W hW => StrO.up hW (decimal_any num W (by have := HNUM.out; have := HWD.out; omega))) ?_
 simp only [setT, sC, sZ]
 refine qo (uSn HT.out) ?_
 refine qo (uA (.string (bstr t))) ?_
 refine dO fun w2 hW2 => ?_
 simp only [setT, sC, sZ]
 go_wp2
 go_ret
 exact StrO.mk rfl (HO.out.trans hW2)
set_option maxRecDepth 100000 in
set_option maxHeartbeats 8000000 in
theorem pe_k2 {d : Nat} {w : World} {p : Nat → Prop} {at_ op width : Int} {num : Nat} {nm : LB} {A : Option Addr} {n c : Nat} {T : Nat → LB × Int} {t : LB} (ok : OkE 2 op width num nm n)
  (hr : Rw 56 7 w p A n (fun cs t => PrE d w p cs t.1 t.2) T) (ht : t = txE 2 op width num nm n (fun i => (T i).2) (fun i => (T i).1)) (hlen : t.length ≤ BT) :
  Calls Tryd.prog 26 #[.agg (cellsE 2 at_ op width num nm A n c).toArray] w (StrO t w) := by
 obtain ⟨wd, rfl⟩ := Int.eq_ofNat_of_zero_le ok.w.1
 obtain ⟨o, rfl⟩ := Int.eq_ofNat_of_zero_le ok.o.1
 have HWD := Lib.hid ok.w.2
 have HOP := Lib.hid ok.o.2
 have HNUM := Lib.hid ok.u

 have HR := Lib.hid hr
 replace ht : t = nm := ht
 have HT := Lib.hid ht
 have hL := hlen
 have hL2 := hlen
 unfold BT at hL2
 rw [ht] at hL
 unfold BT at hL
 clear ok hr ht
 go_enter Tryd.func26, Tryd.ntmps26
 go_wp2_with (refine wpl_boxv rfl 56 (.tmp 0) rfl (some 1) rfl (cells := (cellsE 2 at_ (o : Int) (wd : Int) num nm A n c).toArray) rfl ?_)
 refine ⟨fun w1 b1 HK HO ha1 hb1 => ?_⟩
 have c0 : w1.cell? ⟨b1, 0, none⟩ = some (.int .i64 2) := cellB HK.out rfl
 go_upto_region 7 with (fail)
 refine rs (S := Only (fun _ => False) w1) (Only.refl _ _) ?_
 refine qs (uF fd_Expr_5) ?_
 refine qs (uC ctstring fun W hW => cellB (boxG HK hW) rfl) ?_
 refine qs (uA (.string (bstr nm))) ?_
 refine ds fun w2 hW2 => ?_
 simp only [setT, sC, sZ]
 go_wp2
 go_ret
 exact StrO.mk HT.out.symm (HO.out.trans hW2)
set_option maxRecDepth 100000 in
set_option maxHeartbeats 8000000 in
theorem pe_k3 {d : Nat} (IE : ExR d) {w : World} {p : Nat → Prop} {at_ op width : Int} {num : Nat} {nm : LB} {A : Option Addr} {n c : Nat} {T : Nat → LB × Int} {t : LB} (ok : OkE 3 op width num nm n)
  (hr : Rw 56 7 w p A n (fun cs t => PrE d w p cs t.1 t.2) T) (ht : t = txE 3 op width num nm n (fun i => (T i).2) (fun i => (T i).1)) (hlen : t.length ≤ BT) :
  Calls Tryd.prog 26 #[.agg (cellsE 3 at_ op width num nm A n c).toArray] w (StrO t w) := by
 obtain ⟨wd, rfl⟩ := Int.eq_ofNat_of_zero_le ok.w.1
 obtain ⟨o, rfl⟩ := Int.eq_ofNat_of_zero_le ok.o.1
 have HWD := Lib.hid ok.w.2
 have HOP := Lib.hid ok.o.2
 have HNUM := Lib.hid ok.u

 have hn : n = 1 := ok.a3 rfl
 obtain ⟨bA, oA, C, rfl, hpA, hrng, hel⟩ := hr.open_ (by omega)
 have hn1 : 1 ≤ n := by omega
 clear hn
 have HRng := Lib.hid hrng
 have HEl := Lib.hid hel
 clear hrng hel
 replace ht : t = nm ++ [91] ++ (T 0).1 ++ [93] := ht
 have HT := Lib.hid ht
 have hL := hlen
 have hL2 := hlen
 unfold BT at hL2
 rw [ht] at hL
 simp only [List.length_append, List.length_cons, List.length_nil, BT] at hL
 clear ok hr ht
 go_enter Tryd.func26, Tryd.ntmps26
 go_wp2_with (refine wpl_boxv rfl 56 (.tmp 0) rfl (some 1) rfl (cells := (cellsE 3 at_ (o : Int) (wd : Int) num nm (some ⟨bA, oA, none⟩) n c).toArray) rfl ?_)
 refine ⟨fun w1 b1 HK HO ha1 hb1 => ?_⟩
 have c0 : w1.cell? ⟨b1, 0, none⟩ = some (.int .i64 3) := cellB HK.out rfl
 go_upto_region 9 with (fail)
 refine ro (S := Only (fun _ => False) w1) (Only.refl _ _).drew (by kernel_rfl) (by kernel_rfl) (by kernel_rfl) ?_
 refine qo (uF fd_Expr_5) ?_
 refine qo (uC ctstring fun W hW => cellB (boxG HK hW) rfl) ?_
 refine qo uS ?_
 refine qo (uF fd_Expr_6) ?_
 simp only [setT, sC, sZ]
 refine qo (uC ctS_Expr fun W hW => cellB (boxG HK hW) rfl) ?_
 refine qo (uI 0 euS_Expr ezS_Expr) ?_
 refine qo (uW stt_Expr (HEl.out 0 (by omega)).1 fun W hW => (HRng.out.at_ (HO.out.trans hW) (fun h => h) (show 0 < _ by omega))) ?_
 refine qo (uK (enter_PrintExpr _) fun W hW => StrO.up hW (IE W p _ _ _ ((HEl.out 0 (by omega)).2.only (HO.out.trans hW) (fun _ _ h => h)) (by unfold BT; omega))) ?_
 simp only [setT, sC, sZ]
 refine qo uS ?_
 refine qo (uSn HT.out) ?_
 refine qo (uA (.string (bstr t))) ?_
 refine dO fun w2 hW2 => ?_
 simp only [setT, sC, sZ]
 go_wp2
 go_ret
 exact StrO.mk rfl (HO.out.trans hW2)
set_option maxRecDepth 100000 in
set_option maxHeartbeats 8000000 in
theorem pe_k4 {d : Nat} (IE : ExR d) {w : World} {p : Nat → Prop} {at_ op width : Int} {num : Nat} {nm : LB} {A : Option Addr} {n c : Nat} {T : Nat → LB × Int} {t : LB} (ok : OkE 4 op width num nm n)
  (hr : Rw 56 7 w p A n (fun cs t => PrE d w p cs t.1 t.2) T) (ht : t = txE 4 op width num nm n (fun i => (T i).2) (fun i => (T i).1)) (hlen : t.length ≤ BT) :
  Calls Tryd.prog 26 #[.agg (cellsE 4 at_ op width num nm A n c).toArray] w (StrO t w) := by
 obtain ⟨wd, rfl⟩ := Int.eq_ofNat_of_zero_le ok.w.1
 obtain ⟨o, rfl⟩ := Int.eq_ofNat_of_zero_le ok.o.1
 have HWD := Lib.hid ok.w.2
 have HOP := Lib.hid ok.o.2
 have HNUM := Lib.hid ok.u

 have hn : n = 2 := ok.a4 rfl
 obtain ⟨bA, oA, C, rfl, hpA, hrng, hel⟩ := hr.open_ (by omega)
 have hn1 : 2 ≤ n := by omega
 clear hn
 have HRng := Lib.hid hrng
 have HEl := Lib.hid hel
 clear hrng hel
 replace ht : t = nm ++ [91] ++ (T 0).1 ++ [58] ++ (T 1).1 ++ [93] := ht
 have HT := Lib.hid ht
 have hL := hlen
 have hL2 := hlen
 unfold BT at hL2
 rw [ht] at hL
 simp only [List.length_append, List.length_cons, List.length_nil, BT] at hL
 clear ok hr ht
 go_enter Tryd.func26, Tryd.ntmps26
 go_wp2_with (refine wpl_boxv rfl 56 (.tmp 0) rfl (some 1) rfl (cells := (cellsE 4 at_ (o : Int) (wd : Int) num nm (some ⟨bA, oA, none⟩) n c).toArray) rfl ?_)
 refine ⟨fun w1 b1 HK HO ha1 hb1 => ?_⟩
 have c0 : w1.cell? ⟨b1, 0, none⟩ = some (.int .i64 4) := cellB HK.out rfl
 go_upto_region 11 with (fail)
 refine ro (S := Only (fun _ => False) w1) (Only.refl _ _).drew (by kernel_rfl) (by kernel_rfl) (by kernel_rfl) ?_
 refine qo (uF fd_Expr_5) ?_
 refine qo (uC ctstring fun W hW => cellB (boxG HK hW) rfl) ?_
 refine qo uS ?_
 refine qo (uF fd_Expr_6) ?_
 simp only [setT, sC, sZ]
 refine qo (uC ctS_Expr fun W hW => cellB (boxG HK hW) rfl) ?_
 refine qo (uI 0 euS_Expr ezS_Expr) ?_
 refine qo (uW stt_Expr (HEl.out 0 (by omega)).1 fun W hW => (HRng.out.at_ (HO.out.trans hW) (fun h => h) (show 0 < _ by omega))) ?_
 refine qo (uK (enter_PrintExpr _) fun W hW => StrO.up hW (IE W p _ _ _ ((HEl.out 0 (by omega)).2.only (HO.out.trans hW) (fun _ _ h => h)) (by unfold BT; omega))) ?_
 simp only [setT, sC, sZ]
 refine qo uS ?_
 refine qo uS ?_
 refine qo (uF fd_Expr_6) ?_
 refine qo (uC ctS_Expr fun W hW => cellB (boxG HK hW) rfl) ?_
 simp only [setT, sC, sZ]
 refine qo (uI 1 euS_Expr ezS_Expr) ?_
 refine qo (uW stt_Expr (HEl.out 1 (by omega)).1 fun W hW => (HRng.out.at_ (HO.out.trans hW) (fun h => h) (show 1 < _ by omega))) ?_
 refine qo (uK (enter_PrintExpr _) fun W hW => StrO.up hW (IE W p _ _ _ ((HEl.out 1 (by omega)).2.only (HO.out.trans hW) (fun _ _ h => h)) (by unfold BT; omega))) ?_
 refine qo uS ?_
 simp only [setT, sC, sZ]
 refine qo (uSn HT.out) ?_
 refine qo (uA (.string (bstr t))) ?_
 refine dO fun w2 hW2 => ?_
 simp only [setT, sC, sZ]
 go_wp2
 go_ret
 exact StrO.mk rfl (HO.out.trans hW2)
set_option maxRecDepth 100000 in
set_option maxHeartbeats 8000000 in
theorem pe_k5 {d : Nat} (II : InR d) {w : World} {p : Nat → Prop} {at_ op width : Int} {num : Nat} {nm : LB} {A : Option Addr} {n c : Nat} {T : Nat → LB × Int} {t : LB} (ok : OkE 5 op width num nm n)
  (hr : Rw 56 7 w p A n (fun cs t => PrE d w p cs t.1 t.2) T) (ht : t = txE 5 op width num nm n (fun i => (T i).2) (fun i => (T i).1)) (hlen : t.length ≤ BT) :
  Calls Tryd.prog 26 #[.agg (cellsE 5 at_ op width num nm A n c).toArray] w (StrO t w) := by
 obtain ⟨wd, rfl⟩ := Int.eq_ofNat_of_zero_le ok.w.1
 obtain ⟨o, rfl⟩ := Int.eq_ofNat_of_zero_le ok.o.1
 have HWD := Lib.hid ok.w.2
 have HOP := Lib.hid ok.o.2
 have HNUM := Lib.hid ok.u

 have hn : n = 1 := ok.a5 rfl
 obtain ⟨bA, oA, C, rfl, hpA, hrng, hel⟩ := hr.open_ (by omega)
 have hn1 : 1 ≤ n := by omega
 clear hn
 have HRng := Lib.hid hrng
 have HEl := Lib.hid hel
 clear hrng hel
 replace ht : t = sgnL (o : Int) ++ innL (T 0).2 (T 0).1 := ht
 have HT := Lib.hid ht
 have hL := hlen
 have hL2 := hlen
 unfold BT at hL2
 rw [ht] at hL
 simp only [List.length_append, BT] at hL
 clear ok hr ht
 go_enter Tryd.func26, Tryd.ntmps26
 go_wp2_with (refine wpl_boxv rfl 56 (.tmp 0) rfl (some 1) rfl (cells := (cellsE 5 at_ (o : Int) (wd : Int) num nm (some ⟨bA, oA, none⟩) n c).toArray) rfl ?_)
 refine ⟨fun w1 b1 HK HO ha1 hb1 => ?_⟩
 have c0 : w1.cell? ⟨b1, 0, none⟩ = some (.int .i64 5) := cellB HK.out rfl
 go_upto_region 13 with (fail)
 refine ro (S := Only (fun _ => False) w1) (Only.refl _ _).drew (by kernel_rfl) (by kernel_rfl) (by kernel_rfl) ?_
 refine qo (uF fd_Expr_2) ?_
 refine qo (uC ctint fun W hW => cellB (boxG HK hW) rfl) ?_
 refine qo (uK (enter_sign _) fun W hW => StrO.up hW (sign_any o W (by have := HOP.out; omega))) ?_
 refine qo (uF fd_Expr_6) ?_
 simp only [setT, sC, sZ]
 refine qo (uC ctS_Expr fun W hW => cellB (boxG HK hW) rfl) ?_
 refine qo (uI 0 euS_Expr ezS_Expr) ?_
 refine qo (uW stt_Expr (HEl.out 0 (by omega)).1 fun W hW => (HRng.out.at_ (HO.out.trans hW) (fun h => h) (show 0 < _ by omega))) ?_
 refine qo (uK (enter_inner _) fun W hW => StrO.up hW (II W p _ _ _ ((HEl.out 0 (by omega)).2.only (HO.out.trans hW) (fun _ _ h => h)) (by unfold BT; omega))) ?_
 simp only [setT, sC, sZ]
 refine qo (uSn HT.out) ?_
 refine qo (uA (.string (bstr t))) ?_
 refine dO fun w2 hW2 => ?_
 simp only [setT, sC, sZ]
 go_wp2
 go_ret
 exact StrO.mk rfl (HO.out.trans hW2)
set_option maxRecDepth 100000 in
set_option maxHeartbeats 8000000 in
theorem pe_k6 {d : Nat} (II : InR d) {w : World} {p : Nat → Prop} {at_ op width : Int} {num : Nat} {nm : LB} {A : Option Addr} {n c : Nat} {T : Nat → LB × Int} {t : LB} (ok : OkE 6 op width num nm n)
  (hr : Rw 56 7 w p A n (fun cs t => PrE d w p cs t.1 t.2) T) (ht : t = txE 6 op width num nm n (fun i => (T i).2) (fun i => (T i).1)) (hlen : t.length ≤ BT) :
  Calls Tryd.prog 26 #[.agg (cellsE 6 at_ op width num nm A n c).toArray] w (StrO t w) := by
 obtain ⟨wd, rfl⟩ := Int.eq_ofNat_of_zero_le ok.w.1
 obtain ⟨o, rfl⟩ := Int.eq_ofNat_of_zero_le ok.o.1
 have HWD := Lib.hid ok.w.2
 have HOP := Lib.hid ok.o.2
 have HNUM := Lib.hid ok.u

 have hn : n = 2 := ok.a6 rfl
 obtain ⟨bA, oA, C, rfl, hpA, hrng, hel⟩ := hr.open_ (by omega)
 have hn1 : 2 ≤ n := by omega
 clear hn
 have HRng := Lib.hid hrng
 have HEl := Lib.hid hel
 clear hrng hel
 replace ht : t = innL (T 0).2 (T 0).1 ++ [32] ++ sgnL (o : Int) ++ [32] ++ innL (T 1).2 (T 1).1 := ht
 have HT := Lib.hid ht
 have hL := hlen
 have hL2 := hlen
 unfold BT at hL2
 rw [ht] at hL
 simp only [List.length_append, List.length_cons, List.length_nil, BT] at hL
 clear ok hr ht
 go_enter Tryd.func26, Tryd.ntmps26
 go_wp2_with (refine wpl_boxv rfl 56 (.tmp 0) rfl (some 1) rfl (cells := (cellsE 6 at_ (o : Int) (wd : Int) num nm (some ⟨bA, oA, none⟩) n c).toArray) rfl ?_)
 refine ⟨fun w1 b1 HK HO ha1 hb1 => ?_⟩
 have c0 : w1.cell? ⟨b1, 0, none⟩ = some (.int .i64 6) := cellB HK.out rfl
 go_upto_region 15 with (fail)
 refine ro (S := Only (fun _ => False) w1) (Only.refl _ _).drew (by kernel_rfl) (by kernel_rfl) (by kernel_rfl) ?_
 refine qo (uF fd_Expr_6) ?_
 refine qo (uC ctS_Expr fun W hW => cellB (boxG HK hW) rfl) ?_
 refine qo (uI 0 euS_Expr ezS_Expr) ?_
 refine qo (uW stt_Expr (HEl.out 0 (by omega)).1 fun W hW => (HRng.out.at_ (HO.out.trans hW) (fun h => h) (show 0 < _ by omega))) ?_
 simp only [setT, sC, sZ]
 refine qo (uK (enter_inner _) fun W hW => StrO.up hW (II W p _ _ _ ((HEl.out 0 (by omega)).2.only (HO.out.trans hW) (fun _ _ h => h)) (by unfold BT; omega))) ?_
 refine qo uS ?_
 refine qo (uF fd_Expr_2) ?_
 refine qo (uC ctint fun W hW => cellB (boxG HK hW) rfl) ?_
 simp only [setT, sC, sZ]
 refine qo (uK (enter_sign _) fun W hW => StrO.up hW (sign_any o W (by have := HOP.out; omega))) ?_
 refine qo uS ?_
 refine qo uS ?_
 refine qo (uF fd_Expr_6) ?_
 simp only [setT, sC, sZ]
 refine qo (uC ctS_Expr fun W hW => cellB (boxG HK hW) rfl) ?_
 refine qo (uI 1 euS_Expr ezS_Expr) ?_
 refine qo (uW stt_Expr (HEl.out 1 (by omega)).1 fun W hW => (HRng.out.at_ (HO.out.trans hW) (fun h => h) (show 1 < _ by omega))) ?_
 refine qo (uK (enter_inner _) fun W hW => StrO.up hW (II W p _ _ _ ((HEl.out 1 (by omega)).2.only (HO.out.trans hW) (fun _ _ h => h)) (by unfold BT; omega))) ?_
 simp only [setT, sC, sZ]
 refine qo (uSn HT.out) ?_
 refine qo (uA (.string (bstr t))) ?_
 refine dO fun w2 hW2 => ?_
 simp only [setT, sC, sZ]
 go_wp2
 go_ret
 exact StrO.mk rfl (HO.out.trans hW2)
set_option maxRecDepth 100000 in
set_option maxHeartbeats 8000000 in
theorem pe_k7 {d : Nat} (II : InR d) {w : World} {p : Nat → Prop} {at_ op width : Int} {num : Nat} {nm : LB} {A : Option Addr} {n c : Nat} {T : Nat → LB × Int} {t : LB} (ok : OkE 7 op width num nm n)
  (hr : Rw 56 7 w p A n (fun cs t => PrE d w p cs t.1 t.2) T) (ht : t = txE 7 op width num nm n (fun i => (T i).2) (fun i => (T i).1)) (hlen : t.length ≤ BT) :
  Calls Tryd.prog 26 #[.agg (cellsE 7 at_ op width num nm A n c).toArray] w (StrO t w) := by
 obtain ⟨wd, rfl⟩ := Int.eq_ofNat_of_zero_le ok.w.1
 obtain ⟨o, rfl⟩ := Int.eq_ofNat_of_zero_le ok.o.1
 have HWD := Lib.hid ok.w.2
 have HOP := Lib.hid ok.o.2
 have HNUM := Lib.hid ok.u

 have hn : n = 3 := ok.a7 rfl
 obtain ⟨bA, oA, C, rfl, hpA, hrng, hel⟩ := hr.open_ (by omega)
 have hn1 : 3 ≤ n := by omega
 clear hn
 have HRng := Lib.hid hrng
 have HEl := Lib.hid hel
 clear hrng hel
 replace ht : t = innL (T 0).2 (T 0).1 ++ [32, 63, 32] ++ innL (T 1).2 (T 1).1 ++ [32, 58, 32] ++ innL (T 2).2 (T 2).1 := ht
 have HT := Lib.hid ht
 have hL := hlen
 have hL2 := hlen
 unfold BT at hL2
 rw [ht] at hL
 simp only [List.length_append, List.length_cons, List.length_nil, BT] at hL
 clear ok hr ht
 go_enter Tryd.func26, Tryd.ntmps26
 go_wp2_with (refine wpl_boxv rfl 56 (.tmp 0) rfl (some 1) rfl (cells := (cellsE 7 at_ (o : Int) (wd : Int) num nm (some ⟨bA, oA, none⟩) n c).toArray) rfl ?_)
 refine ⟨fun w1 b1 HK HO ha1 hb1 => ?_⟩
 have c0 : w1.cell? ⟨b1, 0, none⟩ = some (.int .i64 7) := cellB HK.out rfl
 go_upto_region 17 with (fail)
 refine ro (S := Only (fun _ => False) w1) (Only.refl _ _).drew (by kernel_rfl) (by kernel_rfl) (by kernel_rfl) ?_
 refine qo (uF fd_Expr_6) ?_
 refine qo (uC ctS_Expr fun W hW => cellB (boxG HK hW) rfl) ?_
 refine qo (uI 0 euS_Expr ezS_Expr) ?_
 refine qo (uW stt_Expr (HEl.out 0 (by omega)).1 fun W hW => (HRng.out.at_ (HO.out.trans hW) (fun h => h) (show 0 < _ by omega))) ?_
 simp only [setT, sC, sZ]
 refine qo (uK (enter_inner _) fun W hW => StrO.up hW (II W p _ _ _ ((HEl.out 0 (by omega)).2.only (HO.out.trans hW) (fun _ _ h => h)) (by unfold BT; omega))) ?_
 refine qo uS ?_
 refine qo (uF fd_Expr_6) ?_
 refine qo (uC ctS_Expr fun W hW => cellB (boxG HK hW) rfl) ?_
 simp only [setT, sC, sZ]
 refine qo (uI 1 euS_Expr ezS_Expr) ?_
 refine qo (uW stt_Expr (HEl.out 1 (by omega)).1 fun W hW => (HRng.out.at_ (HO.out.trans hW) (fun h => h) (show 1 < _ by omega))) ?_
 refine qo (uK (enter_inner _) fun W hW => StrO.up hW (II W p _ _ _ ((HEl.out 1 (by omega)).2.only (HO.out.trans hW) (fun _ _ h => h)) (by unfold BT; omega))) ?_
 refine qo uS ?_
 simp only [setT, sC, sZ]
 refine qo uS ?_
 refine qo (uF fd_Expr_6) ?_
 refine qo (uC ctS_Expr fun W hW => cellB (boxG HK hW) rfl) ?_
 refine qo (uI 2 euS_Expr ezS_Expr) ?_
 simp only [setT, sC, sZ]
 refine qo (uW stt_Expr (HEl.out 2 (by omega)).1 fun W hW => (HRng.out.at_ (HO.out.trans hW) (fun h => h) (show 2 < _ by omega))) ?_
 refine qo (uK (enter_inner _) fun W hW => StrO.up hW (II W p _ _ _ ((HEl.out 2 (by omega)).2.only (HO.out.trans hW) (fun _ _ h => h)) (by unfold BT; omega))) ?_
 refine qo (uSn HT.out) ?_
 refine qo (uA (.string (bstr t))) ?_
 simp only [setT, sC, sZ]
 refine dO fun w2 hW2 => ?_
 go_wp2
 go_ret
 exact StrO.mk rfl (HO.out.trans hW2)
set_option maxRecDepth 100000 in
set_option maxHeartbeats 8000000 in
theorem pe_k9 {d : Nat} (IE : ExR d) {w : World} {p : Nat → Prop} {at_ op width : Int} {num : Nat} {nm : LB} {A : Option Addr} {n c : Nat} {T : Nat → LB × Int} {t : LB} (ok : OkE 9 op width num nm n)
  (hr : Rw 56 7 w p A n (fun cs t => PrE d w p cs t.1 t.2) T) (ht : t = txE 9 op width num nm n (fun i => (T i).2) (fun i => (T i).1)) (hlen : t.length ≤ BT) :
  Calls Tryd.prog 26 #[.agg (cellsE 9 at_ op width num nm A n c).toArray] w (StrO t w) := by
 obtain ⟨wd, rfl⟩ := Int.eq_ofNat_of_zero_le ok.w.1
 obtain ⟨o, rfl⟩ := Int.eq_ofNat_of_zero_le ok.o.1
 have HWD := Lib.hid ok.w.2
 have HOP := Lib.hid ok.o.2
 have HNUM := Lib.hid ok.u

 have hn : n = 2 := ok.a9 rfl
 obtain ⟨bA, oA, C, rfl, hpA, hrng, hel⟩ := hr.open_ (by omega)
 have hn1 : 2 ≤ n := by omega
 clear hn
 have HRng := Lib.hid hrng
 have HEl := Lib.hid hel
 clear hrng hel
 replace ht : t = [123] ++ (T 0).1 ++ (T 1).1 ++ [125] := ht
 have HT := Lib.hid ht
 have hL := hlen
 have hL2 := hlen
 unfold BT at hL2
 rw [ht] at hL
 simp only [List.length_append, List.length_cons, List.length_nil, BT] at hL
 clear ok hr ht
 go_enter Tryd.func26, Tryd.ntmps26
 go_wp2_with (refine wpl_boxv rfl 56 (.tmp 0) rfl (some 1) rfl (cells := (cellsE 9 at_ (o : Int) (wd : Int) num nm (some ⟨bA, oA, none⟩) n c).toArray) rfl ?_)
 refine ⟨fun w1 b1 HK HO ha1 hb1 => ?_⟩
 have c0 : w1.cell? ⟨b1, 0, none⟩ = some (.int .i64 9) := cellB HK.out rfl
 go_upto_region 19 with (fail)
 refine ro (S := Only (fun _ => False) w1) (Only.refl _ _).drew (by kernel_rfl) (by kernel_rfl) (by kernel_rfl) ?_
 refine qo (uF fd_Expr_6) ?_
 refine qo (uC ctS_Expr fun W hW => cellB (boxG HK hW) rfl) ?_
 refine qo (uI 0 euS_Expr ezS_Expr) ?_
 refine qo (uW stt_Expr (HEl.out 0 (by omega)).1 fun W hW => (HRng.out.at_ (HO.out.trans hW) (fun h => h) (show 0 < _ by omega))) ?_
 simp only [setT, sC, sZ]
 refine qo (uK (enter_PrintExpr _) fun W hW => StrO.up hW (IE W p _ _ _ ((HEl.out 0 (by omega)).2.only (HO.out.trans hW) (fun _ _ h => h)) (by unfold BT; omega))) ?_
 refine qo uS ?_
 refine qo (uF fd_Expr_6) ?_
 refine qo (uC ctS_Expr fun W hW => cellB (boxG HK hW) rfl) ?_
 simp only [setT, sC, sZ]
 refine qo (uI 1 euS_Expr ezS_Expr) ?_
 refine qo (uW stt_Expr (HEl.out 1 (by omega)).1 fun W hW => (HRng.out.at_ (HO.out.trans hW) (fun h => h) (show 1 < _ by omega))) ?_
 refine qo (uK (enter_PrintExpr _) fun W hW => StrO.up hW (IE W p _ _ _ ((HEl.out 1 (by omega)).2.only (HO.out.trans hW) (fun _ _ h => h)) (by unfold BT; omega))) ?_
 refine qo uS ?_
 simp only [setT, sC, sZ]
 refine qo (uSn HT.out) ?_
 refine qo (uA (.string (bstr t))) ?_
 refine dO fun w2 hW2 => ?_
 simp only [setT, sC, sZ]
 go_wp2
 go_ret
 exact StrO.mk rfl (HO.out.trans hW2)
set_option maxRecDepth 100000 in
set_option maxHeartbeats 8000000 in
theorem pe_k0 {d : Nat} (IC : CmR d) {w : World} {p : Nat → Prop} {at_ op width : Int} {num : Nat} {nm : LB} {A : Option Addr} {n c : Nat} {T : Nat → LB × Int} {t : LB} (ok : OkE 0 op width num nm n)
  (hr : Rw 56 7 w p A n (fun cs t => PrE d w p cs t.1 t.2) T) (ht : t = txE 0 op width num nm n (fun i => (T i).2) (fun i => (T i).1)) (hlen : t.length ≤ BT) :
  Calls Tryd.prog 26 #[.agg (cellsE 0 at_ op width num nm A n c).toArray] w (StrO t w) := by
 obtain ⟨wd, rfl⟩ := Int.eq_ofNat_of_zero_le ok.w.1
 obtain ⟨o, rfl⟩ := Int.eq_ofNat_of_zero_le ok.o.1
 have HWD := Lib.hid ok.w.2
 have HOP := Lib.hid ok.o.2
 have HNUM := Lib.hid ok.u

 have HR := Lib.hid hr
 replace ht : t = [123] ++ comL (fun i => (T i).1) n ++ [125] := ht
 have HT := Lib.hid ht
 have hL := hlen
 have hL2 := hlen
 unfold BT at hL2
 rw [ht] at hL
 simp only [List.length_append, List.length_cons, List.length_nil, BT] at hL
 clear ok hr ht
 go_enter Tryd.func26, Tryd.ntmps26
 go_wp2_with (refine wpl_boxv rfl 56 (.tmp 0) rfl (some 1) rfl (cells := (cellsE 0 at_ (o : Int) (wd : Int) num nm A n c).toArray) rfl ?_)
 refine ⟨fun w1 b1 HK HO ha1 hb1 => ?_⟩
 have c0 : w1.cell? ⟨b1, 0, none⟩ = some (.int .i64 0) := cellB HK.out rfl
 go_upto_region 20 with (fail)
 refine rs (S := Only (fun _ => False) w1) (Only.refl _ _) ?_
 refine qs (uF fd_Expr_6) ?_
 refine qs (uC ctS_Expr fun W hW => cellB (boxG HK hW) rfl) ?_
 refine qs (uK (enter_comma _) fun W hW => StrO.up hW (IC W p _ _ _ _ (ExL.only HR.out (HO.out.trans hW) (fun _ _ h => h)) (by unfold BT; omega))) ?_
 refine qs uS ?_
 simp only [setT, sC, sZ]
 refine qs (uSn HT.out) ?_
 refine qs (uA (.string (bstr t))) ?_
 refine ds fun w2 hW2 => ?_
 simp only [setT, sC, sZ]
 go_wp2
 go_ret
 exact StrO.mk rfl (HO.out.trans hW2)
set_option maxRecDepth 100000 in
set_option maxHeartbeats 8000000 in
theorem pe_k8 {d : Nat} (IC : CmR d) {w : World} {p : Nat → Prop} {at_ op width : Int} {num : Nat} {nm : LB} {A : Option Addr} {n c : Nat} {T : Nat → LB × Int} {t : LB} (ok : OkE 8 op width num nm n)
  (hr : Rw 56 7 w p A n (fun cs t => PrE d w p cs t.1 t.2) T) (ht : t = txE 8 op width num nm n (fun i => (T i).2) (fun i => (T i).1)) (hlen : t.length ≤ BT) :
  Calls Tryd.prog 26 #[.agg (cellsE 8 at_ op width num nm A n c).toArray] w (StrO t w) := by
 obtain ⟨wd, rfl⟩ := Int.eq_ofNat_of_zero_le ok.w.1
 obtain ⟨o, rfl⟩ := Int.eq_ofNat_of_zero_le ok.o.1
 have HWD := Lib.hid ok.w.2
 have HOP := Lib.hid ok.o.2
 have HNUM := Lib.hid ok.u

 have HR := Lib.hid hr
 replace ht : t = [123] ++ comL (fun i => (T i).1) n ++ [125] := ht
 have HT := Lib.hid ht
 have hL := hlen
 have hL2 := hlen
 unfold BT at hL2
 rw [ht] at hL
 simp only [List.length_append, List.length_cons, List.length_nil, BT] at hL
 clear ok hr ht
 go_enter Tryd.func26, Tryd.ntmps26
 go_wp2_with (refine wpl_boxv rfl 56 (.tmp 0) rfl (some 1) rfl (cells := (cellsE 8 at_ (o : Int) (wd : Int) num nm A n c).toArray) rfl ?_)
 refine ⟨fun w1 b1 HK HO ha1 hb1 => ?_⟩
 have c0 : w1.cell? ⟨b1, 0, none⟩ = some (.int .i64 8) := cellB HK.out rfl
 go_upto_region 20 with (fail)
 refine rs (S := Only (fun _ => False) w1) (Only.refl _ _) ?_
 refine qs (uF fd_Expr_6) ?_
 refine qs (uC ctS_Expr fun W hW => cellB (boxG HK hW) rfl) ?_
 refine qs (uK (enter_comma _) fun W hW => StrO.up hW (IC W p _ _ _ _ (ExL.only HR.out (HO.out.trans hW) (fun _ _ h => h)) (by unfold BT; omega))) ?_
 refine qs uS ?_
 simp only [setT, sC, sZ]
 refine qs (uSn HT.out) ?_
 refine qs (uA (.string (bstr t))) ?_
 refine ds fun w2 hW2 => ?_
 simp only [setT, sC, sZ]
 go_wp2
 go_ret
 exact StrO.mk rfl (HO.out.trans hW2)
theorem pe_succ {d : Nat} (IE : ExR d) (II : InR d) (IC : CmR d) : ExR (d + 1) := by
 intro w p cs t k ⟨at_, op, width, num, nm, A, n, c, T, e, ok, hr, ht⟩ hl
 subst e
 have hk : k = 0 ∨ k = 1 ∨ k = 2 ∨ k = 3 ∨ k = 4 ∨ k = 5 ∨ k = 6 ∨ k = 7 ∨ k = 8 ∨ k = 9 := by have := ok.k; omega
 rcases hk with rfl | rfl | rfl | rfl | rfl | rfl | rfl | rfl | rfl | rfl
 ·
  exact pe_k0 IC ok hr ht hl
 ·
  by_cases hz : width = 0
  ·
   exact pe_k1a ok hr ht hl hz
  ·
   exact pe_k1b ok hr ht hl hz
 ·
  exact pe_k2 ok hr ht hl
 ·
  exact pe_k3 IE ok hr ht hl
 ·
  exact pe_k4 IE ok hr ht hl
 ·
  exact pe_k5 II ok hr ht hl
 ·
  exact pe_k6 II ok hr ht hl
 ·
  exact pe_k7 II ok hr ht hl
 ·
  exact pe_k8 IC ok hr ht hl
 ·
  exact pe_k9 IE ok hr ht hl
set_option maxRecDepth 100000 in
set_option maxHeartbeats 8000000 in
theorem pin_op {d : Nat} (IE : ExR d) {w : World} {p : Nat → Prop} {cs : List Value} {t : LB} {k : Int} (h : PrE d w p cs t k) (hk : k = 5 ∨ k = 6 ∨ k = 7) (hlen : (innL k t).length ≤ BT) :
  Calls Tryd.prog 50 #[.agg cs.toArray] w (StrO (innL k t) w) := by
 have hT : innL k t = [40] ++ t ++ [41] := if_pos hk
 rw [hT] at hlen ⊢
 simp only [List.length_append, List.length_cons, List.length_nil, BT] at hlen
 clear hT
 have h7 := h.len
 have HP := Lib.hid h
 obtain ⟨x0, h0⟩ : ∃ x : List Value, cs = .int .i64 k :: x := by
  match d, h with
  | d + 1, ⟨a1, a2, a3, a4, a5, a6, a7, a8, a9, e, _⟩ => exact ⟨_, e⟩
 have H0 := Lib.hid h0
 have H7 := Lib.hid h7
 clear h h0 h7
 go_enter Tryd.func50, Tryd.ntmps50
 go_wp2_with (refine wpl_boxv rfl 56 (.tmp 0) rfl (some 1) rfl (cells := cs.toArray) rfl ?_)
 refine ⟨fun w1 b1 HK HO ha1 hb1 => ?_⟩
 go_upto_region 1 with (fail)
 refine rs (S := Only (fun _ => False) w1) (Only.refl _ _) ?_
 refine qs (uW stt_Expr H7.out fun W hW => wholeB (boxG HK hW)) ?_
 refine qs (uK (enter_PrintExpr _) fun W hW => StrO.up hW (IE W p _ _ _ (HP.out.only (HO.out.trans hW) (fun _ _ h => h)) (by unfold BT; omega))) ?_
 refine qs (uA (.string (bstr t))) ?_
 refine ds fun w2 hW2 => ?_
 simp only [setT, sC, sZ]
 have HO2 := Lib.hid (HO.out.trans hW2)
 have c0 : w2.cell? ⟨b1, 0, none⟩ = some (.int .i64 k) := cellB (boxG HK hW2) (by rw [H0.out]; rfl)
 clear hW2
 rcases hk with rfl | rfl | rfl
 all_goals
  go_upto_region 3 with (fail)
  refine rs (S := Only (fun _ => False) w2) (Only.refl _ _) ?_
  refine qs uMt ?_
  refine qs uS ?_
  refine qs uS ?_
  refine qs (uA (.string (bstr (([40] ++ t) ++ [41])))) ?_
  simp only [setT, sC, sZ]
  refine ds fun w3 hW3 => ?_
  go_wp2
  go_ret
  exact StrO.mk rfl (HO2.out.trans hW3)
set_option maxRecDepth 100000 in
set_option maxHeartbeats 8000000 in
theorem pin_no {d : Nat} (IE : ExR d) {w : World} {p : Nat → Prop} {cs : List Value} {t : LB} {k : Int} (h : PrE d w p cs t k) (hk : ¬ (k = 5 ∨ k = 6 ∨ k = 7)) (hlen : (innL k t).length ≤ BT) :
  Calls Tryd.prog 50 #[.agg cs.toArray] w (StrO (innL k t) w) := by
 have hT : innL k t = t := if_neg hk
 rw [hT] at hlen ⊢
 unfold BT at hlen
 clear hT
 have h7 := h.len
 have HP := Lib.hid h
 obtain ⟨x0, h0⟩ : ∃ x : List Value, cs = .int .i64 k :: x := by
  match d, h with
  | d + 1, ⟨a1, a2, a3, a4, a5, a6, a7, a8, a9, e, _⟩ => exact ⟨_, e⟩
 have H0 := Lib.hid h0
 have H7 := Lib.hid h7
 clear h h0 h7
 go_enter Tryd.func50, Tryd.ntmps50
 go_wp2_with (refine wpl_boxv rfl 56 (.tmp 0) rfl (some 1) rfl (cells := cs.toArray) rfl ?_)
 refine ⟨fun w1 b1 HK HO ha1 hb1 => ?_⟩
 go_upto_region 1 with (fail)
 refine rs (S := Only (fun _ => False) w1) (Only.refl _ _) ?_
 refine qs (uW stt_Expr H7.out fun W hW => wholeB (boxG HK hW)) ?_
 refine qs (uK (enter_PrintExpr _) fun W hW => StrO.up hW (IE W p _ _ _ (HP.out.only (HO.out.trans hW) (fun _ _ h => h)) (by unfold BT; omega))) ?_
 refine qs (uA (.string (bstr t))) ?_
 refine ds fun w2 hW2 => ?_
 simp only [setT, sC, sZ]
 have HO2 := Lib.hid (HO.out.trans hW2)
 have c0 : w2.cell? ⟨b1, 0, none⟩ = some (.int .i64 k) := cellB (boxG HK hW2) (by rw [H0.out]; rfl)
 clear hW2
 have h5 : (k == 5) = false := by rw [beq_eq_false_iff_ne]; omega
 have h6 : (k == 6) = false := by rw [beq_eq_false_iff_ne]; omega
 have h7 : (k == 7) = false := by rw [beq_eq_false_iff_ne]; omega
 clear hk
 go_wp2
 go_ret
 exact StrO.mk rfl HO2.out
theorem pin_of {d : Nat} (IE : ExR d) : InR d := fun w p cs t k h hl => by
 by_cases hk : k = 5 ∨ k = 6 ∨ k = 7
 ·
  exact pin_op IE h hk hl
 ·
  exact pin_no IE h hk hl
set_option maxRecDepth 100000 in
set_option maxHeartbeats 8000000 in
theorem pcm_of {d : Nat} (IE : ExR d) : CmR d := by
 intro w p A n c T hr hlen
 have hn3 : n ≤ 3000000 := hr.1
 obtain ⟨tx, htx⟩ : ∃ x, x = comL (fun i => (T i).1) := ⟨_, rfl⟩
 rw [← htx] at hlen ⊢
 have HTX := Lib.hid htx
 have HMON := Lib.hid (comL_mono (T := fun i => (T i).1) (n := n))
 rw [← htx] at HMON
 have hl2 := hlen
 unfold BT at hl2
 have HR := Lib.hid hr
 clear hr htx
 go_enter Tryd.func51, Tryd.ntmps51
 go_wp2
 go_loopw [3, 4] (fun vs vi wr => ∃ (i : Nat), i ≤ n ∧ vi = .int .i64 i ∧ vs = .string (bstr (tx i)) ∧ Hid (Only (fun _ => False) w wr)) (fun _ vi _ => n - (intOf vi).toNat)
 case atStart => exact ⟨0, Nat.zero_le _, rfl, by rw [HTX.out]; rfl, Lib.hid (Only.refl _ _)⟩
 case round =>
  obtain ⟨i, hi, rfl, rfl, HO⟩ := hrel
  have hm := HMON.out i hi
  by_cases hlt : i < n
  ·
   have hm1 := HMON.out (i + 1) (by omega)
   obtain ⟨ti, hti⟩ : ∃ x, x = (T i).1 := ⟨_, rfl⟩
   have hstep : tx (i + 1) = tx i ++ (if i = 0 then [] else [44, 32]) ++ ti := by rw [HTX.out, hti]; rfl
   have hls := congrArg List.length hstep
   simp only [List.length_append] at hls
   obtain ⟨bA, oA, C, rfl, hpA, hrng, hel⟩ := Rw.open_ HR.out (by omega)
   have HRng := Lib.hid hrng
   have HEl := Lib.hid hel
   have HTI := Lib.hid hti
   clear hrng hel hti
   by_cases h0 : i = 0
   ·
    subst h0
    have HST : Hid (tx (0 + 1) = tx 0 ++ ti) := Lib.hid (by rw [hstep]; simp)
    have hm2 := hm1
    rw [HST.out] at hm2
    simp only [List.length_append] at hm2
    clear hstep hls
    go_upto_region 7 with (fail)
    refine rs (S := Only (fun _ => False) wr) (Only.refl _ _) ?_
    refine qs uMt ?_
    refine qs uMs ?_
    refine qs uMi ?_
    refine qs (uI 0 euS_Expr ezS_Expr (hlt := hlt)) ?_
    simp only [setT, sC, sZ]
    refine qs (uW stt_Expr (HEl.out 0 hlt).1 fun W hW => (HRng.out.at_ (HO.out.trans hW) (fun h => h) hlt)) ?_
    refine qs (uK (enter_PrintExpr _) fun W hW => StrO.upR HTI.out hW (IE W p _ _ _ ((HEl.out 0 hlt).2.only (HO.out.trans hW) (fun _ _ h => h)) (by rw [← HTI.out]; unfold BT; omega))) ?_
    refine qs (uSn HST.out) ?_
    refine qs (uA (.string (bstr (tx (0 + 1))))) ?_
    simp only [setT, sC, sZ]
    refine ds fun w3 hW3 => ?_
    go_wp2
    go_roundw
    case rel => exact ⟨0 + 1, by omega, by go_num, rfl, Lib.hid (HO.out.trans hW3)⟩
    case measure => simp [intOf]; omega
   ·
    have hip : (0 : Int) < (i : Int) := by omega
    have HST : Hid (tx (i + 1) = tx i ++ [44, 32] ++ ti) := Lib.hid (by rw [hstep, if_neg h0])
    have hm2 := hm1
    rw [HST.out] at hm2
    simp only [List.length_append, List.length_cons, List.length_nil] at hm2
    clear hstep hls h0
    go_upto_region 6 with (fail)
    refine rs (S := Only (fun _ => False) wr) (Only.refl _ _) ?_
    refine qs uMt ?_
    refine qs uS ?_
    refine qs (uA (.string (bstr ((tx i) ++ [44, 32])))) ?_
    refine ds fun w2 hW2 => ?_
    simp only [setT, sC, sZ]
    go_upto_region 7 with (fail)
    refine rs hW2 ?_
    refine qs uMt ?_
    refine qs uMs ?_
    refine qs uMi ?_
    refine qs (uI i euS_Expr ezS_Expr (hlt := hlt)) ?_
    simp only [setT, sC, sZ]
    refine qs (uW stt_Expr (HEl.out i hlt).1 fun W hW => (HRng.out.at_ (HO.out.trans hW) (fun h => h) hlt)) ?_
    refine qs (uK (enter_PrintExpr _) fun W hW => StrO.upR HTI.out hW (IE W p _ _ _ ((HEl.out i hlt).2.only (HO.out.trans hW) (fun _ _ h => h)) (by rw [← HTI.out]; unfold BT; omega))) ?_
    refine qs (uSn HST.out) ?_
    refine qs (uA (.string (bstr (tx (i + 1))))) ?_
    simp only [setT, sC, sZ]
    refine ds fun w3 hW3 => ?_
    go_wp2
    go_roundw
    case rel => exact ⟨i + 1, by omega, by go_num, rfl, Lib.hid (HO.out.trans hW3)⟩
    case measure => simp [intOf]; omega
  ·
   obtain rfl : i = n := by omega
   go_wp2
   go_ret
   exact StrO.mk rfl HO.out
theorem pe_all : ∀ d, ExR d
 | 0 => fun _ _ _ _ _ h => h.elim
 | d + 1 => pe_succ (pe_all d) (pin_of (pe_all d)) (pcm_of (pe_all d))
end Go.Proofs.YtbdcpealkllfnaaDoor
