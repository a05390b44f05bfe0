/- The printers of trees: what their walks share: how a text is told, fields of structs, elements of rows. No condition. The reference's decimal and sign, walked. No condition. -/
import Derived.Test.YtbdcpealkllfnaaDoorUnx
import Derived.Test.YtbdcpealkllfnaaDoorItC
import Derived.Lib.ItoaMem
namespace Go.Proofs.YtbdcpealkllfnaaDoor
open Go.RowKit Go.Deep

theorem catL_mono {T : Nat → LB} {n : Nat} : ∀ i, i ≤ n → (catL T i).length ≤ (catL T n).length := by
 induction n with
 | zero =>
  intro i hi
  obtain rfl : i = 0 := by omega
  exact Nat.le_refl _
 | succ n ih =>
  intro i hi
  by_cases h : i = n + 1
  ·
   subst h; exact Nat.le_refl _
  ·
   have := ih i (by omega)
   simp only [catL, List.length_append]; omega
theorem comL_mono {T : Nat → LB} {n : Nat} : ∀ i, i ≤ n → (comL T i).length ≤ (comL T n).length := by
 induction n with
 | zero =>
  intro i hi
  obtain rfl : i = 0 := by omega
  exact Nat.le_refl _
 | succ n ih =>
  intro i hi
  by_cases h : i = n + 1
  ·
   subst h; exact Nat.le_refl _
  ·
   have := ih i (by omega)
   simp only [comL, List.length_append]; omega
/-- the longest text -/
def BT : Nat := 1000000000000
/-- a text is told; nothing that was there has changed -/
def StrO (t : LB) (w : World) (e : Ending) (w' : World) : Prop := e = .returned (.string (bstr t)) ∧ Only (fun _ => False) w w'
theorem StrO.mk {t t' : LB} {w w' : World} (ht : t' = t) (h : Only (fun _ => False) w w') : StrO t w (.returned (.string (bstr t'))) w' := ⟨by rw [ht], h⟩
section
variable {P : Program} {w W : World} {b m n sz off : Nat} {cs mid : List Value} {v : Value} {ty : TypeId} {t : LB}
theorem StrO.up {f : FuncId} {args : Array Value} (hW : Only (fun _ => False) w W) (h : Calls P f args W (StrO t W)) : Calls P f args W (fun e w' => e = .returned (.string (bstr t)) ∧ Only (fun _ => False) w w') :=
 h.mono fun _ _ h1 => ⟨h1.1, hW.trans h1.2⟩
theorem StrO.upR {f : FuncId} {args : Array Value} {t1 : LB} (hx : t = t1) (hW : Only (fun _ => False) w W) (h : Calls P f args W (StrO t1 W)) : Calls P f args W (fun e w' => e = .returned (.string (bstr t)) ∧ Only (fun _ => False) w w') := by
 subst hx; exact StrO.up hW h
/-- the cells of a struct within another's -/
def Seg (cs : List Value) (m : Nat) (mid : List Value) : Prop := ∃ pre post, cs = pre ++ (mid ++ post) ∧ pre.length = m
theorem boxG (h : Hid (w.heap[b]? = some (.cells cs.toArray ty))) (hW : Only (fun _ => False) w W) : W.heap[b]? = some (.cells cs.toArray ty) := hW.heap h.out (fun h => h)
theorem cellB (h : W.heap[b]? = some (.cells cs.toArray ty)) (hc : cs[m]? = some v) : W.cell? ⟨b, m, none⟩ = some v := by
 rw [cell_of_row W b m _ _ _ h]; simpa using hc
theorem segB (h : W.heap[b]? = some (.cells cs.toArray ty)) (hs : Seg cs m mid) : W.rangeAt b m mid := by
 obtain ⟨pre, post, rfl, rfl⟩ := hs
 intro j v hj
 rw [cell_of_row W b _ _ _ _ h]
 have hlt := (List.getElem?_eq_some_iff.1 hj).1
 simp only [List.getElem?_toArray]
 rw [List.getElem?_append_right (by omega), Nat.add_sub_cancel_left, List.getElem?_append_left hlt]
 exact hj
theorem wholeB (h : W.heap[b]? = some (.cells cs.toArray ty)) : W.rangeAt b 0 cs := segB h ⟨[], [], by simp, rfl⟩
/-- elements of a row, in any world in which the row's block stands -/
def RngG (w : World) (b off sz n : Nat) (C : Nat → List Value) : Prop := b < w.heap.size ∧ ∀ W : World, W.heap[b]? = w.heap[b]? → ∀ i, i < n → W.rangeAt b (off + i * sz) (C i)
theorem RngG.at_ {C : Nat → List Value} {S : Nat → Prop} (h : RngG w b off sz n C) (hW : Only S w W) (hS : ¬ S b) {i : Nat} (hi : i < n) : W.rangeAt b (off + i * sz) (C i) := h.2 W (hW.block b h.1 hS) i hi
theorem Rw.open_ {τ : Type} {e : TypeId} {p : Nat → Prop} {A : Option Addr} {B : List Value → τ → Prop} {T : Nat → τ} (h : Rw e sz w p A n B T) (hn : 0 < n) :
  ∃ b off C, A = some ⟨b, off, none⟩ ∧ p b ∧ RngG w b off sz n C ∧ ∀ i, i < n → (C i).length = sz ∧ B (C i) (T i) := by
 obtain ⟨_, C, hr, hc⟩ := h
 obtain ⟨b, off, cur, rfl, hp, hh, hcell⟩ := hr hn
 refine ⟨b, off, C, rfl, hp, ⟨(Array.getElem?_eq_some_iff.1 hh).1, fun W hW i hi j v hj => ?_⟩, hc⟩
 have hlt := (List.getElem?_eq_some_iff.1 hj).1
 rw [(hc i hi).1] at hlt
 rw [cell_of_row W b _ _ _ _ (hW.trans hh), hcell i hi j hlt]
 simp only [rowF, List.getD_eq_getElem?_getD, hj]; rfl
theorem cellE {C : List Value} (h : W.rangeAt b off C) (hc : C[m]? = some v) : W.cell? ⟨b, off + m, none⟩ = some v := h m v hc
theorem segE {C : List Value} (h : W.rangeAt b off C) (hs : Seg C m mid) : W.rangeAt b (off + m) mid := by
 obtain ⟨pre, post, rfl, rfl⟩ := hs
 intro j v hj
 have hlt := (List.getElem?_eq_some_iff.1 hj).1
 have := h (pre.length + j) v (by rw [List.getElem?_append_right (by omega), Nat.add_sub_cancel_left, List.getElem?_append_left hlt]; exact hj)
 rw [Nat.add_assoc]; exact this
end
/-! ### This program's structs and functions -/
theorem stt_Expr : ∃ fs, Tryd.prog.underlying 56 = some (.struct fs) ∧ (Tryd.prog.info? 56).map (·.size) = some 7 := ⟨_, Tryd.underlying56, by kernel_rfl⟩
theorem fd_Expr_0 : FieldAt Tryd.prog 56 0 0 := fun b off w => by go_simp
theorem fd_Expr_1 : FieldAt Tryd.prog 56 1 1 := fun b off w => by go_simp
theorem fd_Expr_2 : FieldAt Tryd.prog 56 2 2 := fun b off w => by go_simp
theorem fd_Expr_3 : FieldAt Tryd.prog 56 3 3 := fun b off w => by go_simp
theorem fd_Expr_4 : FieldAt Tryd.prog 56 4 4 := fun b off w => by go_simp
theorem fd_Expr_5 : FieldAt Tryd.prog 56 5 5 := fun b off w => by go_simp
theorem fd_Expr_6 : FieldAt Tryd.prog 56 6 6 := fun b off w => by go_simp
theorem stt_Range : ∃ fs, Tryd.prog.underlying 61 = some (.struct fs) ∧ (Tryd.prog.info? 61).map (·.size) = some 15 := ⟨_, Tryd.underlying61, by kernel_rfl⟩
theorem fd_Range_0 : FieldAt Tryd.prog 61 0 0 := fun b off w => by go_simp
theorem fd_Range_1 : FieldAt Tryd.prog 61 1 1 := fun b off w => by go_simp
theorem fd_Range_2 : FieldAt Tryd.prog 61 2 8 := fun b off w => by go_simp
theorem stt_Bind : ∃ fs, Tryd.prog.underlying 58 = some (.struct fs) ∧ (Tryd.prog.info? 58).map (·.size) = some 10 := ⟨_, Tryd.underlying58, by kernel_rfl⟩
theorem fd_Bind_0 : FieldAt Tryd.prog 58 0 0 := fun b off w => by go_simp
theorem fd_Bind_1 : FieldAt Tryd.prog 58 1 1 := fun b off w => by go_simp
theorem fd_Bind_2 : FieldAt Tryd.prog 58 2 2 := fun b off w => by go_simp
theorem fd_Bind_3 : FieldAt Tryd.prog 58 3 3 := fun b off w => by go_simp
theorem stt_Port : ∃ fs, Tryd.prog.underlying 63 = some (.struct fs) ∧ (Tryd.prog.info? 63).map (·.size) = some 19 := ⟨_, Tryd.underlying63, by kernel_rfl⟩
theorem fd_Port_0 : FieldAt Tryd.prog 63 0 0 := fun b off w => by go_simp
theorem fd_Port_1 : FieldAt Tryd.prog 63 1 1 := fun b off w => by go_simp
theorem fd_Port_2 : FieldAt Tryd.prog 63 2 2 := fun b off w => by go_simp
theorem fd_Port_3 : FieldAt Tryd.prog 63 3 3 := fun b off w => by go_simp
theorem fd_Port_4 : FieldAt Tryd.prog 63 4 4 := fun b off w => by go_simp
theorem stt_Item : ∃ fs, Tryd.prog.underlying 75 = some (.struct fs) ∧ (Tryd.prog.info? 75).map (·.size) = some 65 := ⟨_, Tryd.underlying75, by kernel_rfl⟩
theorem fd_Item_0 : FieldAt Tryd.prog 75 0 0 := fun b off w => by go_simp
theorem fd_Item_1 : FieldAt Tryd.prog 75 1 1 := fun b off w => by go_simp
theorem fd_Item_2 : FieldAt Tryd.prog 75 2 2 := fun b off w => by go_simp
theorem fd_Item_3 : FieldAt Tryd.prog 75 3 3 := fun b off w => by go_simp
theorem fd_Item_4 : FieldAt Tryd.prog 75 4 4 := fun b off w => by go_simp
theorem fd_Item_5 : FieldAt Tryd.prog 75 5 19 := fun b off w => by go_simp
theorem fd_Item_6 : FieldAt Tryd.prog 75 6 34 := fun b off w => by go_simp
theorem fd_Item_7 : FieldAt Tryd.prog 75 7 35 := fun b off w => by go_simp
theorem fd_Item_8 : FieldAt Tryd.prog 75 8 42 := fun b off w => by go_simp
theorem fd_Item_9 : FieldAt Tryd.prog 75 9 49 := fun b off w => by go_simp
theorem fd_Item_10 : FieldAt Tryd.prog 75 10 50 := fun b off w => by go_simp
theorem fd_Item_11 : FieldAt Tryd.prog 75 11 57 := fun b off w => by go_simp
theorem fd_Item_12 : FieldAt Tryd.prog 75 12 58 := fun b off w => by go_simp
theorem fd_Item_13 : FieldAt Tryd.prog 75 13 59 := fun b off w => by go_simp
theorem fd_Item_14 : FieldAt Tryd.prog 75 14 60 := fun b off w => by go_simp
theorem fd_Item_15 : FieldAt Tryd.prog 75 15 61 := fun b off w => by go_simp
theorem fd_Item_16 : FieldAt Tryd.prog 75 16 62 := fun b off w => by go_simp
theorem fd_Item_17 : FieldAt Tryd.prog 75 17 63 := fun b off w => by go_simp
theorem fd_Item_18 : FieldAt Tryd.prog 75 18 64 := fun b off w => by go_simp
theorem stt_Module : ∃ fs, Tryd.prog.underlying 40 = some (.struct fs) ∧ (Tryd.prog.info? 40).map (·.size) = some 5 := ⟨_, Tryd.underlying40, by kernel_rfl⟩
theorem fd_Module_0 : FieldAt Tryd.prog 40 0 0 := fun b off w => by go_simp
theorem fd_Module_1 : FieldAt Tryd.prog 40 1 1 := fun b off w => by go_simp
theorem fd_Module_2 : FieldAt Tryd.prog 40 2 2 := fun b off w => by go_simp
theorem fd_Module_3 : FieldAt Tryd.prog 40 3 3 := fun b off w => by go_simp
theorem fd_Module_4 : FieldAt Tryd.prog 40 4 4 := fun b off w => by go_simp
theorem stt_Stmt : ∃ fs, Tryd.prog.underlying 73 = some (.struct fs) ∧ (Tryd.prog.info? 73).map (·.size) = some 7 := ⟨_, Tryd.underlying73, by kernel_rfl⟩
theorem fd_Stmt_0 : FieldAt Tryd.prog 73 0 0 := fun b off w => by go_simp
theorem fd_Stmt_1 : FieldAt Tryd.prog 73 1 1 := fun b off w => by go_simp
theorem fd_Stmt_2 : FieldAt Tryd.prog 73 2 2 := fun b off w => by go_simp
theorem fd_Stmt_3 : FieldAt Tryd.prog 73 3 3 := fun b off w => by go_simp
theorem fd_Stmt_4 : FieldAt Tryd.prog 73 4 4 := fun b off w => by go_simp
theorem fd_Stmt_5 : FieldAt Tryd.prog 73 5 5 := fun b off w => by go_simp
theorem fd_Stmt_6 : FieldAt Tryd.prog 73 6 6 := fun b off w => by go_simp
theorem stt_Arm : ∃ fs, Tryd.prog.underlying 117 = some (.struct fs) ∧ (Tryd.prog.info? 117).map (·.size) = some 9 := ⟨_, Tryd.underlying117, by kernel_rfl⟩
theorem fd_Arm_0 : FieldAt Tryd.prog 117 0 0 := fun b off w => by go_simp
theorem fd_Arm_1 : FieldAt Tryd.prog 117 1 1 := fun b off w => by go_simp
theorem fd_Arm_2 : FieldAt Tryd.prog 117 2 2 := fun b off w => by go_simp
theorem ctint : CellT Tryd.prog 3 := fun p v w h => by go_simp
theorem ctuint64 : CellT Tryd.prog 31 := fun p v w h => by go_simp
theorem ctbool : CellT Tryd.prog 4 := fun p v w h => by go_simp
theorem ctstring : CellT Tryd.prog 9 := fun p v w h => by go_simp
theorem ctS_Expr : CellT Tryd.prog 54 := fun p v w h => by go_simp
theorem ctS_Stmt : CellT Tryd.prog 70 := fun p v w h => by go_simp
theorem ctS_Arm : CellT Tryd.prog 71 := fun p v w h => by go_simp
theorem ctS_Bind : CellT Tryd.prog 36 := fun p v w h => by go_simp
theorem ctS_Port : CellT Tryd.prog 37 := fun p v w h => by go_simp
theorem ctS_Item : CellT Tryd.prog 38 := fun p v w h => by go_simp
theorem ctS_Module : CellT Tryd.prog 24 := fun p v w h => by go_simp
theorem euS_Expr : Tryd.prog.underlying 54 = some (.slice (Tryd.prog.elem 54)) := by go_simp
theorem ezS_Expr : ∀ w, (sizeOf (Tryd.prog.elem 54)).run Tryd.prog w = .ok 7 w := fun w => by go_simp
theorem euS_Bind : Tryd.prog.underlying 36 = some (.slice (Tryd.prog.elem 36)) := by go_simp
theorem ezS_Bind : ∀ w, (sizeOf (Tryd.prog.elem 36)).run Tryd.prog w = .ok 10 w := fun w => by go_simp
theorem euS_Port : Tryd.prog.underlying 37 = some (.slice (Tryd.prog.elem 37)) := by go_simp
theorem ezS_Port : ∀ w, (sizeOf (Tryd.prog.elem 37)).run Tryd.prog w = .ok 19 w := fun w => by go_simp
theorem euS_Item : Tryd.prog.underlying 38 = some (.slice (Tryd.prog.elem 38)) := by go_simp
theorem ezS_Item : ∀ w, (sizeOf (Tryd.prog.elem 38)).run Tryd.prog w = .ok 65 w := fun w => by go_simp
theorem euS_Module : Tryd.prog.underlying 24 = some (.slice (Tryd.prog.elem 24)) := by go_simp
theorem ezS_Module : ∀ w, (sizeOf (Tryd.prog.elem 24)).run Tryd.prog w = .ok 5 w := fun w => by go_simp
theorem euS_Stmt : Tryd.prog.underlying 70 = some (.slice (Tryd.prog.elem 70)) := by go_simp
theorem ezS_Stmt : ∀ w, (sizeOf (Tryd.prog.elem 70)).run Tryd.prog w = .ok 7 w := fun w => by go_simp
theorem euS_Arm : Tryd.prog.underlying 71 = some (.slice (Tryd.prog.elem 71)) := by go_simp
theorem ezS_Arm : ∀ w, (sizeOf (Tryd.prog.elem 71)).run Tryd.prog w = .ok 9 w := fun w => by go_simp
theorem enter_decimal (args : Array Value) (w : World) : (callFunc 48 args).run Tryd.prog w = .ok (.enter 48 args) w := by go_simp
theorem enter_sign (args : Array Value) (w : World) : (callFunc 49 args).run Tryd.prog w = .ok (.enter 49 args) w := by go_simp
theorem enter_inner (args : Array Value) (w : World) : (callFunc 50 args).run Tryd.prog w = .ok (.enter 50 args) w := by go_simp
theorem enter_comma (args : Array Value) (w : World) : (callFunc 51 args).run Tryd.prog w = .ok (.enter 51 args) w := by go_simp
theorem enter_PrintExpr (args : Array Value) (w : World) : (callFunc 26 args).run Tryd.prog w = .ok (.enter 26 args) w := by go_simp
theorem enter_printLoop (args : Array Value) (w : World) : (callFunc 67 args).run Tryd.prog w = .ok (.enter 67 args) w := by go_simp
theorem enter_PrintStmt (args : Array Value) (w : World) : (callFunc 65 args).run Tryd.prog w = .ok (.enter 65 args) w := by go_simp
theorem enter_printSpan (args : Array Value) (w : World) : (callFunc 27 args).run Tryd.prog w = .ok (.enter 27 args) w := by go_simp
theorem enter_printBinds (args : Array Value) (w : World) : (callFunc 66 args).run Tryd.prog w = .ok (.enter 66 args) w := by go_simp
theorem enter_printItem (args : Array Value) (w : World) : (callFunc 52 args).run Tryd.prog w = .ok (.enter 52 args) w := by go_simp
theorem enter_printItems (args : Array Value) (w : World) : (callFunc 28 args).run Tryd.prog w = .ok (.enter 28 args) w := by go_simp
theorem enter_printModule (args : Array Value) (w : World) : (callFunc 13 args).run Tryd.prog w = .ok (.enter 13 args) w := by go_simp
theorem enter_PrintText (args : Array Value) (w : World) : (callFunc 8 args).run Tryd.prog w = .ok (.enter 8 args) w := by go_simp
end Go.Proofs.YtbdcpealkllfnaaDoor
namespace Go.Proofs.YtbdcpealkllfnaaDoor
open Go.RowKit Go.Deep

theorem Below.only {w w' : World} (h : Below w.heap.size w w') : Only (fun _ => False) w w' := ⟨h.os, h.tape, h.output, h.size, fun k hk _ => h.block k hk⟩
theorem dg_step {n : Nat} (h : ¬ n < 10) : digL n = digL (n / 10) ++ [UInt8.ofNat (48 + n % 10)] := by
 show Lib.decDigits n = Lib.decDigits (n / 10) ++ _
 rw [Lib.decDigits, dif_neg h]
theorem dg_last {n : Nat} (h : n < 10) : digL n = [UInt8.ofNat (48 + n)] := by
 show Lib.decDigits n = _
 rw [Lib.decDigits, dif_pos h]
theorem dg_len (n k : Nat) (h : n < 10 ^ (k + 1)) : (digL n).length ≤ k + 1 := by
 induction k generalizing n with
 | zero => rw [dg_last (by simpa using h)]; simp
 | succ k ih =>
  by_cases h10 : n < 10
  ·
   rw [dg_last h10]; simp
  ·
   rw [dg_step h10]
   have := ih (n / 10) (by rw [Nat.pow_succ] at h; omega)
   simp; omega
theorem dg_len20 (n : Nat) (h : n < 18446744073709551616) : (digL n).length ≤ 20 := dg_len n 19 (by omega)
theorem run_catB {P : Program} (a b : List UInt8) (h : a.length + b.length ≤ 140737488355328) (w : World) : (Op.stringOp .add (bstr a) (bstr b)).run P w = .ok (.string (bstr (a ++ b))) w := by
 rw [run_string_add_sum w _ _ (by rw [bstr_size, bstr_size]; omega)]
 congr 2
theorem conv1 (w : World) (c : Int) (b : UInt8) (h : c = (b.toNat : Int)) :
  (convert 44 9 (.slice (some ⟨w.heap.size, 0, none⟩) 1 1)).run Tryd.prog (w.alloc (.cells #[.int .u8 c] 5)) = .ok (.string (bstr [b])) (w.alloc (.cells #[.int .u8 c] 5)) := by
 subst h
 refine run_convert_bytes_back (P := Tryd.prog) _ 44 9 5 ⟨w.heap.size, 0, none⟩ 1 [b] Tryd.underlying44 Tryd.underlying5 Tryd.underlying9 fun j hj => ?_
 obtain rfl : j = 0 := by simpa using hj
 simp [Addr.add, World.cell?_alloc_new]
theorem ofNat_dg (m : Nat) (h : m < 10) : (48 + (m : Int)) = ((UInt8.ofNat (48 + m)).toNat : Int) := by
 rw [UInt8.toNat_ofNat', Nat.mod_eq_of_lt (by omega)]
 omega
set_option maxRecDepth 100000 in
set_option maxHeartbeats 1000000 in
theorem decimal_any (n : Nat) (w : World) (hn : n < 18446744073709551616) :
  Calls Tryd.prog 48 #[.int .u64 n] w (StrO (digL n) w) := by
 go_enter Tryd.func48, Tryd.ntmps48
 go_wp2
 go_loopw [0, 3] (fun v s wr => ∃ (m : Nat) (l : List UInt8), v = .int .u64 m ∧ s = .string (bstr l) ∧ Hid (digL m ++ l = digL n ∧ Below w.heap.size w wr ∧ m ≤ n ∧ l.length ≤ 20)) (fun v _ _ => (intOf v).toNat)
 case atStart => exact ⟨n, [], rfl, rfl, by simp, Below.refl _ _, Nat.le_refl _, by simp⟩
 case round =>
  obtain ⟨m, l, rfl, rfl, HM⟩ := hrel
  have h1 : (m : Int) ≤ 18446744073709551615 := by have := HM.out.2.2.1; omega
  by_cases h : m < 10
  ·
   have hd : (48 + (m : Int)) = ((UInt8.ofNat (48 + m)).toNat : Int) := ofNat_dg m h
   have HE := Lib.hid (dg_last h)
   generalize UInt8.ofNat (48 + m) = b at hd HE
   have hcv := conv1 wr (48 + (m : Int)) _ hd
   clear hd
   have hcat := run_catB (P := Tryd.prog) [b] l (by have := HM.out.2.2.2; simp; omega)
   go_wp2
   go_ret
   refine StrO.mk ?_ (Below.only ((HM.out.2.1).alloc (by have := HM.out.2.1.size; omega) _))
   show [b] ++ l = _
   rw [← HE.out]; exact HM.out.1
  ·
   have hd := ofNat_dg (m % 10) (by omega)
   have HE := Lib.hid (dg_step h)
   generalize UInt8.ofNat (48 + m % 10) = b at hd HE
   have hcv := conv1 wr (48 + (m : Int) % 10) b (by omega)
   clear hd
   have hcat := run_catB (P := Tryd.prog) [b] l (by have := HM.out.2.2.2; simp; omega)
   go_wp2
   go_roundw
   case rel =>
    refine ⟨m / 10, [b] ++ l, by simp, rfl, ?_, ?_, by have := HM.out.2.2.1; omega, ?_⟩
    ·
     rw [← HM.out.1, HE.out, List.append_assoc]
    ·
     exact (HM.out.2.1).alloc (by have := HM.out.2.1.size; omega) _
    ·
     have := HM.out.1
     have h2 := dg_len20 n hn
     rw [← this, HE.out] at h2
     simp at h2 ⊢; omega
   case measure => simp [intOf]; omega
def sgnCells : Array Value := #[.string ⟨#[]⟩, .string ⟨#[126]⟩, .string ⟨#[33]⟩, .string ⟨#[45]⟩, .string ⟨#[38]⟩, .string ⟨#[124]⟩, .string ⟨#[94]⟩, .string ⟨#[42]⟩, .string ⟨#[43]⟩, .string ⟨#[45]⟩, .string ⟨#[60, 60]⟩, .string ⟨#[62, 62]⟩, .string ⟨#[60]⟩, .string ⟨#[60, 61]⟩, .string ⟨#[62]⟩, .string ⟨#[62, 61]⟩, .string ⟨#[61, 61]⟩, .string ⟨#[33, 61]⟩, .string ⟨#[38]⟩, .string ⟨#[94]⟩, .string ⟨#[124]⟩, .string ⟨#[38, 38]⟩, .string ⟨#[124, 124]⟩]
theorem sgnCells_at {k : Nat} (h : k ≤ 22) : sgnCells[k]? = some (.string (bstr (sgnL k))) := by
 match k, h with
 | 0, _ => rfl
 | 1, _ => rfl
 | 2, _ => rfl
 | 3, _ => rfl
 | 4, _ => rfl
 | 5, _ => rfl
 | 6, _ => rfl
 | 7, _ => rfl
 | 8, _ => rfl
 | 9, _ => rfl
 | 10, _ => rfl
 | 11, _ => rfl
 | 12, _ => rfl
 | 13, _ => rfl
 | 14, _ => rfl
 | 15, _ => rfl
 | 16, _ => rfl
 | 17, _ => rfl
 | 18, _ => rfl
 | 19, _ => rfl
 | 20, _ => rfl
 | 21, _ => rfl
 | 22, _ => rfl
 | k + 23, h => omega
set_option maxRecDepth 100000 in
set_option maxHeartbeats 2000000 in
theorem sign_any (k : Nat) (w : World) (hk : k ≤ 22) :
  Calls Tryd.prog 49 #[.int .i64 k] w (StrO (sgnL k) w) := by
 have hn : ¬ (k : Int) < 0 := by omega
 have hlt : ¬ (23 : Int) ≤ (k : Int) := by omega
 have hlt2 : (k : Int) < 23 := by omega
 go_enter Tryd.func49, Tryd.ntmps49
 go_wp2_with (refine wpl_slice rfl 85 9 23 _ rfl (some 4) rfl Tryd.underlying85 sgnCells (by kernel_rfl) ?_)
 refine ⟨fun w1 b HK ho ha hb => ?_⟩
 have hc : w1.cell? ⟨b, k, none⟩ = some (.string (bstr (sgnL k))) := by rw [cell_of_row w1 b k _ _ _ HK.out]; exact sgnCells_at hk
 go_wp2
 go_ret
 exact StrO.mk rfl ho.out
end Go.Proofs.YtbdcpealkllfnaaDoor
