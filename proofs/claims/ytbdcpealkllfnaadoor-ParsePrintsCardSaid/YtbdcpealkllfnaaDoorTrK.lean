/- Trees that lie in memory, in general: their blocks within bounds, rows of them, rows under way; laws for the operations that move whole structs. No condition. -/
import Derived.Test.YtbdcpealkllfnaaDoorBst
import Derived.Great.Walk
namespace Go.Proofs.YtbdcpealkllfnaaDoor
open Go.RowKit Go.Deep

def rowF (C : Nat → List Value) (k j : Nat) : Value := (C k).getD j undef
theorem max_d {P : Nat → Nat → Prop} (hm : ∀ {i d d'}, d ≤ d' → P d i → P d' i) : ∀ n, (∀ i, i < n → ∃ d, P d i) → ∃ d, ∀ i, i < n → P d i
 | 0, _ => ⟨0, fun i hi => absurd hi (by omega)⟩
 | n + 1, h => by
  obtain ⟨d, hd⟩ := max_d (P := P) (fun hdd hp => hm hdd hp) n (fun i hi => h i (by omega))
  obtain ⟨d', hd'⟩ := h n (by omega)
  refine ⟨d + d', fun i hi => ?_⟩
  by_cases e : i = n
  ·
   subst e; exact hm (by omega) hd'
  ·
   exact hm (by omega) (hd i (by omega))
/-- a kind of tree: its cells, what it says -/
structure TreeK (τ : Type) where
 P : Nat → World → (Nat → Prop) → List Value → τ → Prop
 deep : ∀ {d d' : Nat} {w : World} {p : Nat → Prop} {cs : List Value} {t : τ}, d ≤ d' → P d w p cs t → P d' w p cs t
 mono : ∀ {d : Nat} {w : World} {p q : Nat → Prop} {cs : List Value} {t : τ}, (∀ b, b < w.heap.size → p b → q b) → P d w p cs t → P d w q cs t
 only : ∀ {d : Nat} {w w1 : World} {S p : Nat → Prop} {cs : List Value} {t : τ}, Only S w w1 → (∀ b, p b → ¬ S b) → P d w p cs t → P d w1 p cs t
def TrP {τ : Type} (F : TreeK τ) (p : Nat → Prop) (w : World) (cs : List Value) (t : τ) : Prop := ∃ d, F.P d w p cs t
abbrev Tr {τ : Type} (F : TreeK τ) (Z H : Nat) (w : World) (cs : List Value) (t : τ) : Prop := TrP F (fun b => Z ≤ b ∧ b < H) w cs t
def snocF {τ : Type} (T : Nat → τ) (n : Nat) (t : τ) : Nat → τ := fun i => if i = n then t else T i
theorem snocF_at {τ : Type} (T : Nat → τ) (n : Nat) (t : τ) : snocF T n t n = t := if_pos rfl
theorem snocF_lt {τ : Type} (T : Nat → τ) {n i : Nat} (t : τ) (h : i < n) : snocF T n t i = T i := if_neg (by omega)
/-- a row of them -/
def LfP {τ : Type} (F : TreeK τ) (e : TypeId) (sz : Nat) (p : Nat → Prop) (w : World) (A : Option Addr) (n : Nat) (T : Nat → τ) : Prop :=
 ∃ d C, RowT p w e sz A n (rowF C) ∧ ∀ i, i < n → (C i).length = sz ∧ F.P d w p (C i) (T i)
abbrev Lf {τ : Type} (F : TreeK τ) (e : TypeId) (sz Z H : Nat) (w : World) (A : Option Addr) (n : Nat) (T : Nat → τ) : Prop := LfP F e sz (fun b => Z ≤ b ∧ b < H) w A n T
/-- a row under way -/
def Ls {τ : Type} (F : TreeK τ) (e : TypeId) (sz Z X : Nat) (w : World) (A : Option Addr) (n c : Nat) (T : Nat → τ) : Prop :=
 (∀ k, blockOf A k → k ≠ X) ∧ ∃ d C, w.ownsRow Z e sz (.slice A n c) n (flatF sz (rowF C) n) ∧ ∀ i, i < n → (C i).length = sz ∧ F.P d w (fun b => Z ≤ b ∧ b ≠ X ∧ ¬ blockOf A b) (C i) (T i)
section
variable {τ : Type} {F : TreeK τ} {e : TypeId} {sz Z Z' H H' n c X : Nat} {w w1 : World} {A : Option Addr} {T : Nat → τ} {cs : List Value} {t : τ} {S : Nat → Prop}
theorem Tr.only (h : Tr F Z H w cs t) (ho : Only S w w1) (hs : ∀ i, S i → i < Z ∨ H ≤ i) : Tr F Z H w1 cs t := by
 obtain ⟨d, h⟩ := h
 exact ⟨d, F.only ho (fun b hb hb2 => by have := hs b hb2; omega) h⟩
theorem Tr.wide (h : Tr F Z H w cs t) (hz : Z' ≤ Z) (hh : H ≤ H') : Tr F Z' H' w cs t := by
 obtain ⟨d, h⟩ := h
 exact ⟨d, F.mono (fun b _ hb => ⟨by omega, by omega⟩) h⟩
theorem Lf.only (h : Lf F e sz Z H w A n T) (ho : Only S w w1) (hs : ∀ i, S i → i < Z ∨ H ≤ i) : Lf F e sz Z H w1 A n T := by
 obtain ⟨d, C, hr, hc⟩ := h
 exact ⟨d, C, hr.only ho (fun b _ hb _ hb2 => by have := hs b hb2; omega), fun i hi => ⟨(hc i hi).1, F.only ho (fun b hb hb2 => by have := hs b hb2; omega) (hc i hi).2⟩⟩
theorem Lf.wide (h : Lf F e sz Z H w A n T) (hz : Z' ≤ Z) (hh : H ≤ H') : Lf F e sz Z' H' w A n T := by
 obtain ⟨d, C, hr, hc⟩ := h
 exact ⟨d, C, hr.mono (fun b _ hb => ⟨by omega, by omega⟩), fun i hi => ⟨(hc i hi).1, F.mono (fun b _ hb => ⟨by omega, by omega⟩) (hc i hi).2⟩⟩
theorem TrP.only {p : Nat → Prop} (h : TrP F p w cs t) (ho : Only S w w1) (hs : ∀ i, p i → ¬ S i) : TrP F p w1 cs t := by
 obtain ⟨d, h⟩ := h
 exact ⟨d, F.only ho hs h⟩
theorem TrP.imp {p q : Nat → Prop} (h : TrP F p w cs t) (hp : ∀ b, b < w.heap.size → p b → q b) : TrP F q w cs t := by
 obtain ⟨d, h⟩ := h
 exact ⟨d, F.mono hp h⟩
theorem LfP.nil {p : Nat → Prop} : LfP F e sz p w A 0 T := ⟨0, fun _ => [], fun h => absurd h (by omega), fun i hi => absurd hi (by omega)⟩
theorem Ls.nil : Ls F e sz Z X w none 0 0 T := ⟨(fun k hk => by obtain ⟨_, h, _⟩ := hk; cases h), 0, fun _ => [], World.ownsRow_nil _ _ _ _, fun i hi => absurd hi (by omega)⟩
theorem Ls.base (h : Ls F e sz Z X w A n c T) : ∀ k, blockOf A k → Z ≤ k := by
 obtain ⟨_, d, C, hr, _⟩ := h
 exact own_base hr
theorem Ls.lt (h : Ls F e sz Z X w A n c T) : ∀ k, blockOf A k → k < w.heap.size := by
 obtain ⟨_, d, C, hr, _⟩ := h
 exact own_lt hr
theorem Ls.only (h : Ls F e sz Z X w A n c T) (ho : Only S w w1) (hs : ∀ i, i < w.heap.size → S i → i < Z ∨ i = X) : Ls F e sz Z X w1 A n c T := by
 obtain ⟨hX, d, C, hr, hc⟩ := h
 refine ⟨hX, d, C, own_only hr ho (fun k hk hs2 => ?_), fun i hi => ⟨(hc i hi).1, ?_⟩⟩
 ·
  have := own_base hr k hk
  have := hX k hk
  have := hs k (own_lt hr k hk) hs2
  omega
 ·
  refine F.mono (p := fun b => (Z ≤ b ∧ b ≠ X ∧ ¬ blockOf A b) ∧ b < w.heap.size) (fun b _ hb => hb.1) (F.only ho (fun b hb hs2 => ?_) (F.mono (fun b hbl hb => ⟨hb, hbl⟩) (hc i hi).2))
  have := hs b hb.2 hs2
  omega
/-- done -/
theorem Ls.done (h : Ls F e sz Z X w A n c T) : Lf F e sz Z w.heap.size w A n T := by
 obtain ⟨_, d, C, hr, hc⟩ := h
 have h1 := own_flat hr
 exact ⟨d, C, h1.mono (fun b hbl hb => ⟨hb, hbl⟩), fun i hi => ⟨(hc i hi).1, F.mono (fun b hbl hb => ⟨hb.1, hbl⟩) (hc i hi).2⟩⟩
theorem range_getD (l : List Value) : (List.range l.length).map (l.getD · undef) = l := by
 apply List.ext_getElem?
 intro j
 by_cases hj : j < l.length
 ·
  simp [hj]
 ·
  simp [hj]
/-- a row in a new block -/
theorem LfP.mk {p : Nat → Prop} {D : Nat} {cur : Array Value} (hh : w.heap[D]? = some (.cells cur e)) (hD : p D) (C : Nat → List Value) (hc : cur.toList = flatF sz (rowF C) n) (hch : ∀ i, i < n → (C i).length = sz ∧ TrP F p w (C i) (T i)) : LfP F e sz p w (some ⟨D, 0, none⟩) n T := by
 obtain ⟨d, hd⟩ := max_d (P := fun d i => F.P d w p (C i) (T i)) (fun hdd hp => F.deep hdd hp) n (fun i hi => (hch i hi).2)
 refine ⟨d, C, fun _ => ⟨D, 0, cur, rfl, hD, hh, fun k hk j hj => ?_⟩, fun i hi => ⟨(hch i hi).1, hd i hi⟩⟩
 have := flatF_get sz (rowF C) n k hk j hj
 rw [← hc] at this
 simpa using this
def catF {τ : Type} (T : Nat → τ) (n : Nat) (T' : Nat → τ) : Nat → τ := fun i => if i < n then T i else T' (i - n)
theorem flatF_cat (C C' : Nat → List Value) (n : Nat) : ∀ m, flatF sz (rowF (catF C n C')) (n + m) = flatF sz (rowF C) n ++ flatF sz (rowF C') m
 | 0 => by
  simp only [flatF, List.append_nil, Nat.add_zero]
  exact flatF_congr n (fun k hk j hj => by simp only [rowF, catF, if_pos hk])
 | m + 1 => by
  rw [← Nat.add_assoc]
  simp only [flatF]
  rw [flatF_cat C C' n m, List.append_assoc]
  congr 2
  refine List.map_congr_left (fun j _ => ?_)
  simp only [rowF, catF]
  rw [if_neg (by omega), Nat.add_sub_cancel_left]
/-- elements more -/
theorem Ls.more {m c' : Nat} {A' : Option Addr} {T' : Nat → τ} (hX : ∀ k, blockOf A k → k ≠ X) (d : Nat) (C : Nat → List Value) (hc : ∀ i, i < n → (C i).length = sz ∧ F.P d w (fun b => Z ≤ b ∧ b ≠ X ∧ ¬ blockOf A b) (C i) (T i)) (hA : ∀ k, blockOf A k → k < Z') (hz : Z ≤ Z') (d' : Nat) (C' : Nat → List Value) (hXb : X < Z' ∨ H' ≤ X) (hXs : X < w.heap.size)
  (hc' : ∀ i, i < m → (C' i).length = sz ∧ F.P d' w (fun b => Z' ≤ b ∧ b < H') (C' i) (T' i))
  (ho : w1.ownsRow Z e sz (.slice A' (n + m) c') (n + m) (flatF sz (rowF C) n ++ flatF sz (rowF C') m)) (hk : Only (blockOf A) w w1) (hb : ∀ k, blockOf A' k → blockOf A k ∨ k = w.heap.size) : Ls F e sz Z X w1 A' (n + m) c' (catF T n T') := by
 have fin : ∀ b, b < w.heap.size → ¬ blockOf A b → ¬ blockOf A' b := fun b hbl hn hb' => by
  rcases hb b hb' with h1 | h1
  ·
   exact hn h1
  ·
   omega
 refine ⟨fun k hk2 => ?_, d + d', catF C n C', by rw [flatF_cat]; exact ho, fun i hi => ?_⟩
 ·
  rcases hb k hk2 with h1 | h1
  ·
   exact hX k h1
  ·
   omega
 ·
  simp only [catF]
  by_cases hi' : i < n
  ·
   rw [if_pos hi', if_pos hi']
   exact ⟨(hc i hi').1, F.deep (d := d) (by omega) (F.mono (p := fun b => (Z ≤ b ∧ b ≠ X ∧ ¬ blockOf A b) ∧ b < w.heap.size) (fun b _ hb2 => ⟨hb2.1.1, hb2.1.2.1, fin b hb2.2 hb2.1.2.2⟩) (F.only hk (fun b hb2 h1 => hb2.1.2.2 h1) (F.mono (fun b hbl hb2 => ⟨hb2, hbl⟩) (hc i hi').2)))⟩
  ·
   rw [if_neg hi', if_neg hi']
   refine ⟨(hc' (i - n) (by omega)).1, F.deep (d := d') (by omega) (F.mono (p := fun b => (Z' ≤ b ∧ b < H') ∧ b < w.heap.size) (fun b _ hb2 => ⟨by omega, by omega, fin b hb2.2 (fun h1 => by have := hA b h1; omega)⟩) (F.only hk (fun b hb2 h1 => by have := hA b h1; omega) (F.mono (fun b hbl hb2 => ⟨hb2, hbl⟩) (hc' (i - n) (by omega)).2)))⟩
theorem flatF_one {C : Nat → List Value} (h : (C 0).length = sz) : flatF sz (rowF C) 1 = C 0 := by
 simp only [flatF, List.nil_append]
 have : (List.range sz).map (rowF C 0) = (List.range (C 0).length).map ((C 0).getD · undef) := by rw [h]; rfl
 rw [this, range_getD]
theorem catF_snoc (T : Nat → τ) (n : Nat) (t : τ) : ∀ i, i < n + 1 → catF T n (fun _ => t) i = snocF T n t i := fun i hi => by
 simp only [catF, snocF]
 by_cases h : i < n
 ·
  rw [if_pos h, if_neg (by omega)]
 ·
  rw [if_neg h, if_pos (by omega)]
theorem Ls.congr {T' : Nat → τ} (h : Ls F e sz Z X w A n c T) (ht : ∀ i, i < n → T i = T' i) : Ls F e sz Z X w A n c T' := by
 obtain ⟨hX, d, C, hr, hc⟩ := h
 exact ⟨hX, d, C, hr, fun i hi => ⟨(hc i hi).1, by rw [← ht i hi]; exact (hc i hi).2⟩⟩
end

/-! ### The operations -/
section
variable {P : Program} {ops : Array Oper} {rest : List Oper} {o : Oper} {a : Act} {w : World} {Q : Exit → Act → World → Prop}
/-- type ty: a struct of sz cells -/
def StT (P : Program) (ty : TypeId) (sz : Nat) : Prop := ∃ fs, P.underlying ty = some (.struct fs) ∧ (P.info? ty).map (·.size) = some sz
theorem wpl_load (hgd : o.guard = none) (ty : TypeId) (x : Operand) (ho : o.op = .load ty x) (g : Nat) (hx : a.eval x = .pointer (some ⟨g, 0, none⟩)) {t : TypeId} {cs : Array Value} (hg : w.heap[g]? = some (.cells cs t)) {sz : Nat} (hT : StT P ty sz) (hs : cs.size = sz)
  (h : wpList P ops Q rest (a.put o.dst (.agg cs)) w) : wpList P ops Q (o :: rest) a w := by
 obtain ⟨d, hu, hi⟩ := hT
 exact wpList_load_row hgd ty x ho g hx t cs _ _ hg hu rfl (by rw [hi, hs]) h
theorem run_storeVar_rowE (w : World) (g : Nat) (t ty : TypeId) (old cells : Array Value) (hg : w.heap[g]? = some (.cells old t (0, 0))) (hi : (P.info? ty).map (·.size) = some cells.size)
  (ho : old.size = cells.size) (h1 : ∀ v ∈ cells.toList, v.oneCell' = true) :
  (storeVar ty ⟨g, 0, none⟩ (.agg cells)).run P w = .ok () (w.setRow g cells) :=
 run_storeVar_row w g t ty old cells hg hi ho (Array.all_eq_true_iff_forall_mem.2 (fun v hv => h1 v (by simpa using hv)))
theorem Only.setRow {S : Nat → Prop} {w w1 : World} (h : Only S w w1) {g : Nat} (hg : g < w.heap.size → S g) (cs : Array Value) : Only S w (w1.setRow g cs) :=
 h.then_ (S' := fun k => k = g) ⟨rfl, rfl, rfl, by simp, fun k _ hn => setRow_other w1 g k cs hn⟩ (fun i hi c => by subst c; exact hg hi)
/-- the walk stands still here -/
structure Hld (p : Prop) : Prop where
 out : p
/-- a struct is stored whole -/
theorem wpl_store (hgd : o.guard = none) (ty : TypeId) (x y : Operand) (ho : o.op = .store ty x y) (g : Nat) (hx : a.eval x = .pointer (some ⟨g, 0, none⟩)) {cells : Array Value} (hy : a.eval y = .agg cells) {t : TypeId} {old : Array Value} (hg : w.heap[g]? = some (.cells old t)) {sz : Nat} (hT : StT P ty sz) (hs : cells.size = sz) (hso : old.size = sz)
  (h1 : ∀ v ∈ cells.toList, v.oneCell' = true)
  (h : Hld (∀ w', Hid (w'.heap[g]? = some (.cells cells t)) → Hid (Only (fun k => k = g) w w') → wpList P ops Q rest (a.put o.dst undef) w')) : wpList P ops Q (o :: rest) a w := by
 obtain ⟨d, hu, hi⟩ := hT
 refine wpList_plain hgd fun K hK => ?_
 unfold Oper.wp execOp
 simp only [ho, hx, hy, Instr.storeAt, Instr.sureAddr, Sem.run_bind, Sem.run_pure, Result.andThen_ok, run_storeVar_rowE w g t ty old cells hg (by rw [hi, hs]) (by rw [hso, hs]) h1]
 exact hK _ _ (h.out _ (Lib.hid (setRow_heap w g old cells t _ hg)) (Lib.hid ((Only.refl (fun k => k = g) w).setRow (fun _ => rfl) cells)))
/-- a cell is stored -/
theorem wpl_set (hgd : o.guard = none) (ty : TypeId) (x y : Operand) (ho : o.op = .store ty x y) (g j : Nat) (hx : a.eval x = .pointer (some ⟨g, j, none⟩)) {v : Value} (hy : a.eval y = v) (hz : ∀ w, (sizeOf ty).run P w = .ok 1 w) (hv : v.cells = #[v]) (h1 : v.oneCell' = true) {t : TypeId} {old : Array Value} (hg : w.heap[g]? = some (.cells old t)) (hj : j < old.size)
  (h : Hld (∀ w', Hid (w'.heap[g]? = some (.cells (old.setIfInBounds j v) t)) → Hid (Only (fun k => k = g) w w') → wpList P ops Q rest (a.put o.dst undef) w')) : wpList P ops Q (o :: rest) a w := by
 have hc : w.cell? ⟨g, j, none⟩ = some old[j] := by rw [cell_of_row w g j old t _ hg, Array.getElem?_eq_getElem hj]
 have hf := frozen_of_row w g j old t hg
 have hst : (store ⟨g, j, none⟩ v).run P w = .ok () (w.setCell ⟨g, j, none⟩ v) := by
  rw [run_store P w ⟨g, j, none⟩ v _ h1]
  simp [hc, hf]
 refine wpList_plain hgd fun K hK => ?_
 unfold Oper.wp execOp
 simp only [ho, hx, hy, Instr.storeAt, Instr.sureAddr, storeVar, Sem.run_bind, Sem.run_pure, Result.andThen_ok, hz, hv, storeCells]
 simp only [List.size_toArray, List.length_cons, List.length_nil, Nat.zero_add, ne_eq, not_true_eq_false, if_false, Sem.run_pure, Sem.run_bind, Result.andThen_ok, Addr.add_zero', hst]
 exact hK _ _ (h.out _ (Lib.hid (heap_setCell_same w g j old t v hg)) (Lib.hid ((Only.refl (fun k => k = g) w).setCell (p := ⟨g, j, none⟩) (fun _ => rfl) v)))
/-- a struct's new box -/
theorem wpl_alloc (hgd : o.guard = none) (ty : TypeId) (ho : o.op = .alloc ty) (d : Option Tmp) (hd : o.dst = d) {z : Array Value} (hz : ∀ w, (zeroValue ty).run P w = .ok (.agg z) w)
  (h : Hld (∀ w' g, Hid (w'.heap[g]? = some (.cells z ty)) → Hid (Only (fun _ => False) w w') → w.heap.size ≤ g → g < w'.heap.size → wpList P ops Q rest (a.put d (.pointer (some ⟨g, 0, none⟩))) w')) : wpList P ops Q (o :: rest) a w := by
 subst hd
 refine wpList_plain hgd fun K hK => ?_
 unfold Oper.wp execOp
 simp [ho, go_sem, hz, Value.cells, newVar, newRow]
 exact hK _ _ (h.out _ _ (Lib.hid (heap_alloc_new w _)) (Lib.hid ((Only.refl _ w).alloc _)) (Nat.le_refl _) (by simp))
/-- a value's new box -/
theorem wpl_boxv (hgd : o.guard = none) (ty : TypeId) (y : Operand) (ho : o.op = .box ty y) (d : Option Tmp) (hd : o.dst = d) {cells : Array Value} (hy : a.eval y = .agg cells)
  (h : Hld (∀ w' g, Hid (w'.heap[g]? = some (.cells cells ty)) → Hid (Only (fun _ => False) w w') → w.heap.size ≤ g → g < w'.heap.size → wpList P ops Q rest (a.put d (.pointer (some ⟨g, 0, none⟩))) w')) : wpList P ops Q (o :: rest) a w := by
 subst hd
 refine wpList_plain hgd fun K hK => ?_
 unfold Oper.wp execOp
 simp only [ho, hy]
 simp [go_sem, Value.cells, newVar, newRow]
 exact hK _ _ (h.out _ _ (Lib.hid (heap_alloc_new w _)) (Lib.hid ((Only.refl _ w).alloc _)) (Nat.le_refl _) (by simp))
/-- a struct's new box, filled at once -/
theorem wpl_box {o2 : Oper} (hg1 : o.guard = none) (hg2 : o2.guard = none) (ty : TypeId) (h1 : o.op = .alloc ty) (d : Tmp) (hd : o.dst = some d) (y : Operand) (h2 : o2.op = .store ty (.tmp d) y) (hd2 : o2.dst = none) {z : Array Value} (hz : ∀ w, (zeroValue ty).run P w = .ok (.agg z) w) {cells : Array Value}
  (hy : ∀ g, (a.put (some d) (.pointer (some ⟨g, 0, none⟩))).eval y = .agg cells) (hx : ∀ g, (a.put (some d) (.pointer (some ⟨g, 0, none⟩))).eval (.tmp d) = .pointer (some ⟨g, 0, none⟩)) {sz : Nat} (hT : StT P ty sz) (hs : cells.size = sz) (hso : z.size = sz) (hone : ∀ v ∈ cells.toList, v.oneCell' = true)
  (h : Hld (∀ w' g, Hid (w'.heap[g]? = some (.cells cells ty)) → Hid (Only (fun _ => False) w w') → w.heap.size ≤ g → g < w'.heap.size → wpList P ops Q rest (a.put (some d) (.pointer (some ⟨g, 0, none⟩))) w')) : wpList P ops Q (o :: o2 :: rest) a w := by
 refine wpl_alloc hg1 ty h1 (some d) hd hz ⟨fun w1 g hk ho hg hlt => ?_⟩
 refine wpl_store hg2 ty (.tmp d) y h2 g (hx g) (hy g) hk.out hT hs hso hone ⟨fun w2 hk2 ho2 => ?_⟩
 rw [hd2]
 exact h.out w2 g hk2 (Lib.hid (ho.out.then_ ho2.out (fun i hi (h : i = g) => by omega))) hg (Nat.lt_of_lt_of_le hlt ho2.out.size)
/-- a slice literal -/
theorem wpl_slice (hgd : o.guard = none) (t e : TypeId) (len : Nat) (parts : List (Nat × Operand)) (ho : o.op = .buildSlice t len parts.toArray) (d : Option Tmp) (hd : o.dst = d) (hu : P.underlying t = some (.slice e)) (cells : Array Value)
  (hf : P.builtSlice e len (parts.map fun x => (x.1, a.eval x.2)) = some cells)
  (h : Hld (∀ w' g, Hid (w'.heap[g]? = some (.cells cells e)) → Hid (Only (fun _ => False) w w') → w.heap.size ≤ g → g < w'.heap.size → wpList P ops Q rest (a.put d (.slice (some ⟨g, 0, none⟩) len len)) w')) : wpList P ops Q (o :: rest) a w :=
 Great.wpList_buildSliceTo hgd t e len parts.toArray ho _ rfl d hd hu cells (by rw [List.map_toArray]; exact hf) (h.out _ _ (Lib.hid (heap_alloc_new w _)) (Lib.hid ((Only.refl _ w).alloc _)) (Nat.le_refl _) (by simp))
/-- append of trees out of a row -/
theorem wpl_more {τ : Type} {F : TreeK τ} (hgd : o.guard = none) (s x : Operand) (t : TypeId) (ho : o.op = .call { callee := .builtin .append, args := #[s, x], argTypes := #[t, t] })
  {e : TypeId} {sz bytes : Nat} (hE : Elem P t e sz bytes) {Z X n c : Nat} {A : Option Addr} {T : Nat → τ} (hs : a.eval s = .slice A n c) (hl : Ls F e sz Z X w A n c T)
  {D : Option Addr} {m dd : Nat} (hx : a.eval x = .slice D m dd) {Z' H' : Nat} {T' : Nat → τ} (ht : Lf F e sz Z' H' w D m T') (hone : ∀ cs t d, F.P d w (fun b => Z' ≤ b ∧ b < H') cs t → ∀ u ∈ cs, u.oneCell' = true) (hXb : X < Z' ∨ H' ≤ X) (hXs : X < w.heap.size) (hA : ∀ k, blockOf A k → k < Z') (hz : Z ≤ Z')
  (hbytes : (n + m) * bytes ≤ 140737488355328) (hbase : Z ≤ w.heap.size)
  (h : Hld (∀ A' c' w', Hid (Ls F e sz Z X w' A' (n + m) c' (catF T n T')) → Hid (Only (fun k => Z ≤ k) w w') → wpList P ops Q rest (a.put o.dst (.slice A' (n + m) c')) w')) : wpList P ops Q (o :: rest) a w := by
 obtain ⟨hX, d, C, hown, hel⟩ := hl
 obtain ⟨d', C', hrow, hel'⟩ := ht
 have hflat : ∀ i (u : Value), (flatF sz (rowF C') m)[i]? = some u → ∃ k j, k < m ∧ j < sz ∧ i = k * sz + j ∧ u = (C' k).getD j undef := fun i u hi => by
  have hlt : i < m * sz := by
   rcases Nat.lt_or_ge i (m * sz) with h | h
   ·
    exact h
   ·
    rw [List.getElem?_eq_none (by rw [flatF_len]; exact h)] at hi; cases hi
  have hpos : 0 < sz := by
   rcases Nat.eq_zero_or_pos sz with h | h
   ·
    subst h; omega
   ·
    exact h
  have h1 : i / sz < m := Nat.div_lt_of_lt_mul (by rw [Nat.mul_comm]; exact hlt)
  have h2 : i % sz < sz := Nat.mod_lt _ hpos
  have h3 : i = i / sz * sz + i % sz := by rw [Nat.mul_comm]; exact (Nat.div_add_mod i sz).symm
  have := flatF_get sz (rowF C') m (i / sz) h1 (i % sz) h2
  rw [← h3, hi] at this
  exact ⟨_, _, h1, h2, h3, Option.some.inj this⟩
 refine wp_append hgd s x t ho hE Z A n c _ hs hown D m dd (flatF sz (rowF C') m) hx ⟨flatF_len _ _ _, fun u hu => ?_, fun hm => ?_⟩ hbytes hbase ?_
 ·
  obtain ⟨i, hi, he⟩ := List.mem_iff_getElem.1 hu
  obtain ⟨k, j, hk, hj, _, rfl⟩ := hflat i u (by rw [List.getElem?_eq_getElem hi, he])
  refine hone (C' k) _ d' (hel' k hk).2 _ ?_
  rw [List.getD_eq_getElem?_getD, List.getElem?_eq_getElem (by rw [(hel' k hk).1]; exact hj)]
  exact List.getElem_mem _
 ·
  obtain ⟨b, off, hD, hc⟩ := hrow.row hm
  refine ⟨_, hD, fun j u hj => ?_⟩
  obtain ⟨k, j', hk, hj', rfl, rfl⟩ := hflat j u hj
  rw [add_eq, ← Nat.add_assoc, hc k hk j' hj']; rfl
 ·
  intro A' c' w' ho' hk hb
  exact h.out A' c' w' (Lib.hid (Ls.more hX d C hel hA hz d' C' hXb hXs hel' ho' hk hb)) (Lib.hid (hk.mono (fun k _ hk2 => own_base hown k hk2)))
/-- append of one tree -/
theorem wpl_push {τ : Type} {F : TreeK τ} (hgd : o.guard = none) (s x : Operand) (t : TypeId) (ho : o.op = .call { callee := .builtin .append, args := #[s, x], argTypes := #[t, t] })
  {e : TypeId} {sz bytes : Nat} (hE : Elem P t e sz bytes) {Z X n c : Nat} {A : Option Addr} {T : Nat → τ} (hs : a.eval s = .slice A n c) (hl : Ls F e sz Z X w A n c T)
  {D dd : Nat} {cs : List Value} (hx : a.eval x = .slice (some ⟨D, 0, none⟩) 1 dd) (hD : w.heap[D]? = some (.cells cs.toArray e)) (hcs : cs.length = sz) (hone : ∀ u ∈ cs, u.oneCell' = true) {Z' H' : Nat} {tt : τ} (ht : Tr F Z' H' w cs tt) (hXb : X < Z' ∨ H' ≤ X) (hXs : X < w.heap.size) (hA : ∀ k, blockOf A k → k < Z') (hz : Z ≤ Z')
  (hbytes : (n + 1) * bytes ≤ 140737488355328) (hbase : Z ≤ w.heap.size)
  (h : Hld (∀ A' c' w', Hid (Ls F e sz Z X w' A' (n + 1) c' (snocF T n tt)) → Hid (Only (fun k => Z ≤ k) w w') → wpList P ops Q rest (a.put o.dst (.slice A' (n + 1) c')) w')) : wpList P ops Q (o :: rest) a w := by
 obtain ⟨hX, d, C, hown, hel⟩ := hl
 obtain ⟨d', ht⟩ := ht
 refine wp_append hgd s x t ho hE Z A n c _ hs hown (some ⟨D, 0, none⟩) 1 dd cs hx ⟨by rw [hcs, Nat.one_mul], hone, fun _ => ⟨_, rfl, fun j u hj => ?_⟩⟩ hbytes hbase ?_
 ·
  rw [add_eq, Nat.zero_add, cell_of_row w D j _ _ _ hD]; simpa using hj
 ·
  intro A' c' w' ho' hk hb
  have := Ls.more (T := T) (T' := fun _ => tt) (m := 1) hX d C hel hA hz d' (fun _ => cs) hXb hXs (fun i hi => ⟨hcs, ht⟩) (by rw [flatF_one (C := fun _ => cs) hcs]; exact ho') hk hb
  exact h.out A' c' w' (Lib.hid (this.congr (catF_snoc T n tt))) (Lib.hid (hk.mono (fun k _ hk2 => own_base hown k hk2)))
/-- append of one tree; the block that is left out stands -/
theorem wpl_pushX {τ : Type} {F : TreeK τ} (hgd : o.guard = none) (s x : Operand) (t : TypeId) (ho : o.op = .call { callee := .builtin .append, args := #[s, x], argTypes := #[t, t] })
  {e : TypeId} {sz bytes : Nat} (hE : Elem P t e sz bytes) {Z X n c : Nat} {A : Option Addr} {T : Nat → τ} (hs : a.eval s = .slice A n c) (hl : Ls F e sz Z X w A n c T)
  {D dd : Nat} {cs : List Value} (hx : a.eval x = .slice (some ⟨D, 0, none⟩) 1 dd) (hD : w.heap[D]? = some (.cells cs.toArray e)) (hcs : cs.length = sz) (hone : ∀ u ∈ cs, u.oneCell' = true) {Z' H' : Nat} {tt : τ} (ht : Tr F Z' H' w cs tt) (hXb : X < Z' ∨ H' ≤ X) (hXs : X < w.heap.size) (hA : ∀ k, blockOf A k → k < Z') (hz : Z ≤ Z')
  (hbytes : (n + 1) * bytes ≤ 140737488355328) (hbase : Z ≤ w.heap.size)
  (h : Hld (∀ A' c' w', Hid (Ls F e sz Z X w' A' (n + 1) c' (snocF T n tt)) → Hid (Only (fun k => Z ≤ k ∧ k ≠ X) w w') → wpList P ops Q rest (a.put o.dst (.slice A' (n + 1) c')) w')) : wpList P ops Q (o :: rest) a w := by
 obtain ⟨hX, d, C, hown, hel⟩ := hl
 obtain ⟨d', ht⟩ := ht
 refine wp_append hgd s x t ho hE Z A n c _ hs hown (some ⟨D, 0, none⟩) 1 dd cs hx ⟨by rw [hcs, Nat.one_mul], hone, fun _ => ⟨_, rfl, fun j u hj => ?_⟩⟩ hbytes hbase ?_
 ·
  rw [add_eq, Nat.zero_add, cell_of_row w D j _ _ _ hD]; simpa using hj
 ·
  intro A' c' w' ho' hk hb
  have := Ls.more (T := T) (T' := fun _ => tt) (m := 1) hX d C hel hA hz d' (fun _ => cs) hXb hXs (fun i hi => ⟨hcs, ht⟩) (by rw [flatF_one (C := fun _ => cs) hcs]; exact ho') hk hb
  exact h.out A' c' w' (Lib.hid (this.congr (catF_snoc T n tt))) (Lib.hid (hk.mono (fun k _ hk2 => ⟨own_base hown k hk2, hX k hk2⟩)))
theorem run_storeVar_seg (w : World) (g : Nat) (t ty : TypeId) (pre mid post c : List Value) (hg : w.heap[g]? = some (.cells (pre ++ (mid ++ post)).toArray t (0, 0))) (hi : (P.info? ty).map (·.size) = some c.length) (hm : mid.length = c.length) (h1 : ∀ v ∈ c, v.oneCell' = true) :
  (storeVar ty ⟨g, pre.length, none⟩ (.agg c.toArray)).run P w = .ok () (w.setRow g (pre ++ (c ++ post)).toArray) := by
 have := run_storeCells_at P g pre.length t c 0 _ w hg (by simp; omega) h1
 cases hq : P.info? ty with
 | none => simp [hq] at hi
 | some i =>
  have hs : c.length = i.size := by simp [hq] at hi; omega
  simp only [Nat.add_zero] at this
  have e1 : ((pre ++ (mid ++ post)).toArray.toList.take pre.length ++ c ++ (pre ++ (mid ++ post)).toArray.toList.drop (pre.length + c.length)).toArray = (pre ++ (c ++ post)).toArray := by
   congr 1
   rw [List.take_left, ← hm, ← List.length_append, ← List.append_assoc pre mid post, List.drop_left, List.append_assoc]
  rw [e1] at this
  simp [storeVar, sizeOf, typeInfo, hq, Value.cells, hs, this]
/-- a struct is stored within another -/
theorem wpl_seg (hgd : o.guard = none) (ty : TypeId) (x y : Operand) (ho : o.op = .store ty x y) (g j : Nat) (hx : a.eval x = .pointer (some ⟨g, j, none⟩)) {c : List Value} (hy : a.eval y = .agg c.toArray) {t : TypeId} {old : List Value} (hg : w.heap[g]? = some (.cells old.toArray t)) (pre mid post : List Value) (ho2 : old = pre ++ (mid ++ post)) (hj : pre.length = j) {sz : Nat} (hT : StT P ty sz) (hc : c.length = sz) (hm : mid.length = sz) (h1 : ∀ v ∈ c, v.oneCell' = true) (new : List Value) (hn : new = pre ++ (c ++ post))
  (h : Hld (∀ w', Hid (w'.heap[g]? = some (.cells new.toArray t)) → Hid (Only (fun k => k = g) w w') → wpList P ops Q rest (a.put o.dst undef) w')) : wpList P ops Q (o :: rest) a w := by
 subst ho2; subst hj; subst hn
 obtain ⟨d, hu, hi⟩ := hT
 refine wpList_plain hgd fun K hK => ?_
 unfold Oper.wp execOp
 simp only [ho, hx, hy, Instr.storeAt, Instr.sureAddr, Sem.run_bind, Sem.run_pure, Result.andThen_ok, run_storeVar_seg w g t ty pre mid post c hg (by rw [hi, hc]) (by rw [hm, hc]) h1]
 exact hK _ _ (h.out _ (Lib.hid (setRow_heap w g _ _ t _ hg)) (Lib.hid ((Only.refl (fun k => k = g) w).setRow (fun _ => rfl) _)))
/-- a cell is stored within a struct -/
theorem wpl_cell (hgd : o.guard = none) (ty : TypeId) (x y : Operand) (ho : o.op = .store ty x y) (g j : Nat) (hx : a.eval x = .pointer (some ⟨g, j, none⟩)) {v : Value} (hy : a.eval y = v) (hz : ∀ w, (sizeOf ty).run P w = .ok 1 w) (hv : v.cells = #[v]) (h1 : v.oneCell' = true) {t : TypeId} {old : List Value} (hg : w.heap[g]? = some (.cells old.toArray t)) (pre : List Value) (x0 : Value) (post : List Value) (ho2 : old = pre ++ (x0 :: post)) (hj : pre.length = j) (new : List Value) (hn : new = pre ++ (v :: post))
  (h : Hld (∀ w', Hid (w'.heap[g]? = some (.cells new.toArray t)) → Hid (Only (fun k => k = g) w w') → wpList P ops Q rest (a.put o.dst undef) w')) : wpList P ops Q (o :: rest) a w := by
 subst ho2; subst hj; subst hn
 refine wpl_set hgd ty x y ho g pre.length hx hy hz hv h1 hg (by simp) ⟨fun w' hk hO => h.out w' (Lib.hid ?_) hO⟩
 rw [hk.out]
 congr 2
 simp
theorem ret_box {fn : Func} {p : Tmp} {ty : TypeId} (h : fn.results = #[.cell p ty]) (tmps : Array Value) {g : Nat} (hp : tmps.getD p undef = .pointer (some ⟨g, 0, none⟩)) {t : TypeId} {cs : Array Value} (hg : w.heap[g]? = some (.cells cs t)) {sz : Nat} (hT : StT P ty sz) (hs : cs.size = sz) : (results fn tmps).run P w = .ok (.agg cs) w := by
 obtain ⟨d, hu, hi⟩ := hT
 exact results_cell_row h tmps w g t cs _ _ hp hg hu rfl (by rw [hi, hs])
end
theorem ones {cs : Array Value} (h : cs.toList.all (·.oneCell') = true) : ∀ v ∈ cs.toList, v.oneCell' = true := fun v hv => List.all_eq_true.1 h v hv
theorem row_eq {l : List Value} {sz : Nat} (h : l.length = sz) : (List.range sz).map (fun j => l.getD j undef) = l := by rw [← h]; exact range_getD l
theorem len7 {l : List Value} (h : l.length = 7) : ∃ x0 x1 x2 x3 x4 x5 x6, l = [x0, x1, x2, x3, x4, x5, x6] := by
 match l, h with
 | [a, b, c, d, e, f, g], _ => exact ⟨a, b, c, d, e, f, g, rfl⟩
end Go.Proofs.YtbdcpealkllfnaaDoor
