/- Rows of items that share a range: an append law for trees in two places; loads and stores of structs in a statement that draws its order. No condition. -/
import Derived.Test.YtbdcpealkllfnaaDoorItB
namespace Go.Proofs.YtbdcpealkllfnaaDoor
open Go.RowKit Go.Deep

section
variable {τ : Type} {F : TreeK τ} {e : TypeId} {sz Z n c X : Nat} {w w1 : World} {A : Option Addr} {T : Nat → τ}
theorem Ls.moreP {c' : Nat} {A' : Option Addr} {p : Nat → Prop} {cs : List Value} {t : τ} (hX : ∀ k, blockOf A k → k ≠ X) (d : Nat) (C : Nat → List Value) (hc : ∀ i, i < n → (C i).length = sz ∧ F.P d w (fun b => Z ≤ b ∧ b ≠ X ∧ ¬ blockOf A b) (C i) (T i)) (hXs : X < w.heap.size) (hl : cs.length = sz)
  (ht : TrP F p w cs t) (hp : ∀ b, p b → Z ≤ b ∧ b ≠ X ∧ ¬ blockOf A b)
  (ho : w1.ownsRow Z e sz (.slice A' (n + 1) c') (n + 1) (flatF sz (rowF C) n ++ cs)) (hk : Only (blockOf A) w w1) (hb : ∀ k, blockOf A' k → blockOf A k ∨ k = w.heap.size) : Ls F e sz Z X w1 A' (n + 1) c' (snocF T n t) := by
 obtain ⟨d', ht⟩ := ht
 have fin : ∀ b, b < w.heap.size → ¬ blockOf A b → ¬ blockOf A' b := fun b hbl hn hb' => by
  rcases hb b hb' with h1 | h1
  ·
   exact hn h1
  ·
   omega
 refine ⟨fun k hk2 => ?_, d + d', catF C n (fun _ => cs), by rw [flatF_cat, flatF_one (C := fun _ => cs) hl]; exact ho, fun i hi => ?_⟩
 ·
  rcases hb k hk2 with h1 | h1
  ·
   exact hX k h1
  ·
   omega
 ·
  simp only [catF, snocF]
  by_cases hi' : i < n
  ·
   rw [if_pos hi', if_neg (by omega)]
   exact ⟨(hc i hi').1, F.deep (d := d) (by omega) (F.mono (p := fun b => (Z ≤ b ∧ b ≠ X ∧ ¬ blockOf A b) ∧ b < w.heap.size) (fun b _ hb2 => ⟨hb2.1.1, hb2.1.2.1, fin b hb2.2 hb2.1.2.2⟩) (F.only hk (fun b hb2 h1 => hb2.1.2.2 h1) (F.mono (fun b hbl hb2 => ⟨hb2, hbl⟩) (hc i hi').2)))⟩
  ·
   rw [if_neg hi', if_pos (by omega)]
   exact ⟨hl, F.deep (d := d') (by omega) (F.mono (p := fun b => p b ∧ b < w.heap.size) (fun b _ hb2 => ⟨(hp b hb2.1).1, (hp b hb2.1).2.1, fin b hb2.2 (hp b hb2.1).2.2⟩) (F.only hk (fun b hb2 h1 => (hp b hb2.1).2.2 h1) (F.mono (fun b hbl hb2 => ⟨hb2, hbl⟩) ht)))⟩
end
section
variable {P : Program} {ops : Array Oper} {rest : List Oper} {o : Oper} {a : Act} {w : World} {Q : Exit → Act → World → Prop}
/-- append of one tree, its blocks being of whatever place -/
theorem wpl_pushP {τ : Type} {F : TreeK τ} (hgd : o.guard = none) (s x : Operand) (t : TypeId) (ho : o.op = .call { callee := .builtin .append, args := #[s, x], argTypes := #[t, t] })
  {e : TypeId} {sz bytes : Nat} (hE : Elem P t e sz bytes) {Z X n c : Nat} {A : Option Addr} {T : Nat → τ} (hs : a.eval s = .slice A n c) (hl : Ls F e sz Z X w A n c T)
  {D dd : Nat} {cs : List Value} (hx : a.eval x = .slice (some ⟨D, 0, none⟩) 1 dd) (hD : w.heap[D]? = some (.cells cs.toArray e)) (hcs : cs.length = sz) (hone : ∀ u ∈ cs, u.oneCell' = true) {p : Nat → Prop} {tt : τ} (ht : TrP F p w cs tt) (Zl : Nat) (hZl : ∀ k, blockOf A k → Zl ≤ k) (hzs : Zl ≤ w.heap.size) (hp : ∀ b, p b → Z ≤ b ∧ b ≠ X ∧ ¬ blockOf A b) (hXs : X < w.heap.size)
  (hbytes : (n + 1) * bytes ≤ 140737488355328) (hbase : Z ≤ w.heap.size)
  (h : Hld (∀ A' c' w', Hid (Ls F e sz Z X w' A' (n + 1) c' (snocF T n tt)) → Hid (Only (blockOf A) w w') → Hid (∀ k, blockOf A' k → Zl ≤ k) → Hid (∀ k, blockOf A' k → blockOf A k ∨ k = w.heap.size) → wpList P ops Q rest (a.put o.dst (.slice A' (n + 1) c')) w')) : wpList P ops Q (o :: rest) a w := by
 obtain ⟨hX, d, C, hown, hel⟩ := hl
 refine wp_append hgd s x t ho hE Z A n c _ hs hown (some ⟨D, 0, none⟩) 1 dd cs hx ⟨by rw [hcs, Nat.one_mul], hone, fun _ => ⟨_, rfl, fun j u hj => ?_⟩⟩ hbytes hbase ?_
 ·
  rw [add_eq, Nat.zero_add, cell_of_row w D j _ _ _ hD]; simpa using hj
 ·
  intro A' c' w' ho' hk hb
  refine h.out A' c' w' (Lib.hid (Ls.moreP hX d C hel hXs hcs ht hp ho' hk hb)) (Lib.hid hk) (Lib.hid (fun k hk2 => ?_)) (Lib.hid hb)
  rcases hb k hk2 with h1 | h1
  ·
   exact hZl k h1
  ·
   omega
theorem yields_row {S : World → Prop} (hw : Region.wanted o (yielded ops a.tmps) = true) (ty : TypeId) (x : Operand) (ho : o.op = .load ty x) (g : Nat) (hx : a.eval x = .pointer (some ⟨g, 0, none⟩)) {cs : Array Value} {t : TypeId} (hS : ∀ w, S w → w.heap[g]? = some (.cells cs t)) {sz : Nat} (hT : StT P ty sz) (hs : cs.size = sz) : YieldsIf P ops S o (.agg cs) a :=
 .inl ⟨hw, fun w hw' => by
  obtain ⟨d, hu, hi⟩ := hT
  unfold execOp
  simp only [ho, hx, Instr.loadAt, Instr.sureAddr, Sem.run_bind, Sem.run_pure, Result.andThen_ok, run_loadVar_row w g t ty cs _ _ (hS w hw') hu rfl (by rw [hi, hs])]⟩
theorem yields_build {S : World → Prop} (hw : Region.wanted o (yielded ops a.tmps) = true) (t : TypeId) (parts : List (Nat × Operand)) (ho : o.op = .build t parts.toArray) (cells : Array Value) (hf : P.built t (parts.map fun x => (x.1, a.eval x.2)) = some cells) : YieldsIf P ops S o (.agg cells) a :=
 .inl ⟨hw, fun w _ => by
  unfold execOp
  have hb := run_build (P := P) w t (Array.map (fun x => (x.1, a.eval x.2)) parts.toArray) cells (by rw [List.map_toArray]; exact hf)
  simp only [ho, Sem.run_bind, hb, Result.andThen_ok, Sem.run_pure]⟩
theorem wpz_alloc {K : Act → World → Prop} (ty : TypeId) (ho : o.op = .alloc ty) {z : Array Value} (hz : ∀ w, (zeroValue ty).run P w = .ok (.agg z) w)
  (h : ∀ w' g, Hid (w'.heap[g]? = some (.cells z ty)) → Hid (Only (fun _ => False) w w') → w.heap.size ≤ g → g < w'.heap.size → K (a.put o.dst (.pointer (some ⟨g, 0, none⟩))) w') : Oper.wp P o a w K Q := by
 unfold Oper.wp execOp
 simp [ho, go_sem, hz, Value.cells, newVar, newRow]
 exact h _ _ (Lib.hid (heap_alloc_new w _)) (Lib.hid ((Only.refl _ w).alloc _)) (Nat.le_refl _) (by simp)
theorem wpz_store {K : Act → World → Prop} (ty : TypeId) (x y : Operand) (ho : o.op = .store ty x y) (g : Nat) (hx : a.eval x = .pointer (some ⟨g, 0, none⟩)) {cells : Array Value} (hy : a.eval y = .agg cells) {t : TypeId} {old : Array Value} (hg : w.heap[g]? = some (.cells old t)) {sz : Nat} (hT : StT P ty sz) (hs : cells.size = sz) (hso : old.size = sz)
  (h1 : ∀ v ∈ cells.toList, v.oneCell' = true)
  (h : ∀ w', Hid (w'.heap[g]? = some (.cells cells t)) → Hid (Only (fun k => k = g) w w') → K (a.put o.dst undef) w') : Oper.wp P o a w K Q := by
 obtain ⟨d, hu, hi⟩ := hT
 unfold Oper.wp execOp
 simp only [ho, hx, hy, Instr.storeAt, Instr.sureAddr, Sem.run_bind, Sem.run_pure, Result.andThen_ok, run_storeVar_rowE w g t ty old cells hg (by rw [hi, hs]) (by rw [hso, hs]) h1]
 exact h _ (Lib.hid (setRow_heap w g old cells t _ hg)) (Lib.hid ((Only.refl (fun k => k = g) w).setRow (fun _ => rfl) cells))
end
theorem len15 {l : List Value} (h : l.length = 15) : ∃ x0 x1 x2 x3 x4 x5 x6 x7 x8 x9 y0 y1 y2 y3 y4, l = [x0, x1, x2, x3, x4, x5, x6, x7, x8, x9, y0, y1, y2, y3, y4] := by
 match l, h with
 | [a, b, c, d, e, f, g, i, j, k, l, m, n, o, p], _ => exact ⟨a, b, c, d, e, f, g, i, j, k, l, m, n, o, p, rfl⟩
theorem built_net {R : List Value} (hR : R.length = 15) (at0 : Int) : Tryd.prog.built 75 [(0, .int .i64 1), (1, .int .i64 at0), (4, .agg R.toArray)] = some (cellsI (⟨1, at0, [], [], R, zRL, false, zEL, zEL, false, zSL, none, 0, 0, none, 0, 0, none, 0, 0, [], none, 0, 0, false, [], none, 0, 0⟩ : ItV)).toArray := by
 obtain ⟨x0, x1, x2, x3, x4, x5, x6, x7, x8, x9, y0, y1, y2, y3, y4, rfl⟩ := len15 hR
 kernel_rfl
theorem built_asn {V : List Value} (hV : V.length = 7) (at0 at1 : Int) (nm : LB) : Tryd.prog.built 75 [(0, .int .i64 5), (1, .int .i64 at0), (8, .agg (cellsE 2 at1 0 0 0 nm none 0 0).toArray), (7, .agg V.toArray)] = some (cellsI (⟨5, at0, [], [], zRL, zRL, false, V, cellsE 2 at1 0 0 0 nm none 0 0, false, zSL, none, 0, 0, none, 0, 0, none, 0, 0, [], none, 0, 0, false, [], none, 0, 0⟩ : ItV)).toArray := by
 obtain ⟨x0, x1, x2, x3, x4, x5, x6, rfl⟩ := len7 hV
 kernel_rfl
structure NtI (s : ByteArray) (b m : Nat) (w : World) (zR hR zL b5 : Nat) (cR : List Value) (r : SpT) (g : Nat) (wr : World) (A : Option Addr) (n c : Nat) (T : Nat → LB) : Prop where
 rd : RdS s b wr g
 ol : OnlyB b w wr
 k5 : wr.heap[b5]? = some (.cells cR.toArray 61)
 tr : Tr FR zR hR wr cR r
 ls : Ls FI 75 65 zR b wr A n c T
 al : ∀ k, blockOf A k → zL ≤ k
 nn : n + 2 * g ≤ 2 * m + 2
 tx : g = 0 ∨ (g ≤ m ∧ (catL T n).length + KK * g ≤ KK * m)
 sz : zL ≤ wr.heap.size
end Go.Proofs.YtbdcpealkllfnaaDoor
