/- For place.Fit: its blocks, ways out, stores in the book. No condition. -/
import Derived.Test.YtlmcbhmaccncbaaDoorPcL
import Derived.Test.YtlmcbhmaccncbaaDoorPcC
import Derived.Test.YtlmcbhmaccncbaaDoorPcG
namespace Go.Proofs.YtlmcbhmaccncbaaDoor
open Go.RowKit

/-- a tuple with a configuration in its box -/
def fitW (g : Tb) (a : Ta) (s : Nat → Int) (w : World) : World :=
  (((((w.alloc (.cells #[.int .i64 g.ins, .slice a.A1 g.n1 a.c1, .slice a.A2 g.n2 a.c2, .slice a.A3 g.n3 a.c3, .slice a.A4 g.n4 a.c4] 26)).alloc (.cells #[.int .i64 (s 0), .int .i64 (s 1), .int .i64 (s 2), .int .i64 (s 3), .int .i64 (s 4)] 28)).alloc (.cells #[.int .i64 0, .int .i64 0, .int .i64 0, .int .i64 0, .int .i64 0, .slice none 0 0, .slice none 0 0, .slice none 0 0] 36)).alloc (.map #[] 0)).alloc (plO g a s 0 (.slice none 0 0) (.slice none 0 0) (w.heap.size + 1 + 1 + 1))).alloc (.cells #[.int .i64 17, .int .i64 0] 59)
theorem alloc_heap (w : World) (o : Obj) : (w.alloc o).heap = w.heap.push o := rfl
theorem fitW_facts (g : Tb) (a : Ta) (s : Nat → Int) (w : World) : Below w.heap.size w (fitW g a s w) ∧ (fitW g a s w).heap[w.heap.size]? = some (.cells #[.int .i64 g.ins, .slice a.A1 g.n1 a.c1, .slice a.A2 g.n2 a.c2, .slice a.A3 g.n3 a.c3, .slice a.A4 g.n4 a.c4] 26) ∧ (fitW g a s w).heap[w.heap.size + 1]? = some (.cells #[.int .i64 (s 0), .int .i64 (s 1), .int .i64 (s 2), .int .i64 (s 3), .int .i64 (s 4)] 28) ∧ (fitW g a s w).heap[w.heap.size + 1 + 1]? = some (.cells #[.int .i64 0, .int .i64 0, .int .i64 0, .int .i64 0, .int .i64 0, .slice none 0 0, .slice none 0 0, .slice none 0 0] 36) ∧ (fitW g a s w).heap[w.heap.size + 1 + 1 + 1]? = some (.map #[] 0) ∧
    (fitW g a s w).heap[w.heap.size + 1 + 1 + 1 + 1]? = some (plO g a s 0 (.slice none 0 0) (.slice none 0 0) (w.heap.size + 1 + 1 + 1)) ∧ (fitW g a s w).heap[w.heap.size + 1 + 1 + 1 + 1 + 1]? = some (.cells #[.int .i64 17, .int .i64 0] 59) ∧ (fitW g a s w).heap.size = w.heap.size + 1 + 1 + 1 + 1 + 1 + 1 := by
  refine ⟨?_, ?_, ?_, ?_, ?_, ?_, ?_, ?_⟩
  · unfold fitW
    exact ((((((Below.refl _ _).alloc (Nat.le_refl _) _).alloc (by simp) _).alloc (by simp; omega) _).alloc (by simp; omega) _).alloc (by simp; omega) _).alloc (by simp; omega) _
  all_goals (unfold fitW plO; simp only [alloc_heap, Array.getElem?_push, Array.size_push]; repeat first | rw [if_pos trivial] | rw [if_neg (by omega)])
theorem cell5 {w : World} {b : Nat} {t : TypeId} {v0 v1 v2 v3 v4 : Value} (h : w.heap[b]? = some (.cells #[v0, v1, v2, v3, v4] t)) :
    w.cell? ⟨b, 0, none⟩ = some v0 ∧ w.cell? ⟨b, 1, none⟩ = some v1 ∧ w.cell? ⟨b, 2, none⟩ = some v2 ∧ w.cell? ⟨b, 3, none⟩ = some v3 ∧ w.cell? ⟨b, 4, none⟩ = some v4 := by
  refine ⟨?_, ?_, ?_, ?_, ?_⟩
  all_goals (rw [cell_of_row w b _ _ _ _ h]; rfl)
theorem cell8 {w : World} {b : Nat} {t : TypeId} {v0 v1 v2 v3 v4 v5 v6 v7 : Value} (h : w.heap[b]? = some (.cells #[v0, v1, v2, v3, v4, v5, v6, v7] t)) :
    (w.cell? ⟨b, 0, none⟩ = some v0 ∧ w.cell? ⟨b, 1, none⟩ = some v1 ∧ w.cell? ⟨b, 2, none⟩ = some v2 ∧ w.cell? ⟨b, 3, none⟩ = some v3 ∧ w.cell? ⟨b, 4, none⟩ = some v4) ∧ w.cell? ⟨b, 5, none⟩ = some v5 ∧ w.cell? ⟨b, 6, none⟩ = some v6 ∧ w.cell? ⟨b, 7, none⟩ = some v7 := by
  refine ⟨⟨?_, ?_, ?_, ?_, ?_⟩, ?_, ?_, ?_⟩
  all_goals (rw [cell_of_row w b _ _ _ _ h]; rfl)
theorem thaw_of {w : World} {b : Nat} {t : TypeId} {cs : Array Value} (h : w.heap[b]? = some (.cells cs t)) (j : Nat) : w.frozen? ⟨b, j, none⟩ = false := by simp [World.frozen?, h]

theorem set1_heap {W : World} {b : Nat} {cur : Array Value} {t : TypeId} {z : Nat × Nat} (h : W.heap[b]? = some (.cells cur t z)) (o : Nat) (v : Value) : (W.setCell ⟨b, o, none⟩ v).heap[b]? = some (.cells (cur.setIfInBounds o v) t z) := by
  simp [World.setCell, Array.getElem?_modify, h]
def set8 (W : World) (b : Nat) (x0 x1 x2 x3 x4 x5 x6 x7 : Value) : World := (((((((W.setCell ⟨b, 0, none⟩ x0).setCell ⟨b, 1, none⟩ x1).setCell ⟨b, 2, none⟩ x2).setCell ⟨b, 3, none⟩ x3).setCell ⟨b, 4, none⟩ x4).setCell ⟨b, 5, none⟩ x5).setCell ⟨b, 6, none⟩ x6).setCell ⟨b, 7, none⟩ x7
theorem set8_heap {W : World} {b : Nat} {y0 y1 y2 y3 y4 y5 y6 y7 : Value} {t : TypeId} (h : W.heap[b]? = some (.cells #[y0, y1, y2, y3, y4, y5, y6, y7] t)) (x0 x1 x2 x3 x4 x5 x6 x7 : Value) :
    (set8 W b x0 x1 x2 x3 x4 x5 x6 x7).heap[b]? = some (.cells #[x0, x1, x2, x3, x4, x5, x6, x7] t) := by
  have h0 := set1_heap h 0 x0
  have h1 := set1_heap h0 1 x1
  have h2 := set1_heap h1 2 x2
  have h3 := set1_heap h2 3 x3
  have h4 := set1_heap h3 4 x4
  have h5 := set1_heap h4 5 x5
  have h6 := set1_heap h5 6 x6
  have h7 := set1_heap h6 7 x7
  unfold set8
  rw [h7]
  simp
theorem set8_only {S : Nat → Prop} {w W : World} {b : Nat} (h : Only S w W) (hb : b < w.heap.size → S b) (x0 x1 x2 x3 x4 x5 x6 x7 : Value) : Only S w (set8 W b x0 x1 x2 x3 x4 x5 x6 x7) :=
  ((((((((h.setCell (p := ⟨b, 0, none⟩) hb x0).setCell (p := ⟨b, 1, none⟩) hb x1).setCell (p := ⟨b, 2, none⟩) hb x2).setCell (p := ⟨b, 3, none⟩) hb x3).setCell (p := ⟨b, 4, none⟩) hb x4).setCell (p := ⟨b, 5, none⟩) hb x5).setCell (p := ⟨b, 6, none⟩) hb x6).setCell (p := ⟨b, 7, none⟩) hb x7)
theorem set8_below {w W : World} {b : Nat} (h : Below w.heap.size w W) (hb : w.heap.size ≤ b) (x0 x1 x2 x3 x4 x5 x6 x7 : Value) : Below w.heap.size w (set8 W b x0 x1 x2 x3 x4 x5 x6 x7) :=
  ((((((((h.setCell (p := ⟨b, 0, none⟩) hb x0).setCell (p := ⟨b, 1, none⟩) hb x1).setCell (p := ⟨b, 2, none⟩) hb x2).setCell (p := ⟨b, 3, none⟩) hb x3).setCell (p := ⟨b, 4, none⟩) hb x4).setCell (p := ⟨b, 5, none⟩) hb x5).setCell (p := ⟨b, 6, none⟩) hb x6).setCell (p := ⟨b, 7, none⟩) hb x7)
theorem fold8 (W : World) (b : Nat) (x0 x1 x2 x3 x4 x5 x6 x7 : Value) : (((((((W.setCell ⟨b, 0, none⟩ x0).setCell ⟨b, 1, none⟩ x1).setCell ⟨b, 2, none⟩ x2).setCell ⟨b, 3, none⟩ x3).setCell ⟨b, 4, none⟩ x4).setCell ⟨b, 5, none⟩ x5).setCell ⟨b, 6, none⟩ x6).setCell ⟨b, 7, none⟩ x7 = set8 W b x0 x1 x2 x3 x4 x5 x6 x7 := by unfold set8; rfl
def zap (W : World) (b : Nat) : World := set8 W b (.int .i64 0) (.int .i64 0) (.int .i64 0) (.int .i64 0) (.int .i64 0) (.slice none 0 0) (.slice none 0 0) (.slice none 0 0)
theorem fold_zap (W : World) (b : Nat) : (((((((W.setCell ⟨b, 0, none⟩ (.int .i64 0)).setCell ⟨b, 1, none⟩ (.int .i64 0)).setCell ⟨b, 2, none⟩ (.int .i64 0)).setCell ⟨b, 3, none⟩ (.int .i64 0)).setCell ⟨b, 4, none⟩ (.int .i64 0)).setCell ⟨b, 5, none⟩ (.slice none 0 0)).setCell ⟨b, 6, none⟩ (.slice none 0 0)).setCell ⟨b, 7, none⟩ (.slice none 0 0) = zap W b := by unfold zap set8; rfl
/-- what Fit tells: the configuration in its box, the error -/
theorem outsF {tmps : Array Value} {W : World} {b : Nat} {x0 x1 x2 x3 x4 x5 x6 x7 v : Value} (h2 : tmps[4]? = some (.pointer (some ⟨b, 0, none⟩))) (h3 : tmps[5]? = some v) (h : W.heap[b]? = some (.cells #[x0, x1, x2, x3, x4, x5, x6, x7] 36)) :
    (results Tryd.f7 tmps).run Tryd.prog W = .ok (.tuple #[.agg #[x0, x1, x2, x3, x4, x5, x6, x7], v]) W := by
  obtain ⟨⟨c0, c1, c2, c3, c4⟩, c5, c6, c7⟩ := cell8 h
  simp [results, Tryd.f7, go_sem, h2, h3, c0, c1, c2, c3, c4, c5, c6, c7]
theorem zap_fault {W : World} {b4 bF : Nat} {t : TypeId} {x y : Value} (hne : bF ≠ b4) (hF : W.heap[bF]? = some (.cells #[x, y] t)) : (zap W b4).cell? ⟨bF, 0, none⟩ = some x ∧ (zap W b4).cell? ⟨bF, 1, none⟩ = some y := by
  have h : Only (fun k => k = b4) W (zap W b4) := set8_only (Only.refl (fun k => k = b4) W) (fun _ => rfl) _ _ _ _ _ _ _ _
  exact ⟨h.cell (by rw [cell_of_row W bF _ _ _ _ hF]; rfl) hne, h.cell (by rw [cell_of_row W bF _ _ _ _ hF]; rfl) hne⟩
theorem Book.of_heap {w : World} {b : Nat} (h : w.heap[b]? = some (.map #[] 0)) : Book w b 0 (fun _ _ => 0) :=
  ⟨.map [], ⟨#[], 0, h, ⟨by simp, MapKept.stamped_empty 0, by simp⟩, Nat.le_refl _, rfl⟩, fun c x _ _ => by simp [DataW.atKey]⟩
/-- a store in the book, at a step of a statement that draws its order -/
theorem step_book {w : World} {ops : Array Oper} {o : Oper} {a : Act} {K : Act → World → Prop} {Q : Exit → Act → World → Prop} {E : Prop} (hgd : o.guard = none) (m x v : Operand) (hop : o.op = Op.mapUpdate 54 m x v)
    {b n : Nat} {V : Nat → Nat → Int} (hB : Book w b n V) (hn : n < maxLen) {c y : Nat} (hc : c ≤ 1000) (hy : y ≤ 70368744177664) {z : Int} (hz : (Lit.int .i64 z).wf = true)
    (hm : a.eval m = .map (some b)) (hx : a.eval x = .agg #[.int .i64 (c : Int), .int .i64 (y : Int)]) (hv : a.eval v = .int .i64 z)
    (h : ∀ w', Book w' b (n + 1) (fun c' x' => if c' = c ∧ x' = y then z else V c' x') → Only (fun k => k = b) w w' → K (a.put o.dst undef) w') :
    if Region.wanted o (yielded ops a.tmps) = true then Oper.wp Tryd.prog o a w K Q else E := by
  have hw : Region.wanted o (yielded ops a.tmps) = true := by simp [Region.wanted, hgd]
  rw [if_pos hw]
  obtain ⟨w', hrun, r1, r2⟩ := hB.store hn hc hy hz
  unfold Oper.wp
  simp only [execOp, hop, hm, hx, hv, Sem.run_bind, hrun, Result.andThen_ok, Sem.run_pure]
  exact h w' r1 ⟨r2.os, r2.tape, r2.output, r2.size, fun k hk hne => r2.block k hk (fun e => hne (by injection e))⟩
theorem RowT.congr2 {p : Nat → Prop} {w : World} {e : TypeId} {m n : Nat} {A : Option Addr} {f f' : Nat → Nat → Value} (h : RowT p w e m A n f) (hf : ∀ k, k < n → f' k = f k) : RowT p w e m A n f' := fun hn => by
  obtain ⟨b, off, cur, e1, h1, h2, h3⟩ := h hn
  exact ⟨b, off, cur, e1, h1, h2, fun k hk j hj => by rw [h3 k hk j hj, hf k hk]⟩
theorem Arr.made2 (w : World) (x y : Value) (n : Nat) (e : TypeId) : Arr (w.alloc (.cells (madeCells #[x, y] (n * 2)) e)) w.heap.size e (n * 2) (fun p => if p % 2 = 0 then x else y) :=
  ⟨_, heap_alloc_new w _, by simp [madeCells], fun k hk => by
    simp [madeCells, hk]
    rcases Nat.mod_two_eq_zero_or_one k with h | h <;> simp [h]⟩
/-- the registers of a placing, the first i of them written -/
def rgV (g : Tb) (s : Nat → Int) (i p : Nat) : Value :=
  if p / 2 < i then (if p % 2 = 0 then .int .i64 (g.sel s (s 4).toNat (g.N (p / 2)).toNat : Nat) else .bool (g.I (p / 2))) else (if p % 2 = 0 then .int .i64 0 else .bool false)
theorem rgV_old (g : Tb) (s : Nat → Int) (i p : Nat) (h0 : p ≠ i * 2) (h1 : p ≠ i * 2 + 1) : rgV g s (i + 1) p = rgV g s i p := by
  unfold rgV
  by_cases h : p / 2 < i
  · rw [if_pos h, if_pos (by omega)]
  · rw [if_neg h, if_neg (by omega)]
theorem rgV_at0 (g : Tb) (s : Nat → Int) (i : Nat) : rgV g s (i + 1) (i * 2) = .int .i64 (g.sel s (s 4).toNat (g.N i).toNat : Nat) := by
  unfold rgV
  rw [if_pos (by omega), if_pos (by omega), show i * 2 / 2 = i by omega]
theorem rgV_at1 (g : Tb) (s : Nat → Int) (i : Nat) : rgV g s (i + 1) (i * 2 + 1) = .bool (g.I i) := by
  unfold rgV
  rw [if_pos (by omega), if_neg (by omega), show (i * 2 + 1) / 2 = i by omega]
theorem rgV_put {g : Tb} {s : Nat → Int} {w : World} {b n i : Nat} {e : TypeId} (h : Arr w b e n (rgV g s i)) {x y : Value} (hx : x = .int .i64 (g.sel s (s 4).toNat (g.N i).toNat : Nat)) (hy : y = .bool (g.I i)) :
    Arr ((w.setCell ⟨b, i * 2, none⟩ x).setCell ⟨b, i * 2 + 1, none⟩ y) b e n (rgV g s (i + 1)) := by
  have h1 : Arr (w.setCell ⟨b, i * 2, none⟩ x) b e n (fun p => if p = i * 2 then x else rgV g s i p) := Arr.set h (fun j _ hj => if_neg hj) (if_pos rfl)
  refine Arr.set h1 (fun j _ hj => ?_) (by rw [hy]; exact rgV_at1 g s i)
  by_cases e : j = i * 2
  · rw [if_pos e, e, hx]; exact rgV_at0 g s i
  · rw [if_neg e]; exact rgV_old g s i j e hj
theorem rgV_cell {g : Tb} {s : Nat → Int} {w : World} {b n i : Nat} {e : TypeId} (h : Arr w b e (n * 2) (rgV g s i)) (hi : i < n) : w.cell? ⟨b, i * 2, none⟩ = some (.int .i64 0) ∧ w.cell? ⟨b, i * 2 + 1, none⟩ = some (.bool false) := by
  constructor
  · rw [Arr.cell h (by omega)]; unfold rgV; rw [if_neg (by omega), if_pos (by omega)]
  · rw [Arr.cell h (by omega)]; unfold rgV; rw [if_neg (by omega), if_neg (by omega)]
theorem rgV_row {g : Tb} {s : Nat → Int} {w : World} {b n : Nat} {e : TypeId} (h : Arr w b e (n * 2) (rgV g s g.n3)) :
    RowS w 2 (some ⟨b, 0, none⟩) n (fun k => two (.int .i64 (if k < g.n3 then (g.sel s (s 4).toNat (g.N k).toNat : Nat) else (0 : Nat) : Int)) (.bool (if k < g.n3 then g.I k else false))) := fun _ => ⟨b, 0, rfl, fun k hk j hj => by
  rw [Nat.zero_add, Arr.cell h (k := k * 2 + j) (by omega)]
  refine congrArg some ?_
  unfold rgV
  obtain rfl | rfl : j = 0 ∨ j = 1 := by omega
  · rw [show (k * 2 + 0) / 2 = k by omega, if_pos (show (k * 2 + 0) % 2 = 0 by omega), if_pos (show (k * 2 + 0) % 2 = 0 by omega)]
    by_cases h : k < g.n3
    · simp only [if_pos h]; rfl
    · simp only [if_neg h]; rfl
  · rw [show (k * 2 + 1) / 2 = k by omega, if_neg (show ¬ (k * 2 + 1) % 2 = 0 by omega), if_neg (show ¬ (k * 2 + 1) % 2 = 0 by omega)]
    by_cases h : k < g.n3
    · simp only [if_pos h]; rfl
    · simp only [if_neg h]; rfl⟩
theorem RCols.row {W : World} {base i cC : Nat} {AC : Option Addr} {rows cc : Nat → Nat} {CA : Nat → Option Addr} {B : Nat → Nat → Int} {L : Nat → Nat → Nat → Int} (h : RCols W base AC i cC rows CA cc B L) :
    Row1 W AC i (fun j => .slice (CA j) (rows j) (cc j)) := fun h0 => by
  obtain ⟨b, off, e, hc⟩ := own_row1 h.own h0
  refine ⟨b, off, e, fun k hk => (hc k hk).trans (congrArg some ?_)⟩
  simp [List.getD_eq_getElem?_getD, hk]
theorem sel_at0 {g : Tb} {s : Nat → Int} {x : Nat} (h : x < 2 + g.ins.toNat) : g.sel s 0 x = x := by
  unfold Tb.sel
  by_cases h2 : x < 2
  · rw [if_pos h2]
  · rw [if_neg h2, if_pos rfl, if_pos h]
theorem sel_at1 {g : Tb} {s : Nat → Int} {i : Nat} (h : i < g.n1) : g.sel s 0 (2 + g.ins.toNat + i) = 2 + (s 0).toNat + i := by
  unfold Tb.sel Tb.pre
  rw [if_neg (by omega), if_pos rfl, if_neg (by omega), if_pos (by omega)]
  omega
theorem sel_at2 {g : Tb} {s : Nat → Int} {x : Nat} (h : g.pre ≤ x) (h2 : 2 ≤ x) : g.sel s 0 x = 0 := by
  have hp : 2 + g.ins.toNat ≤ g.pre := by unfold Tb.pre; omega
  unfold Tb.sel
  rw [if_neg (by omega), if_pos rfl, if_neg (by omega), if_neg (by omega)]
theorem elCol : Elem Tryd.prog 33 63 1 24 := elem_mk Tryd.underlying33 (show (Tryd.prog.info? 63).map (fun i => (i.zero, i.size, i.bytes)) = some (some (.slice none 0 0), 1, 24) by kernel_rfl) rfl (by omega) (by omega)
theorem mk_regs (n : Nat) (hn : n ≤ 100000) (W : World) : (Instr.makeSlice 34 (.int .i64 (n : Int)) (.int .i64 (n : Int))).run Tryd.prog W = .ok (.slice (some ⟨W.heap.size, 0, none⟩) n n) (W.alloc (.cells (madeCells #[.int .i64 0, .bool false] (n * 2)) 68)) := by
  have h := run_mk Tryd.underlying34 Tryd.zeroCfg .i64 .i64 (n : Int) (n : Int) (by omega) (by omega) (by omega) (by omega) W
  simpa [Value.cells] using h
end Go.Proofs.YtlmcbhmaccncbaaDoor
