/- Rows of a graph's text, as they are told right or wrong: plain Lean; what stands while aiger's (*cursor).graph runs. No condition. -/
import Derived.Test.YtngjbiipgbeemaaDoorGrR
import Derived.Test.YtngjbiipgbeemaaDoorHdA
namespace Go.Proofs.YtngjbiipgbeemaaDoor
open Go.RowKit Go.Shelf Go.Deep

/-- an operation whose guard was skipped itself -/
theorem Heads.skipU {P : Program} {ops : Array Oper} {S : World → Prop} {i j : Nat} {want : Bool} {is : List Nat} {o : Oper} {R : Act → Prop} {a : Act} (ho : ops[i]? = some o) (hg : o.guard = some (j, want)) (hy : ((ops[j]?).bind (·.dst)).bind (a.tmps[·]?) = some undef)
    (h : Heads P ops S R is (a.put o.dst undef)) : Heads P ops S R (i :: is) a := Heads.skip ho (by simp [Region.wanted, hg, yielded, hy, undef]) h
theorem rowN_drop (LS : List (List UInt8)) (t : Nat) : rowN LS t = (match LS.drop (t + 1) with | [] => none | l :: _ => numsB l) := by
  unfold rowN
  by_cases h : t + 1 < LS.length
  · rw [List.getElem?_eq_getElem h, List.drop_eq_getElem_cons h]
  · rw [List.getElem?_eq_none (by omega), List.drop_eq_nil_of_le (by omega)]
theorem rowQ_drop (LS : List (List UInt8)) (t a b own : Nat) (st : Bool) : rowQ (LS.drop (t + 1)) a b st own = (match rowN LS t with
    | none => none
    | some n => if (a ≤ n.length ∧ n.length ≤ b) ∧ ¬ (st = true ∧ n.getD 0 0 ≠ own + 2) then some n else none) := by
  rw [rowN_drop]
  cases LS.drop (t + 1) with
  | nil => rfl
  | cons l r =>
    show (match numQ l a b with | none => none | some n => if st = true ∧ n.getD 0 0 ≠ own + 2 then none else some n) = (match numsB l with | none => none | some n => _)
    unfold numQ
    cases numsB l with
    | none => rfl
    | some n =>
      by_cases h1 : a ≤ n.length ∧ n.length ≤ b
      · by_cases h2 : st = true ∧ n.getD 0 0 ≠ own + 2
        · simp only [if_pos h1, if_pos h2, if_neg (show ¬ ((a ≤ n.length ∧ n.length ≤ b) ∧ ¬ (st = true ∧ n.getD 0 0 ≠ own + 2)) from fun h => h.2 h2)]
        · simp only [if_pos h1, if_neg h2, if_pos (show (a ≤ n.length ∧ n.length ≤ b) ∧ ¬ (st = true ∧ n.getD 0 0 ≠ own + 2) from ⟨h1, h2⟩)]
      · simp only [if_neg h1, if_neg (show ¬ ((a ≤ n.length ∧ n.length ≤ b) ∧ ¬ (st = true ∧ n.getD 0 0 ≠ own + 2)) from fun h => h1 h.1)]
section
variable {LS : List (List UInt8)} {t a b own : Nat} {st : Bool} {h : Hd} {ns : List Nat}
theorem rowQ_yes (e : rowQ (LS.drop (t + 1)) a b st own = some ns) : rowN LS t = some ns ∧ a ≤ ns.length ∧ ns.length ≤ b ∧ (st = true → ns.getD 0 0 = own + 2) := by
  rw [rowQ_drop] at e
  split at e
  · cases e
  · rename_i n hn
    split at e
    · rename_i hc
      injection e with e
      subst e
      exact ⟨hn, hc.1.1, hc.1.2, fun hs => Classical.byContradiction (fun hx => hc.2 ⟨hs, hx⟩)⟩
    · cases e
theorem rowQ_no (e : rowQ (LS.drop (t + 1)) a b st own = none) {n : List Nat} (hn : rowN LS t = some n) (h1 : a ≤ n.length) (h2 : n.length ≤ b) (h3 : st = true → n.getD 0 0 = own + 2) : False := by
  rw [rowQ_drop, hn] at e
  simp only [if_pos (show (a ≤ n.length ∧ n.length ≤ b) ∧ ¬ (st = true ∧ n.getD 0 0 ≠ own + 2) from ⟨⟨h1, h2⟩, fun hx => hx.2 (h3 hx.1)⟩)] at e
  cases e
/-! ### inputs -/
theorem in_yes (ht : t < h.i) (e : rowQ (LS.drop (t + 1)) 1 1 true (2 * t) = some ns) : h.rowOk LS t := by
  obtain ⟨h1, h2, h3, h4⟩ := rowQ_yes e
  refine ⟨ns, h1, ?_⟩
  unfold Hd.okN
  rw [if_pos ht]
  have := h4 rfl
  simp only [Bool.and_eq_true, beq_iff_eq]
  omega
theorem in_no (ht : t < h.i) (e : rowQ (LS.drop (t + 1)) 1 1 true (2 * t) = none) : ¬ h.rowOk LS t := by
  rintro ⟨n, h1, h2⟩
  unfold Hd.okN at h2
  rw [if_pos ht] at h2
  simp only [Bool.and_eq_true, beq_iff_eq] at h2
  exact rowQ_no e h1 (by omega) (by omega) (fun _ => by omega)
/-! ### latches -/
theorem la_yes (ht : ¬ t < h.i) (ht2 : t < h.i + h.l) (e : rowQ (LS.drop (t + 1)) 2 3 true (2 * t) = some ns) (hm : ns.getD 1 0 < h.most) (h3 : ¬ (ns.length = 3 ∧ 1 < ns.getD 2 0)) : h.rowOk LS t := by
  obtain ⟨h1, h2, h4, h5⟩ := rowQ_yes e
  refine ⟨ns, h1, ?_⟩
  unfold Hd.okN
  rw [if_neg ht, if_pos ht2]
  have := h5 rfl
  simp only [Bool.and_eq_true, Bool.or_eq_true, beq_iff_eq, decide_eq_true_eq]
  omega
theorem la_no (ht : ¬ t < h.i) (ht2 : t < h.i + h.l) (e : rowQ (LS.drop (t + 1)) 2 3 true (2 * t) = none) : ¬ h.rowOk LS t := by
  rintro ⟨n, h1, h2⟩
  unfold Hd.okN at h2
  rw [if_neg ht, if_pos ht2] at h2
  simp only [Bool.and_eq_true, Bool.or_eq_true, beq_iff_eq, decide_eq_true_eq] at h2
  exact rowQ_no e h1 (by omega) (by omega) (fun _ => by omega)
theorem la_not (ht : ¬ t < h.i) (ht2 : t < h.i + h.l) (e : rowQ (LS.drop (t + 1)) 2 3 true (2 * t) = some ns) (hb : h.most ≤ ns.getD 1 0 ∨ (ns.length = 3 ∧ 1 < ns.getD 2 0)) : ¬ h.rowOk LS t := by
  rintro ⟨n, h1, h2⟩
  obtain ⟨e1, _⟩ := rowQ_yes e
  rw [e1] at h1
  injection h1 with h1
  subst h1
  unfold Hd.okN at h2
  rw [if_neg ht, if_pos ht2] at h2
  simp only [Bool.and_eq_true, Bool.or_eq_true, beq_iff_eq, decide_eq_true_eq] at h2
  omega
/-! ### outputs -/
theorem ou_yes (ht : ¬ t < h.i + h.l) (ht2 : t < h.i + h.l + h.o) (e : rowQ (LS.drop (t + 1)) 1 1 false own = some ns) (hm : ns.getD 0 0 < h.most) : h.rowOk LS t := by
  obtain ⟨h1, h2, h4, h5⟩ := rowQ_yes e
  refine ⟨ns, h1, ?_⟩
  unfold Hd.okN
  rw [if_neg (by omega), if_neg ht, if_pos ht2]
  simp only [Bool.and_eq_true, beq_iff_eq, decide_eq_true_eq]
  omega
theorem ou_no (ht : ¬ t < h.i + h.l) (ht2 : t < h.i + h.l + h.o) (e : rowQ (LS.drop (t + 1)) 1 1 false own = none) : ¬ h.rowOk LS t := by
  rintro ⟨n, h1, h2⟩
  unfold Hd.okN at h2
  rw [if_neg (by omega), if_neg ht, if_pos ht2] at h2
  simp only [Bool.and_eq_true, beq_iff_eq, decide_eq_true_eq] at h2
  exact rowQ_no e h1 (by omega) (by omega) (fun hx => by cases hx)
theorem ou_not (ht : ¬ t < h.i + h.l) (ht2 : t < h.i + h.l + h.o) (e : rowQ (LS.drop (t + 1)) 1 1 false own = some ns) (hb : h.most ≤ ns.getD 0 0) : ¬ h.rowOk LS t := by
  rintro ⟨n, h1, h2⟩
  obtain ⟨e1, _⟩ := rowQ_yes e
  rw [e1] at h1
  injection h1 with h1
  subst h1
  unfold Hd.okN at h2
  rw [if_neg (by omega), if_neg ht, if_pos ht2] at h2
  simp only [Bool.and_eq_true, beq_iff_eq, decide_eq_true_eq] at h2
  omega
/-! ### gates -/
theorem an_yes (ht : ¬ t < h.i + h.l + h.o) (ho : own = 2 * (t - h.o)) (e : rowQ (LS.drop (t + 1)) 3 3 true own = some ns) (h1' : ns.getD 1 0 < ns.getD 0 0) (h2' : ns.getD 2 0 < ns.getD 0 0) : h.rowOk LS t := by
  obtain ⟨h1, h2, h4, h5⟩ := rowQ_yes e
  refine ⟨ns, h1, ?_⟩
  unfold Hd.okN
  rw [if_neg (by omega), if_neg (by omega), if_neg ht]
  have := h5 rfl
  simp only [Bool.and_eq_true, beq_iff_eq, decide_eq_true_eq]
  omega
theorem an_no (ht : ¬ t < h.i + h.l + h.o) (ho : own = 2 * (t - h.o)) (e : rowQ (LS.drop (t + 1)) 3 3 true own = none) : ¬ h.rowOk LS t := by
  rintro ⟨n, h1, h2⟩
  unfold Hd.okN at h2
  rw [if_neg (by omega), if_neg (by omega), if_neg ht] at h2
  simp only [Bool.and_eq_true, beq_iff_eq, decide_eq_true_eq] at h2
  exact rowQ_no e h1 (by omega) (by omega) (fun _ => by omega)
theorem an_not (ht : ¬ t < h.i + h.l + h.o) (e : rowQ (LS.drop (t + 1)) 3 3 true own = some ns) (hb : ¬ (ns.getD 1 0 < ns.getD 0 0 ∧ ns.getD 2 0 < ns.getD 0 0)) : ¬ h.rowOk LS t := by
  rintro ⟨n, h1, h2⟩
  obtain ⟨e1, _⟩ := rowQ_yes e
  rw [e1] at h1
  injection h1 with h1
  subst h1
  unfold Hd.okN at h2
  rw [if_neg (by omega), if_neg (by omega), if_neg ht] at h2
  simp only [Bool.and_eq_true, beq_iff_eq, decide_eq_true_eq] at h2
  omega
theorem Hd.Upto.next (hu : h.Upto LS t) (e : h.rowOk LS t) : h.Upto LS (t + 1) := fun s hs => by
  by_cases e1 : s = t
  · rw [e1]; exact e
  · exact hu s (by omega)
end
/-- the head or a row is wrong, at line p -/
def GrBad (txt : List UInt8) (p : Nat) : Prop := (hd0 (linA txt []) = none ∧ p = 1) ∨ ∃ h, hd0 (linA txt []) = some h ∧ ∃ t, t < h.rows ∧ h.Upto (linA txt []) t ∧ ¬ h.rowOk (linA txt []) t ∧ p = t + 2
theorem GrBad.bad {txt : List UInt8} {p : Nat} (h : GrBad txt p) : BadT txt p := by
  rcases h with h | ⟨h, e, ht⟩
  · exact .inl h
  · exact .inr ⟨h, e, .inl ht⟩
theorem no_share {w : World} {base : Nat} {e e' : TypeId} {s s' n n' c c' : Nat} {A A' : Option Addr} {xs xs' : List Value} (h : w.ownsRow base e s (.slice A n c) n xs) (h' : w.ownsRow base e' s' (.slice A' n' c') n' xs') (hne : e ≠ e') : ∀ k, blockOf A k → ¬ blockOf A' k := fun k hk hk' => by
  obtain ⟨a, rfl, rfl⟩ := hk
  rcases h.2 with ⟨h0, _⟩ | ⟨g, cap, cur', hv, hg, hh, _⟩
  · cases h0
  · injection hv with e1
    injection e1 with e1
    subst e1
    exact own_type (e' := e) h' hne _ _ hh hk'
/-! ### What lies in memory -/
def fLat (h : Hd) (LS : List (List UInt8)) (k : Nat) : Nat → Value := two (.int .i64 ((h.graph LS).L k)) (.bool ((h.graph LS).I k))
def fAnd (h : Hd) (LS : List (List UInt8)) (k : Nat) : Nat → Value := two (.int .i64 ((h.graph LS).X k)) (.int .i64 ((h.graph LS).Y k))
def fOut (h : Hd) (LS : List (List UInt8)) (k : Nat) : Nat → Value := fun _ => .int .i64 ((h.graph LS).O k)
def grV (i : Int) (v1 v2 v3 : Value) : Array Value := #[.int .i64 i, v1, v2, v3]
/-- what stands while the rows are read: t rows are taken -/
structure GrI (w0 : World) (txt : List UInt8) (h : Hd) (bc b1 b2 b6 b8 b9 z : Nat) (t own : Nat) (rest : List UInt8) (A1 A2 A3 : Option Addr) (c1 c2 c3 n1 n2 n3 : Nat) (W : World) : Prop where
  cur : CurAt W bc rest (t + 1)
  lin : linA rest [] = (linA txt []).drop (t + 1)
  tl : tlA rest [] = tlA txt []
  len : rest.length ≤ txt.length
  rb : RowB W b1 b9 bc own
  sz : SzAt W b6 h.i h.l h.o h.a
  g : W.heap[b8]? = some (.cells #[.int .i64 (h.i : Int), .slice A1 n1 c1, .slice A2 n2 c2, .slice A3 n3 c3] 28)
  r2 : W.heap[b2]? = some (.cells #[.int .i64 0, .slice none 0 0, .slice none 0 0, .slice none 0 0] 28)
  o1 : W.ownsRow z 47 2 (.slice A1 n1 c1) n1 (flatF 2 (fLat h (linA txt [])) n1)
  o2 : W.ownsRow z 48 2 (.slice A2 n2 c2) n2 (flatF 2 (fAnd h (linA txt [])) n2)
  o3 : W.ownsRow z 3 1 (.slice A3 n3 c3) n3 (flatF 1 (fOut h (linA txt [])) n3)
  only : Only (fun k => k = bc) w0 W
  mx : MaxT W
  zz : z ≤ W.heap.size
  low : 1 < w0.heap.size ∧ bc < w0.heap.size ∧ w0.heap.size ≤ b1 ∧ b1 < z ∧ w0.heap.size ≤ b2 ∧ b2 < b8 ∧ w0.heap.size ≤ b6 ∧ b6 < z ∧ b8 < z ∧ w0.heap.size ≤ b9 ∧ b9 < z
section
variable {w0 W W1 W4 : World} {txt rest rest' : List UInt8} {h : Hd} {bc b1 b2 b6 b8 b9 z t own own' c1 c2 c3 n1 n2 n3 : Nat} {A1 A2 A3 A' : Option Addr} {c' : Nat}
theorem GrI.below (g : GrI w0 txt h bc b1 b2 b6 b8 b9 z t own rest A1 A2 A3 c1 c2 c3 n1 n2 n3 W) (k : Below W.heap.size W W1) : GrI w0 txt h bc b1 b2 b6 b8 b9 z t own rest A1 A2 A3 c1 c2 c3 n1 n2 n3 W1 :=
  ⟨heap_below k g.cur, g.lin, g.tl, g.len, ⟨heap_below k g.rb.p, heap_below k g.rb.o⟩, heap_below k g.sz, heap_below k g.g, heap_below k g.r2, own_below g.o1 k, own_below g.o2 k, own_below g.o3 k, g.only.call k, g.mx.below k, Nat.le_trans g.zz k.size, g.low⟩
theorem GrI.drew (g : GrI w0 txt h bc b1 b2 b6 b8 b9 z t own rest A1 A2 A3 c1 c2 c3 n1 n2 n3 W) : GrI w0 txt h bc b1 b2 b6 b8 b9 z t own rest A1 A2 A3 c1 c2 c3 n1 n2 n3 W.drew := g.below ((Below.refl _ W).drew)
theorem GrI.no1 (g : GrI w0 txt h bc b1 b2 b6 b8 b9 z t own rest A1 A2 A3 c1 c2 c3 n1 n2 n3 W) : b9 ≠ 1 ∧ bc ≠ 1 := by
  have h1 := g.low
  exact ⟨by omega, g.cur.no1 g.mx⟩
/-- a row is taken -/
theorem GrI.row (g : GrI w0 txt h bc b1 b2 b6 b8 b9 z t own rest A1 A2 A3 c1 c2 c3 n1 n2 n3 W) (hO : Only (fun k => k = bc ∨ k = b9) W W1) (hc : CurAt W1 bc rest' (t + 1 + 1)) (hl : ∃ l, linA rest [] = l :: linA rest' []) (ht : tlA rest [] = tlA rest' []) (hn : rest'.length ≤ rest.length)
    (ho : W1.heap[b9]? = some (.cells #[.int .i64 (own' : Int)] 3)) : GrI w0 txt h bc b1 b2 b6 b8 b9 z (t + 1) own' rest' A1 A2 A3 c1 c2 c3 n1 n2 n3 W1 := by
  have hw := g.low
  have n1' := g.no1
  have e1 : ∀ (b : Nat) cur (e : TypeId), W.heap[b]? = some (.cells cur e) → e ≠ 55 → e ≠ 3 → ¬ (b = bc ∨ b = b9) := fun b cur e hb h1 h2 hs => by
    rcases hs with rfl | rfl
    · exact ne_type hb g.cur h1 rfl
    · exact ne_type hb g.rb.o h2 rfl
  have e2 : ∀ b, z ≤ b → ¬ (b = bc ∨ b = b9) := fun b hb hs => by omega
  refine ⟨hc, ?_, ht.symm.trans g.tl, Nat.le_trans hn g.len, ⟨hO.heap g.rb.p (e1 _ _ _ g.rb.p (by decide) (by decide)), ho⟩, hO.heap g.sz (e1 _ _ _ g.sz (by decide) (by decide)), hO.heap g.g (e1 _ _ _ g.g (by decide) (by decide)), hO.heap g.r2 (e1 _ _ _ g.r2 (by decide) (by decide)),
    own_only g.o1 hO (fun b hb => e2 b (own_base g.o1 b hb)), own_only g.o2 hO (fun b hb => e2 b (own_base g.o2 b hb)), own_only g.o3 hO (fun b hb => e2 b (own_base g.o3 b hb)), g.only.then_ hO (fun i hi hs => ?_), g.mx.only hO (fun hs => ?_), Nat.le_trans g.zz hO.size, g.low⟩
  · obtain ⟨l, hl⟩ := hl
    have h1 := g.lin
    rw [hl] at h1
    have h2 : (linA txt []).drop (t + 1 + 1) = ((linA txt []).drop (t + 1)).drop 1 := by rw [List.drop_drop]
    rw [h2, ← h1]; rfl
  · rcases hs with e | e
    · exact e
    · omega
  · rcases hs with e | e
    · exact n1'.2 e.symm
    · exact n1'.1 e.symm
/-- a row is not taken -/
theorem GrI.fail (g : GrI w0 txt h bc b1 b2 b6 b8 b9 z t own rest A1 A2 A3 c1 c2 c3 n1 n2 n3 W) (hO : Only (fun k => k = bc ∨ k = b9) W W1) :
    W1.heap[b8]? = some (.cells #[.int .i64 (h.i : Int), .slice A1 n1 c1, .slice A2 n2 c2, .slice A3 n3 c3] 28) ∧ W1.heap[b2]? = some (.cells #[.int .i64 0, .slice none 0 0, .slice none 0 0, .slice none 0 0] 28) ∧ Only (fun k => k = bc) w0 W1 := by
  have hw := g.low
  have e1 : ∀ (b : Nat) cur (e : TypeId), W.heap[b]? = some (.cells cur e) → e ≠ 55 → e ≠ 3 → ¬ (b = bc ∨ b = b9) := fun b cur e hb h1 h2 hs => by
    rcases hs with rfl | rfl
    · exact ne_type hb g.cur h1 rfl
    · exact ne_type hb g.rb.o h2 rfl
  refine ⟨hO.heap g.g (e1 _ _ _ g.g (by decide) (by decide)), hO.heap g.r2 (e1 _ _ _ g.r2 (by decide) (by decide)), g.only.then_ hO (fun i hi hs => ?_)⟩
  rcases hs with e | e
  · exact e
  · omega
/-- the results' box is written -/
theorem GrI.res (g : GrI w0 txt h bc b1 b2 b6 b8 b9 z t own rest A1 A2 A3 c1 c2 c3 n1 n2 n3 W) (x0 x1 x2 x3 : Value) : (st4 W b2 x0 x1 x2 x3).heap[b2]? = some (.cells #[x0, x1, x2, x3] 28) ∧ CurAt (st4 W b2 x0 x1 x2 x3) bc rest (t + 1) ∧ Only (fun k => k = bc) w0 (st4 W b2 x0 x1 x2 x3) := by
  have hk := st4_only W b2 x0 x1 x2 x3
  have hw := g.low
  exact ⟨st4_heap g.r2 _ _ _ _, hk.heap g.cur (by omega), g.only.then_ hk (fun i hi hs => by omega)⟩
theorem GrI.at_ (g : GrI w0 txt h bc b1 b2 b6 b8 b9 z t own rest A1 A2 A3 c1 c2 c3 h.l h.a h.o W) (x0 x1 x2 x3 : Value) (W' : World) (hO : Only (fun k => k < w0.heap.size) (st4 W b2 x0 x1 x2 x3) W') : (h.graph (linA txt [])).At W' A1 A2 A3 := by
  have hk := st4_only W b2 x0 x1 x2 x3
  have hw := g.low
  have e2 : ∀ b, z ≤ b → ¬ (b = b2) := fun b hb hs => by omega
  have e3 : ∀ b, z ≤ b → ¬ (b < w0.heap.size) := fun b hb hs => by omega
  have o1 := own_only (own_only g.o1 hk (fun b hb => e2 b (own_base g.o1 b hb))) hO (fun b hb => e3 b (own_base g.o1 b hb))
  have o2 := own_only (own_only g.o2 hk (fun b hb => e2 b (own_base g.o2 b hb))) hO (fun b hb => e3 b (own_base g.o2 b hb))
  have o3 := own_only (own_only g.o3 hk (fun b hb => e2 b (own_base g.o3 b hb))) hO (fun b hb => e3 b (own_base g.o3 b hb))
  exact ⟨(own_flat o1).row, (own_flat o2).row, (own_flat o3).row.one⟩
theorem GrI.lat (g : GrI w0 txt h bc b1 b2 b6 b8 b9 z t own rest A1 A2 A3 c1 c2 c3 n1 n2 n3 W) {news : List Value} (hown : W4.ownsRow z 47 2 (.slice A' (n1 + 1) c') (n1 + 1) (flatF 2 (fLat h (linA txt [])) n1 ++ news)) (hnew : news = (List.range 2).map (fLat h (linA txt []) n1)) (hon : Only (blockOf A1) W W4) :
    W4.heap[b8]? = some (.cells #[.int .i64 (h.i : Int), .slice A1 n1 c1, .slice A2 n2 c2, .slice A3 n3 c3] 28) ∧ GrI w0 txt h bc b1 b2 b6 b8 b9 z t own rest A' A2 A3 c' c2 c3 (n1 + 1) n2 n3 (W4.setCell ⟨b8, 1, none⟩ (.slice A' (n1 + 1) c')) := by
  have hw := g.low
  have n1' := g.no1
  have hA : ∀ k, blockOf A1 k → z ≤ k := own_base g.o1
  have hno : ∀ k, k < z → ¬ blockOf A1 k := fun k hk hs => by have := hA k hs; omega
  have hg := hon.heap g.g (hno _ (by omega))
  have hk : Only (fun k => k = b8) W4 (W4.setCell ⟨b8, 1, none⟩ (.slice A' (n1 + 1) c')) := Only.setCell (p := ⟨b8, 1, none⟩) (Only.refl (fun k => k = b8) W4) (fun _ => rfl) _
  have e2 : ∀ b, z ≤ b → ¬ (b = b8) := fun b hb hs => by omega
  have hNew : (W4.setCell ⟨b8, 1, none⟩ (.slice A' (n1 + 1) c')).ownsRow z 47 2 (.slice A' (n1 + 1) c') (n1 + 1) (flatF 2 (fLat h (linA txt [])) (n1 + 1)) := by
    rw [hnew] at hown
    exact own_only hown hk (fun b hb => e2 b (own_base hown b hb))
  refine ⟨hg, hk.heap (hon.heap g.cur (hno _ (by omega))) (ne_type (hon.heap g.cur (hno _ (by omega))) hg (by decide)), g.lin, g.tl, g.len, ⟨hk.heap (hon.heap g.rb.p (hno _ (by omega))) (ne_type (hon.heap g.rb.p (hno _ (by omega))) hg (by decide)), hk.heap (hon.heap g.rb.o (hno _ (by omega))) (ne_type (hon.heap g.rb.o (hno _ (by omega))) hg (by decide))⟩, hk.heap (hon.heap g.sz (hno _ (by omega))) (ne_type (hon.heap g.sz (hno _ (by omega))) hg (by decide)),
    set4_1 hg _, hk.heap (hon.heap g.r2 (hno _ (by omega))) (by omega), hNew, own_only (own_only g.o2 hon (no_share g.o2 g.o1 (by decide))) hk (fun b hb => e2 b (own_base g.o2 b hb)), own_only (own_only g.o3 hon (no_share g.o3 g.o1 (by decide))) hk (fun b hb => e2 b (own_base g.o3 b hb)), (g.only.then_ hon (fun i hi hs => by have := hA i hs; omega)).then_ hk (fun i hi hs => by omega), (g.mx.only hon (hno _ (by omega))).only hk (by omega), Nat.le_trans (Nat.le_trans g.zz hon.size) hk.size, g.low⟩
theorem GrI.and_ (g : GrI w0 txt h bc b1 b2 b6 b8 b9 z t own rest A1 A2 A3 c1 c2 c3 n1 n2 n3 W) {news : List Value} (hown : W4.ownsRow z 48 2 (.slice A' (n2 + 1) c') (n2 + 1) (flatF 2 (fAnd h (linA txt [])) n2 ++ news)) (hnew : news = (List.range 2).map (fAnd h (linA txt []) n2)) (hon : Only (blockOf A2) W W4) :
    W4.heap[b8]? = some (.cells #[.int .i64 (h.i : Int), .slice A1 n1 c1, .slice A2 n2 c2, .slice A3 n3 c3] 28) ∧ GrI w0 txt h bc b1 b2 b6 b8 b9 z t own rest A1 A' A3 c1 c' c3 n1 (n2 + 1) n3 (W4.setCell ⟨b8, 2, none⟩ (.slice A' (n2 + 1) c')) := by
  have hw := g.low
  have n1' := g.no1
  have hA : ∀ k, blockOf A2 k → z ≤ k := own_base g.o2
  have hno : ∀ k, k < z → ¬ blockOf A2 k := fun k hk hs => by have := hA k hs; omega
  have hg := hon.heap g.g (hno _ (by omega))
  have hk : Only (fun k => k = b8) W4 (W4.setCell ⟨b8, 2, none⟩ (.slice A' (n2 + 1) c')) := Only.setCell (p := ⟨b8, 2, none⟩) (Only.refl (fun k => k = b8) W4) (fun _ => rfl) _
  have e2 : ∀ b, z ≤ b → ¬ (b = b8) := fun b hb hs => by omega
  have hNew : (W4.setCell ⟨b8, 2, none⟩ (.slice A' (n2 + 1) c')).ownsRow z 48 2 (.slice A' (n2 + 1) c') (n2 + 1) (flatF 2 (fAnd h (linA txt [])) (n2 + 1)) := by
    rw [hnew] at hown
    exact own_only hown hk (fun b hb => e2 b (own_base hown b hb))
  refine ⟨hg, hk.heap (hon.heap g.cur (hno _ (by omega))) (ne_type (hon.heap g.cur (hno _ (by omega))) hg (by decide)), g.lin, g.tl, g.len, ⟨hk.heap (hon.heap g.rb.p (hno _ (by omega))) (ne_type (hon.heap g.rb.p (hno _ (by omega))) hg (by decide)), hk.heap (hon.heap g.rb.o (hno _ (by omega))) (ne_type (hon.heap g.rb.o (hno _ (by omega))) hg (by decide))⟩, hk.heap (hon.heap g.sz (hno _ (by omega))) (ne_type (hon.heap g.sz (hno _ (by omega))) hg (by decide)),
    set4_2 hg _, hk.heap (hon.heap g.r2 (hno _ (by omega))) (by omega), own_only (own_only g.o1 hon (no_share g.o1 g.o2 (by decide))) hk (fun b hb => e2 b (own_base g.o1 b hb)), hNew, own_only (own_only g.o3 hon (no_share g.o3 g.o2 (by decide))) hk (fun b hb => e2 b (own_base g.o3 b hb)), (g.only.then_ hon (fun i hi hs => by have := hA i hs; omega)).then_ hk (fun i hi hs => by omega), (g.mx.only hon (hno _ (by omega))).only hk (by omega), Nat.le_trans (Nat.le_trans g.zz hon.size) hk.size, g.low⟩
theorem GrI.out (g : GrI w0 txt h bc b1 b2 b6 b8 b9 z t own rest A1 A2 A3 c1 c2 c3 n1 n2 n3 W) {news : List Value} (hown : W4.ownsRow z 3 1 (.slice A' (n3 + 1) c') (n3 + 1) (flatF 1 (fOut h (linA txt [])) n3 ++ news)) (hnew : news = (List.range 1).map (fOut h (linA txt []) n3)) (hon : Only (blockOf A3) W W4) :
    W4.heap[b8]? = some (.cells #[.int .i64 (h.i : Int), .slice A1 n1 c1, .slice A2 n2 c2, .slice A3 n3 c3] 28) ∧ GrI w0 txt h bc b1 b2 b6 b8 b9 z t own rest A1 A2 A' c1 c2 c' n1 n2 (n3 + 1) (W4.setCell ⟨b8, 3, none⟩ (.slice A' (n3 + 1) c')) := by
  have hw := g.low
  have n1' := g.no1
  have hA : ∀ k, blockOf A3 k → z ≤ k := own_base g.o3
  have hno : ∀ k, k < z → ¬ blockOf A3 k := fun k hk hs => by have := hA k hs; omega
  have hg := hon.heap g.g (hno _ (by omega))
  have hk : Only (fun k => k = b8) W4 (W4.setCell ⟨b8, 3, none⟩ (.slice A' (n3 + 1) c')) := Only.setCell (p := ⟨b8, 3, none⟩) (Only.refl (fun k => k = b8) W4) (fun _ => rfl) _
  have e2 : ∀ b, z ≤ b → ¬ (b = b8) := fun b hb hs => by omega
  have hNew : (W4.setCell ⟨b8, 3, none⟩ (.slice A' (n3 + 1) c')).ownsRow z 3 1 (.slice A' (n3 + 1) c') (n3 + 1) (flatF 1 (fOut h (linA txt [])) (n3 + 1)) := by
    rw [hnew] at hown
    exact own_only hown hk (fun b hb => e2 b (own_base hown b hb))
  refine ⟨hg, hk.heap (hon.heap g.cur (hno _ (by omega))) (ne_type (hon.heap g.cur (hno _ (by omega))) hg (by decide)), g.lin, g.tl, g.len, ⟨hk.heap (hon.heap g.rb.p (hno _ (by omega))) (ne_type (hon.heap g.rb.p (hno _ (by omega))) hg (by decide)), hk.heap (hon.heap g.rb.o (hno _ (by omega))) (ne_type (hon.heap g.rb.o (hno _ (by omega))) hg (by decide))⟩, hk.heap (hon.heap g.sz (hno _ (by omega))) (ne_type (hon.heap g.sz (hno _ (by omega))) hg (by decide)),
    set4_3 hg _, hk.heap (hon.heap g.r2 (hno _ (by omega))) (by omega), own_only (own_only g.o1 hon (no_share g.o1 g.o3 (by decide))) hk (fun b hb => e2 b (own_base g.o1 b hb)), own_only (own_only g.o2 hon (no_share g.o2 g.o3 (by decide))) hk (fun b hb => e2 b (own_base g.o2 b hb)), hNew, (g.only.then_ hon (fun i hi hs => by have := hA i hs; omega)).then_ hk (fun i hi hs => by omega), (g.mx.only hon (hno _ (by omega))).only hk (by omega), Nat.le_trans (Nat.le_trans g.zz hon.size) hk.size, g.low⟩
end
end Go.Proofs.YtngjbiipgbeemaaDoor
