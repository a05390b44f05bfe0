/- Rows of a graph's text by the reference's row: plain Lean; what stands while the reference's AigParse runs. No condition. -/
import Derived.Test.YtngjbiipgbeemaaDoorBhR
import Derived.Test.YtngjbiipgbeemaaDoorHdR
import Derived.Test.YtngjbiipgbeemaaDoorAgQ
namespace Go.Proofs.YtngjbiipgbeemaaDoor
open Go.RowKit Go.Shelf Go.Deep

theorem rowR_N (LS : List (List UInt8)) (t n : Nat) (m : Bool) : rowR LS (t + 1) n m = (match rowN LS t with
    | none => none
    | some r => if (m = true ∧ r.length = n + 1 ∧ r.getD n 0 < 2) ∨ r.length = n then some r else none) := by
  unfold rowR rowN
  cases LS[t + 1]? with
  | none => rfl
  | some l => rfl
section
variable {LS : List (List UInt8)} {t n : Nat} {m : Bool} {h : Hd} {ns : List Nat}
theorem rowR_yes (e : rowR LS (t + 1) n m = some ns) : rowN LS t = some ns ∧ ((m = true ∧ ns.length = n + 1 ∧ ns.getD n 0 < 2) ∨ ns.length = n) := by
  rw [rowR_N] at e
  split at e
  · cases e
  · rename_i r hr
    split at e
    · rename_i hc
      injection e with e
      subst e
      exact ⟨hr, hc⟩
    · cases e
theorem rowR_no (e : rowR LS (t + 1) n m = none) {r : List Nat} (hr : rowN LS t = some r) : ¬ ((m = true ∧ r.length = n + 1 ∧ r.getD n 0 < 2) ∨ r.length = n) := fun hc => by
  rw [rowR_N, hr] at e
  simp only [if_pos hc] at e
  cases e
theorem rin_yes (ht : t < h.i) (e : rowR LS (t + 1) 1 false = some ns) (h0 : ns.getD 0 0 = 2 * (1 + t)) : h.rowOk LS t := by
  obtain ⟨h1, h2⟩ := rowR_yes e
  refine ⟨ns, h1, ?_⟩
  unfold Hd.okN
  rw [if_pos ht]
  simp only [Bool.and_eq_true, beq_iff_eq]
  rcases h2 with h2 | h2
  · exact absurd h2.1 (by simp)
  · omega
theorem rin_no (ht : t < h.i) (hb : rowR LS (t + 1) 1 false = none ∨ ∃ r, rowR LS (t + 1) 1 false = some r ∧ r.getD 0 0 ≠ 2 * (1 + t)) : ¬ h.rowOk LS t := by
  rintro ⟨n, h1, h2⟩
  unfold Hd.okN at h2
  rw [if_pos ht] at h2
  simp only [Bool.and_eq_true, beq_iff_eq] at h2
  rcases hb with e | ⟨r, e, hr⟩
  · exact rowR_no e h1 (.inr h2.1)
  · have e1 := (rowR_yes e).1
    rw [e1] at h1
    injection h1 with h1
    subst h1
    exact hr h2.2
theorem rla_yes (ht : ¬ t < h.i) (ht2 : t < h.i + h.l) (e : rowR LS (t + 1) 2 true = some ns) (h0 : ns.getD 0 0 = 2 * (1 + t)) (hm : ns.getD 1 0 < h.most) : h.rowOk LS t := by
  obtain ⟨h1, h2⟩ := rowR_yes e
  refine ⟨ns, h1, ?_⟩
  unfold Hd.okN
  rw [if_neg ht, if_pos ht2]
  simp only [Bool.and_eq_true, Bool.or_eq_true, beq_iff_eq, decide_eq_true_eq]
  rcases h2 with h2 | h2
  · exact ⟨⟨.inr ⟨h2.2.1, h2.2.2⟩, h0⟩, hm⟩
  · exact ⟨⟨.inl h2, h0⟩, hm⟩
theorem rla_no (ht : ¬ t < h.i) (ht2 : t < h.i + h.l) (hb : rowR LS (t + 1) 2 true = none ∨ ∃ r, rowR LS (t + 1) 2 true = some r ∧ ¬ (r.getD 0 0 = 2 * (1 + t) ∧ r.getD 1 0 < h.most)) : ¬ h.rowOk LS t := by
  rintro ⟨n, h1, h2⟩
  unfold Hd.okN at h2
  rw [if_neg ht, if_pos ht2] at h2
  simp only [Bool.and_eq_true, Bool.or_eq_true, beq_iff_eq, decide_eq_true_eq] at h2
  rcases hb with e | ⟨r, e, hr⟩
  · refine rowR_no e h1 ?_
    rcases h2.1.1 with h3 | h3
    · exact .inr h3
    · exact .inl ⟨rfl, h3.1, h3.2⟩
  · have e1 := (rowR_yes e).1
    rw [e1] at h1
    injection h1 with h1
    subst h1
    exact hr ⟨h2.1.2, h2.2⟩
theorem rou_yes (ht : ¬ t < h.i + h.l) (ht2 : t < h.i + h.l + h.o) (e : rowR LS (t + 1) 1 false = some ns) (hm : ns.getD 0 0 < h.most) : h.rowOk LS t := by
  obtain ⟨h1, h2⟩ := rowR_yes e
  refine ⟨ns, h1, ?_⟩
  unfold Hd.okN
  rw [if_neg (by omega), if_neg ht, if_pos ht2]
  simp only [Bool.and_eq_true, beq_iff_eq, decide_eq_true_eq]
  rcases h2 with h2 | h2
  · exact absurd h2.1 (by simp)
  · exact ⟨h2, hm⟩
theorem rou_no (ht : ¬ t < h.i + h.l) (ht2 : t < h.i + h.l + h.o) (hb : rowR LS (t + 1) 1 false = none ∨ ∃ r, rowR LS (t + 1) 1 false = some r ∧ ¬ r.getD 0 0 < h.most) : ¬ h.rowOk LS t := by
  rintro ⟨n, h1, h2⟩
  unfold Hd.okN at h2
  rw [if_neg (by omega), if_neg ht, if_pos ht2] at h2
  simp only [Bool.and_eq_true, beq_iff_eq, decide_eq_true_eq] at h2
  rcases hb with e | ⟨r, e, hr⟩
  · exact rowR_no e h1 (.inr h2.1)
  · have e1 := (rowR_yes e).1
    rw [e1] at h1
    injection h1 with h1
    subst h1
    exact hr h2.2
theorem ran_yes (ht : ¬ t < h.i + h.l + h.o) (e : rowR LS (t + 1) 3 false = some ns) (h0 : ns.getD 0 0 = 2 * (1 + (t - h.o))) (h1' : ns.getD 1 0 < ns.getD 0 0) (h2' : ns.getD 2 0 < ns.getD 0 0) : h.rowOk LS t := by
  obtain ⟨h1, h2⟩ := rowR_yes e
  refine ⟨ns, h1, ?_⟩
  unfold Hd.okN
  rw [if_neg (by omega), if_neg (by omega), if_neg ht]
  simp only [Bool.and_eq_true, beq_iff_eq, decide_eq_true_eq]
  rcases h2 with h2 | h2
  · exact absurd h2.1 (by simp)
  · exact ⟨⟨⟨h2, h0⟩, h1'⟩, h2'⟩
theorem ran_no (ht : ¬ t < h.i + h.l + h.o) (hb : rowR LS (t + 1) 3 false = none ∨ ∃ r, rowR LS (t + 1) 3 false = some r ∧ ¬ (r.getD 0 0 = 2 * (1 + (t - h.o)) ∧ r.getD 1 0 < r.getD 0 0 ∧ r.getD 2 0 < r.getD 0 0)) : ¬ h.rowOk LS t := by
  rintro ⟨n, h1, h2⟩
  unfold Hd.okN at h2
  rw [if_neg (by omega), if_neg (by omega), if_neg ht] at h2
  simp only [Bool.and_eq_true, beq_iff_eq, decide_eq_true_eq] at h2
  rcases hb with e | ⟨r, e, hr⟩
  · exact rowR_no e h1 (.inr h2.1.1.1)
  · have e1 := (rowR_yes e).1
    rw [e1] at h1
    injection h1 with h1
    subst h1
    exact hr ⟨h2.1.1.2, h2.1.2, h2.2⟩
end
/-- what stands while the rows are read -/
structure RfI (w0 : World) (LS : List (List UInt8)) (h : Hd) (b2 b3 b6 b8 z : Nat) (A A1 A2 A3 : Option Addr) (c1 c2 c3 n1 n2 n3 : Nat) (W : World) : Prop where
  r2 : W.heap[b2]? = some (.cells #[.int .i64 0, .slice none 0 0, .slice none 0 0, .slice none 0 0] 28)
  r3 : W.heap[b3]? = some (.cells #[.int .i64 0, .int .i64 0] 38)
  sz : SzRt W b6 h.i h.l h.o h.a
  g : W.heap[b8]? = some (.cells #[.int .i64 (h.i : Int), .slice A1 n1 c1, .slice A2 n2 c2, .slice A3 n3 c3] 28)
  ls : LsAt W A LS
  o1 : W.ownsRow z 47 2 (.slice A1 n1 c1) n1 (flatF 2 (fLat h LS) n1)
  o2 : W.ownsRow z 48 2 (.slice A2 n2 c2) n2 (flatF 2 (fAnd h LS) n2)
  o3 : W.ownsRow z 3 1 (.slice A3 n3 c3) n3 (flatF 1 (fOut h LS) n3)
  bel : Below w0.heap.size w0 W
  zz : z ≤ W.heap.size
  low : w0.heap.size ≤ b2 ∧ b2 < b3 ∧ b3 < b6 ∧ b6 < z ∧ b3 < b8 ∧ b8 < z
section
variable {w0 W W1 W4 : World} {LS : List (List UInt8)} {h : Hd} {b2 b3 b6 b8 z c1 c2 c3 n1 n2 n3 : Nat} {A A1 A2 A3 A' : Option Addr} {c' : Nat}
theorem RfI.below (g : RfI w0 LS h b2 b3 b6 b8 z A A1 A2 A3 c1 c2 c3 n1 n2 n3 W) (k : Below W.heap.size W W1) : RfI w0 LS h b2 b3 b6 b8 z A A1 A2 A3 c1 c2 c3 n1 n2 n3 W1 :=
  ⟨heap_below k g.r2, heap_below k g.r3, heap_below k g.sz, heap_below k g.g, g.ls.below k, own_below g.o1 k, own_below g.o2 k, own_below g.o3 k, g.bel.trans (k.mono g.bel.size), Nat.le_trans g.zz k.size, g.low⟩
theorem RfI.drew (g : RfI w0 LS h b2 b3 b6 b8 z A A1 A2 A3 c1 c2 c3 n1 n2 n3 W) : RfI w0 LS h b2 b3 b6 b8 z A A1 A2 A3 c1 c2 c3 n1 n2 n3 W.drew := g.below ((Below.refl _ W).drew)
theorem RfI.drewN (g : RfI w0 LS h b2 b3 b6 b8 z A A1 A2 A3 c1 c2 c3 n1 n2 n3 W) (n : Nat) : RfI w0 LS h b2 b3 b6 b8 z A A1 A2 A3 c1 c2 c3 n1 n2 n3 (W.drewN n) := g.below ⟨rfl, rfl, rfl, Nat.le_refl _, fun _ _ => rfl⟩
theorem RfI.lat (g : RfI w0 LS h b2 b3 b6 b8 z A A1 A2 A3 c1 c2 c3 n1 n2 n3 W) {news : List Value} (hown : W4.ownsRow z 47 2 (.slice A' (n1 + 1) c') (n1 + 1) (flatF 2 (fLat h LS) n1 ++ news)) (hnew : news = (List.range 2).map (fLat h LS n1)) (hon : Only (blockOf A1) W W4) :
    W4.heap[b8]? = some (.cells #[.int .i64 (h.i : Int), .slice A1 n1 c1, .slice A2 n2 c2, .slice A3 n3 c3] 28) ∧ RfI w0 LS h b2 b3 b6 b8 z A A' A2 A3 c' c2 c3 (n1 + 1) n2 n3 (W4.setCell ⟨b8, 1, none⟩ (.slice A' (n1 + 1) c')) := by
  have hw := g.low
  have hA : ∀ k, blockOf A1 k → z ≤ k := own_base g.o1
  have hno : ∀ k, k < z → ¬ blockOf A1 k := fun k hk hs => by have := hA k hs; omega
  have hg := hon.heap g.g (hno _ (by omega))
  have hk : Only (fun k => k = b8) W4 (W4.setCell ⟨b8, 1, none⟩ (.slice A' (n1 + 1) c')) := Only.setCell (p := ⟨b8, 1, none⟩) (Only.refl (fun k => k = b8) W4) (fun _ => rfl) _
  have e2 : ∀ b, z ≤ b → ¬ (b = b8) := fun b hb hs => by omega
  have hNew : (W4.setCell ⟨b8, 1, none⟩ (.slice A' (n1 + 1) c')).ownsRow z 47 2 (.slice A' (n1 + 1) c') (n1 + 1) (flatF 2 (fLat h LS) (n1 + 1)) := by
    rw [hnew] at hown
    exact own_only hown hk (fun b hb => e2 b (own_base hown b hb))
  have hb4 : Below w0.heap.size w0 W4 := g.bel.trans (hon.below (fun k _ hs => by have := hA k hs; omega) g.bel.size)
  refine ⟨hg, hk.heap (hon.heap g.r2 (hno _ (by omega))) (by omega), hk.heap (hon.heap g.r3 (hno _ (by omega))) (by omega), hk.heap (hon.heap g.sz (hno _ (by omega))) (ne_type (hon.heap g.sz (hno _ (by omega))) hg (by decide)),
    set4_1 hg _, (g.ls.only hon (fun b cur hb => own_type (e' := 9) g.o1 (by decide) b cur hb)).only hk (fun b cur hb hs => ne_type hb hg (by decide) hs), hNew, own_only (own_only g.o2 hon (no_share g.o2 g.o1 (by decide))) hk (fun b hb => e2 b (own_base g.o2 b hb)), own_only (own_only g.o3 hon (no_share g.o3 g.o1 (by decide))) hk (fun b hb => e2 b (own_base g.o3 b hb)), hb4.trans (hk.below (fun k _ e => by rw [e]; omega) hb4.size), Nat.le_trans (Nat.le_trans g.zz hon.size) hk.size, g.low⟩
theorem RfI.and_ (g : RfI w0 LS h b2 b3 b6 b8 z A A1 A2 A3 c1 c2 c3 n1 n2 n3 W) {news : List Value} (hown : W4.ownsRow z 48 2 (.slice A' (n2 + 1) c') (n2 + 1) (flatF 2 (fAnd h LS) n2 ++ news)) (hnew : news = (List.range 2).map (fAnd h LS n2)) (hon : Only (blockOf A2) W W4) :
    W4.heap[b8]? = some (.cells #[.int .i64 (h.i : Int), .slice A1 n1 c1, .slice A2 n2 c2, .slice A3 n3 c3] 28) ∧ RfI w0 LS h b2 b3 b6 b8 z A A1 A' A3 c1 c' c3 n1 (n2 + 1) n3 (W4.setCell ⟨b8, 2, none⟩ (.slice A' (n2 + 1) c')) := by
  have hw := g.low
  have hA : ∀ k, blockOf A2 k → z ≤ k := own_base g.o2
  have hno : ∀ k, k < z → ¬ blockOf A2 k := fun k hk hs => by have := hA k hs; omega
  have hg := hon.heap g.g (hno _ (by omega))
  have hk : Only (fun k => k = b8) W4 (W4.setCell ⟨b8, 2, none⟩ (.slice A' (n2 + 1) c')) := Only.setCell (p := ⟨b8, 2, none⟩) (Only.refl (fun k => k = b8) W4) (fun _ => rfl) _
  have e2 : ∀ b, z ≤ b → ¬ (b = b8) := fun b hb hs => by omega
  have hNew : (W4.setCell ⟨b8, 2, none⟩ (.slice A' (n2 + 1) c')).ownsRow z 48 2 (.slice A' (n2 + 1) c') (n2 + 1) (flatF 2 (fAnd h LS) (n2 + 1)) := by
    rw [hnew] at hown
    exact own_only hown hk (fun b hb => e2 b (own_base hown b hb))
  have hb4 : Below w0.heap.size w0 W4 := g.bel.trans (hon.below (fun k _ hs => by have := hA k hs; omega) g.bel.size)
  refine ⟨hg, hk.heap (hon.heap g.r2 (hno _ (by omega))) (by omega), hk.heap (hon.heap g.r3 (hno _ (by omega))) (by omega), hk.heap (hon.heap g.sz (hno _ (by omega))) (ne_type (hon.heap g.sz (hno _ (by omega))) hg (by decide)),
    set4_2 hg _, (g.ls.only hon (fun b cur hb => own_type (e' := 9) g.o2 (by decide) b cur hb)).only hk (fun b cur hb hs => ne_type hb hg (by decide) hs), own_only (own_only g.o1 hon (no_share g.o1 g.o2 (by decide))) hk (fun b hb => e2 b (own_base g.o1 b hb)), hNew, own_only (own_only g.o3 hon (no_share g.o3 g.o2 (by decide))) hk (fun b hb => e2 b (own_base g.o3 b hb)), hb4.trans (hk.below (fun k _ e => by rw [e]; omega) hb4.size), Nat.le_trans (Nat.le_trans g.zz hon.size) hk.size, g.low⟩
theorem RfI.out (g : RfI w0 LS h b2 b3 b6 b8 z A A1 A2 A3 c1 c2 c3 n1 n2 n3 W) {news : List Value} (hown : W4.ownsRow z 3 1 (.slice A' (n3 + 1) c') (n3 + 1) (flatF 1 (fOut h LS) n3 ++ news)) (hnew : news = (List.range 1).map (fOut h LS n3)) (hon : Only (blockOf A3) W W4) :
    W4.heap[b8]? = some (.cells #[.int .i64 (h.i : Int), .slice A1 n1 c1, .slice A2 n2 c2, .slice A3 n3 c3] 28) ∧ RfI w0 LS h b2 b3 b6 b8 z A A1 A2 A' c1 c2 c' n1 n2 (n3 + 1) (W4.setCell ⟨b8, 3, none⟩ (.slice A' (n3 + 1) c')) := by
  have hw := g.low
  have hA : ∀ k, blockOf A3 k → z ≤ k := own_base g.o3
  have hno : ∀ k, k < z → ¬ blockOf A3 k := fun k hk hs => by have := hA k hs; omega
  have hg := hon.heap g.g (hno _ (by omega))
  have hk : Only (fun k => k = b8) W4 (W4.setCell ⟨b8, 3, none⟩ (.slice A' (n3 + 1) c')) := Only.setCell (p := ⟨b8, 3, none⟩) (Only.refl (fun k => k = b8) W4) (fun _ => rfl) _
  have e2 : ∀ b, z ≤ b → ¬ (b = b8) := fun b hb hs => by omega
  have hNew : (W4.setCell ⟨b8, 3, none⟩ (.slice A' (n3 + 1) c')).ownsRow z 3 1 (.slice A' (n3 + 1) c') (n3 + 1) (flatF 1 (fOut h LS) (n3 + 1)) := by
    rw [hnew] at hown
    exact own_only hown hk (fun b hb => e2 b (own_base hown b hb))
  have hb4 : Below w0.heap.size w0 W4 := g.bel.trans (hon.below (fun k _ hs => by have := hA k hs; omega) g.bel.size)
  refine ⟨hg, hk.heap (hon.heap g.r2 (hno _ (by omega))) (by omega), hk.heap (hon.heap g.r3 (hno _ (by omega))) (by omega), hk.heap (hon.heap g.sz (hno _ (by omega))) (ne_type (hon.heap g.sz (hno _ (by omega))) hg (by decide)),
    set4_3 hg _, (g.ls.only hon (fun b cur hb => own_type (e' := 9) g.o3 (by decide) b cur hb)).only hk (fun b cur hb hs => ne_type hb hg (by decide) hs), own_only (own_only g.o1 hon (no_share g.o1 g.o3 (by decide))) hk (fun b hb => e2 b (own_base g.o1 b hb)), own_only (own_only g.o2 hon (no_share g.o2 g.o3 (by decide))) hk (fun b hb => e2 b (own_base g.o2 b hb)), hNew, hb4.trans (hk.below (fun k _ e => by rw [e]; omega) hb4.size), Nat.le_trans (Nat.le_trans g.zz hon.size) hk.size, g.low⟩
/-- the results' boxes are written -/
theorem RfI.res (r2 : W.heap[b2]? = some (.cells #[.int .i64 0, .slice none 0 0, .slice none 0 0, .slice none 0 0] 28)) (r3 : W.heap[b3]? = some (.cells #[.int .i64 0, .int .i64 0] 38)) (hb : Below w0.heap.size w0 W) (h2 : w0.heap.size ≤ b2) (h3 : b2 < b3) (x0 x1 x2 x3 y0 y1 : Value) :
    (st2 (st4 W b2 x0 x1 x2 x3) b3 y0 y1).heap[b2]? = some (.cells #[x0, x1, x2, x3] 28) ∧ (st2 (st4 W b2 x0 x1 x2 x3) b3 y0 y1).heap[b3]? = some (.cells #[y0, y1] 38) ∧ Below w0.heap.size w0 (st2 (st4 W b2 x0 x1 x2 x3) b3 y0 y1) ∧ Only (fun k => k = b2 ∨ k = b3) W (st2 (st4 W b2 x0 x1 x2 x3) b3 y0 y1) := by
  have k1 := st4_only W b2 x0 x1 x2 x3
  have k2 := st2_only (st4 W b2 x0 x1 x2 x3) b3 y0 y1
  have e3 := k1.heap r3 (by omega)
  have b1 := hb.trans (k1.below (fun b _ e => by rw [e]; exact h2) hb.size)
  exact ⟨k2.heap (st4_heap r2 _ _ _ _) (by omega), st2_heap e3 _ _, b1.trans (k2.below (fun b _ e => by rw [e]; omega) b1.size), (k1.mono (fun _ _ h => .inl h)).then_ k2 (fun _ _ h => .inr h)⟩
theorem RfI.at_ (g : RfI w0 LS h b2 b3 b6 b8 z A A1 A2 A3 c1 c2 c3 h.l h.a h.o W) (hO : Only (fun k => k = b2 ∨ k = b3) W W1) : (h.graph LS).At W1 A1 A2 A3 := by
  have hw := g.low
  have e2 : ∀ b, z ≤ b → ¬ (b = b2 ∨ b = b3) := fun b hb hs => by omega
  exact ⟨(own_flat (own_only g.o1 hO (fun b hb => e2 b (own_base g.o1 b hb)))).row, (own_flat (own_only g.o2 hO (fun b hb => e2 b (own_base g.o2 b hb)))).row, (own_flat (own_only g.o3 hO (fun b hb => e2 b (own_base g.o3 b hb)))).row.one⟩
end
end Go.Proofs.YtngjbiipgbeemaaDoor
