/- What stands while the reference's AigUnpack runs; a row as the reference reads it. No condition. -/
import Derived.Test.YtngjbiipgbeemaaDoorAuQ
import Derived.Test.YtngjbiipgbeemaaDoorApQ
namespace Go.Proofs.YtngjbiipgbeemaaDoor
open Go.RowKit Go.Shelf Go.Deep

theorem linU_count : ∀ (l w : List UInt8), (linA l w).length ≤ l.length
  | [], w => by simp [linA]
  | b :: r, w => by
    rw [linA_cons]
    split
    · have := linU_count r []; simp; omega
    · have := linU_count r (w ++ [b]); simp; omega
theorem linU_wlen : ∀ (l w : List UInt8), ∀ x ∈ linA l w, x.length ≤ w.length + l.length
  | [], w => by intro x hx; simp [linA] at hx
  | b :: r, w => by
    intro x hx
    rw [linA_cons] at hx
    split at hx
    · rcases List.mem_cons.1 hx with rfl | h
      · simp
      · have := linU_wlen r [] x h; simp at this ⊢; omega
    · have := linU_wlen r (w ++ [b]) x hx; simp at this ⊢; omega
def pickU (h : Hd) (q : Nat) : Option (List Nat) → Option (List Nat × Nat)
  | none => none
  | some n => if n.getD 0 0 < h.most then some (n, q) else none
section
variable {l s : List UInt8} {h : Hd} {t p q : Nat} {n : List Nat}
theorem row1_rowR (hl : lnB l p = some (s, q)) : h.uRow l t p = pickU h q (rowR [s] 0 1 (decide (t < h.l))) := by
  rw [uRow_at hl]
  unfold rowR pickU
  simp only [List.getElem?_cons_zero]
  cases e2 : numsB s with
  | none => rfl
  | some n =>
    simp only
    unfold Hd.okU
    simp only [Bool.and_eq_true, Bool.or_eq_true, beq_iff_eq, decide_eq_true_eq]
    by_cases h2 : n.getD 0 0 < h.most
    · by_cases h1 : (t < h.l ∧ n.length = 1 + 1 ∧ n.getD 1 0 < 2) ∨ n.length = 1
      · rw [if_pos h1, if_pos]
        · simp only [if_pos h2]
        · refine ⟨?_, h2⟩
          rcases h1 with h1 | h1
          · exact .inr ⟨⟨h1.1, h1.2.1⟩, h1.2.2⟩
          · exact .inl h1
      · rw [if_neg h1, if_neg]
        rintro ⟨h3 | h3, _⟩
        · exact h1 (.inr h3)
        · exact h1 (.inl ⟨h3.1.1, h3.1.2, h3.2⟩)
    · rw [if_neg (fun h3 => h2 h3.2)]
      split
      · rfl
      · rename_i n' hn
        split at hn
        · injection hn with hn
          subst hn
          exact (if_neg h2).symm
        · cases hn
end
/-- what stands while the rows are read -/
structure RuI (w0 : World) (l : List UInt8) (h : Hd) (p0 p1 : Nat) (b2 b3 b6 b8 z : Nat) (A1 A2 A3 : Option Addr) (c1 c2 c3 n1 n2 n3 : Nat) (W : World) : Prop where
  r2 : W.heap[b2]? = some (.cells #[.int .i64 0, .slice none 0 0, .slice none 0 0, .slice none 0 0] 28)
  r3 : W.heap[b3]? = some (.cells #[.int .i64 0, .int .i64 0] 38)
  sz : SzRt W b6 h.i h.l h.o h.a
  g : W.heap[b8]? = some (.cells #[.int .i64 (h.i : Int), .slice A1 n1 c1, .slice A2 n2 c2, .slice A3 n3 c3] 28)
  o1 : W.ownsRow z 47 2 (.slice A1 n1 c1) n1 (flatF 2 (fLatU h l p0) n1)
  o2 : W.ownsRow z 48 2 (.slice A2 n2 c2) n2 (flatF 2 (fAndU h l p1) n2)
  o3 : W.ownsRow z 3 1 (.slice A3 n3 c3) n3 (flatF 1 (fOutU h l p0) n3)
  bel : Below w0.heap.size w0 W
  zz : z ≤ W.heap.size
  low : w0.heap.size ≤ b2 ∧ b2 < b3 ∧ b3 < b6 ∧ b6 < z ∧ b3 < b8 ∧ b8 < z
section
variable {w0 W W1 W4 : World} {l : List UInt8} {h : Hd} {p0 p1 p1' b2 b3 b6 b8 z c1 c2 c3 n1 n2 n3 : Nat} {A1 A2 A3 A' : Option Addr} {c' : Nat}
theorem RuI.repos (g : RuI w0 l h p0 p1 b2 b3 b6 b8 z A1 A2 A3 c1 c2 c3 n1 0 n3 W) : RuI w0 l h p0 p1' b2 b3 b6 b8 z A1 A2 A3 c1 c2 c3 n1 0 n3 W :=
  ⟨g.r2, g.r3, g.sz, g.g, g.o1, g.o2, g.o3, g.bel, g.zz, g.low⟩
theorem RuI.below (g : RuI w0 l h p0 p1 b2 b3 b6 b8 z A1 A2 A3 c1 c2 c3 n1 n2 n3 W) (k : Below W.heap.size W W1) : RuI w0 l h p0 p1 b2 b3 b6 b8 z A1 A2 A3 c1 c2 c3 n1 n2 n3 W1 :=
  ⟨heap_below k g.r2, heap_below k g.r3, heap_below k g.sz, heap_below k g.g, own_below g.o1 k, own_below g.o2 k, own_below g.o3 k, g.bel.trans (k.mono g.bel.size), Nat.le_trans g.zz k.size, g.low⟩
theorem RuI.drew (g : RuI w0 l h p0 p1 b2 b3 b6 b8 z A1 A2 A3 c1 c2 c3 n1 n2 n3 W) : RuI w0 l h p0 p1 b2 b3 b6 b8 z A1 A2 A3 c1 c2 c3 n1 n2 n3 W.drew := g.below ((Below.refl _ W).drew)
theorem RuI.drewN (g : RuI w0 l h p0 p1 b2 b3 b6 b8 z A1 A2 A3 c1 c2 c3 n1 n2 n3 W) (n : Nat) : RuI w0 l h p0 p1 b2 b3 b6 b8 z A1 A2 A3 c1 c2 c3 n1 n2 n3 (W.drewN n) := g.below ⟨rfl, rfl, rfl, Nat.le_refl _, fun _ _ => rfl⟩
theorem RuI.lat (g : RuI w0 l h p0 p1 b2 b3 b6 b8 z A1 A2 A3 c1 c2 c3 n1 n2 n3 W) {news : List Value} (hown : W4.ownsRow z 47 2 (.slice A' (n1 + 1) c') (n1 + 1) (flatF 2 (fLatU h l p0) n1 ++ news)) (hnew : news = (List.range 2).map (fLatU h l p0 n1)) (hon : Only (blockOf A1) W W4) :
    W4.heap[b8]? = some (.cells #[.int .i64 (h.i : Int), .slice A1 n1 c1, .slice A2 n2 c2, .slice A3 n3 c3] 28) ∧ RuI w0 l h p0 p1 b2 b3 b6 b8 z A' A2 A3 c' c2 c3 (n1 + 1) n2 n3 (W4.setCell ⟨b8, 1, none⟩ (.slice A' (n1 + 1) c')) := by
  have hw := g.low
  have hA : ∀ k, blockOf A1 k → z ≤ k := own_base g.o1
  have hno : ∀ k, k < z → ¬ blockOf A1 k := fun k hk hs => by have := hA k hs; omega
  have hg := hon.heap g.g (hno _ (by omega))
  have hk : Only (fun k => k = b8) W4 (W4.setCell ⟨b8, 1, none⟩ (.slice A' (n1 + 1) c')) := Only.setCell (p := ⟨b8, 1, none⟩) (Only.refl (fun k => k = b8) W4) (fun _ => rfl) _
  have e2 : ∀ b, z ≤ b → ¬ (b = b8) := fun b hb hs => by omega
  have hNew : (W4.setCell ⟨b8, 1, none⟩ (.slice A' (n1 + 1) c')).ownsRow z 47 2 (.slice A' (n1 + 1) c') (n1 + 1) (flatF 2 (fLatU h l p0) (n1 + 1)) := by
    rw [hnew] at hown
    exact own_only hown hk (fun b hb => e2 b (own_base hown b hb))
  have hb4 : Below w0.heap.size w0 W4 := g.bel.trans (hon.below (fun k _ hs => by have := hA k hs; omega) g.bel.size)
  refine ⟨hg, hk.heap (hon.heap g.r2 (hno _ (by omega))) (by omega), hk.heap (hon.heap g.r3 (hno _ (by omega))) (by omega), hk.heap (hon.heap g.sz (hno _ (by omega))) (ne_type (hon.heap g.sz (hno _ (by omega))) hg (by decide)),
    set4_1 hg _, hNew, own_only (own_only g.o2 hon (no_share g.o2 g.o1 (by decide))) hk (fun b hb => e2 b (own_base g.o2 b hb)), own_only (own_only g.o3 hon (no_share g.o3 g.o1 (by decide))) hk (fun b hb => e2 b (own_base g.o3 b hb)), hb4.trans (hk.below (fun k _ e => by rw [e]; omega) hb4.size), Nat.le_trans (Nat.le_trans g.zz hon.size) hk.size, g.low⟩
theorem RuI.and_ (g : RuI w0 l h p0 p1 b2 b3 b6 b8 z A1 A2 A3 c1 c2 c3 n1 n2 n3 W) {news : List Value} (hown : W4.ownsRow z 48 2 (.slice A' (n2 + 1) c') (n2 + 1) (flatF 2 (fAndU h l p1) n2 ++ news)) (hnew : news = (List.range 2).map (fAndU h l p1 n2)) (hon : Only (blockOf A2) W W4) :
    W4.heap[b8]? = some (.cells #[.int .i64 (h.i : Int), .slice A1 n1 c1, .slice A2 n2 c2, .slice A3 n3 c3] 28) ∧ RuI w0 l h p0 p1 b2 b3 b6 b8 z A1 A' A3 c1 c' c3 n1 (n2 + 1) n3 (W4.setCell ⟨b8, 2, none⟩ (.slice A' (n2 + 1) c')) := by
  have hw := g.low
  have hA : ∀ k, blockOf A2 k → z ≤ k := own_base g.o2
  have hno : ∀ k, k < z → ¬ blockOf A2 k := fun k hk hs => by have := hA k hs; omega
  have hg := hon.heap g.g (hno _ (by omega))
  have hk : Only (fun k => k = b8) W4 (W4.setCell ⟨b8, 2, none⟩ (.slice A' (n2 + 1) c')) := Only.setCell (p := ⟨b8, 2, none⟩) (Only.refl (fun k => k = b8) W4) (fun _ => rfl) _
  have e2 : ∀ b, z ≤ b → ¬ (b = b8) := fun b hb hs => by omega
  have hNew : (W4.setCell ⟨b8, 2, none⟩ (.slice A' (n2 + 1) c')).ownsRow z 48 2 (.slice A' (n2 + 1) c') (n2 + 1) (flatF 2 (fAndU h l p1) (n2 + 1)) := by
    rw [hnew] at hown
    exact own_only hown hk (fun b hb => e2 b (own_base hown b hb))
  have hb4 : Below w0.heap.size w0 W4 := g.bel.trans (hon.below (fun k _ hs => by have := hA k hs; omega) g.bel.size)
  refine ⟨hg, hk.heap (hon.heap g.r2 (hno _ (by omega))) (by omega), hk.heap (hon.heap g.r3 (hno _ (by omega))) (by omega), hk.heap (hon.heap g.sz (hno _ (by omega))) (ne_type (hon.heap g.sz (hno _ (by omega))) hg (by decide)),
    set4_2 hg _, own_only (own_only g.o1 hon (no_share g.o1 g.o2 (by decide))) hk (fun b hb => e2 b (own_base g.o1 b hb)), hNew, own_only (own_only g.o3 hon (no_share g.o3 g.o2 (by decide))) hk (fun b hb => e2 b (own_base g.o3 b hb)), hb4.trans (hk.below (fun k _ e => by rw [e]; omega) hb4.size), Nat.le_trans (Nat.le_trans g.zz hon.size) hk.size, g.low⟩
theorem RuI.out (g : RuI w0 l h p0 p1 b2 b3 b6 b8 z A1 A2 A3 c1 c2 c3 n1 n2 n3 W) {news : List Value} (hown : W4.ownsRow z 3 1 (.slice A' (n3 + 1) c') (n3 + 1) (flatF 1 (fOutU h l p0) n3 ++ news)) (hnew : news = (List.range 1).map (fOutU h l p0 n3)) (hon : Only (blockOf A3) W W4) :
    W4.heap[b8]? = some (.cells #[.int .i64 (h.i : Int), .slice A1 n1 c1, .slice A2 n2 c2, .slice A3 n3 c3] 28) ∧ RuI w0 l h p0 p1 b2 b3 b6 b8 z A1 A2 A' c1 c2 c' n1 n2 (n3 + 1) (W4.setCell ⟨b8, 3, none⟩ (.slice A' (n3 + 1) c')) := by
  have hw := g.low
  have hA : ∀ k, blockOf A3 k → z ≤ k := own_base g.o3
  have hno : ∀ k, k < z → ¬ blockOf A3 k := fun k hk hs => by have := hA k hs; omega
  have hg := hon.heap g.g (hno _ (by omega))
  have hk : Only (fun k => k = b8) W4 (W4.setCell ⟨b8, 3, none⟩ (.slice A' (n3 + 1) c')) := Only.setCell (p := ⟨b8, 3, none⟩) (Only.refl (fun k => k = b8) W4) (fun _ => rfl) _
  have e2 : ∀ b, z ≤ b → ¬ (b = b8) := fun b hb hs => by omega
  have hNew : (W4.setCell ⟨b8, 3, none⟩ (.slice A' (n3 + 1) c')).ownsRow z 3 1 (.slice A' (n3 + 1) c') (n3 + 1) (flatF 1 (fOutU h l p0) (n3 + 1)) := by
    rw [hnew] at hown
    exact own_only hown hk (fun b hb => e2 b (own_base hown b hb))
  have hb4 : Below w0.heap.size w0 W4 := g.bel.trans (hon.below (fun k _ hs => by have := hA k hs; omega) g.bel.size)
  refine ⟨hg, hk.heap (hon.heap g.r2 (hno _ (by omega))) (by omega), hk.heap (hon.heap g.r3 (hno _ (by omega))) (by omega), hk.heap (hon.heap g.sz (hno _ (by omega))) (ne_type (hon.heap g.sz (hno _ (by omega))) hg (by decide)),
    set4_3 hg _, own_only (own_only g.o1 hon (no_share g.o1 g.o3 (by decide))) hk (fun b hb => e2 b (own_base g.o1 b hb)), own_only (own_only g.o2 hon (no_share g.o2 g.o3 (by decide))) hk (fun b hb => e2 b (own_base g.o2 b hb)), hNew, hb4.trans (hk.below (fun k _ e => by rw [e]; omega) hb4.size), Nat.le_trans (Nat.le_trans g.zz hon.size) hk.size, g.low⟩
theorem RuI.at_ (g : RuI w0 l h p0 p1 b2 b3 b6 b8 z A1 A2 A3 c1 c2 c3 h.l h.a h.o W) (hO : Only (fun k => k = b2 ∨ k = b3) W W1) : (h.graphU l p0 p1).At W1 A1 A2 A3 := by
  have hw := g.low
  have e2 : ∀ b, z ≤ b → ¬ (b = b2 ∨ b = b3) := fun b hb hs => by omega
  exact ⟨(own_flat (own_only g.o1 hO (fun b hb => e2 b (own_base g.o1 b hb)))).row, (own_flat (own_only g.o2 hO (fun b hb => e2 b (own_base g.o2 b hb)))).row, (own_flat (own_only g.o3 hO (fun b hb => e2 b (own_base g.o3 b hb)))).row.one⟩
end
end Go.Proofs.YtngjbiipgbeemaaDoor
