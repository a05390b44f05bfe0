/- Rows of a graph's bytes, as they are told right or wrong: plain Lean; what stands while aiger's (*unpacker).graph runs. No condition. -/
import Derived.Test.YtngjbiipgbeemaaDoorAuS
import Derived.Test.YtngjbiipgbeemaaDoorBhR
namespace Go.Proofs.YtngjbiipgbeemaaDoor
open Go.RowKit Go.Shelf Go.Deep

section
variable {l : List UInt8} {h : Hd} {t p q b : Nat} {n : List Nat}
theorem uRow_ln (e : lnB l p = none) : h.uRow l t p = none := by unfold Hd.uRow; rw [e]
theorem uRow_at {s : List UInt8} (e : lnB l p = some (s, q)) : h.uRow l t p = match numsB s with
    | none => none
    | some n => if h.okU t n = true then some (n, q) else none := by unfold Hd.uRow; rw [e]; try rfl
theorem uRow_rowU (hb : b = if t < h.l then 2 else 1) : h.uRow l t p = match rowU l b p with
    | none => none
    | some (n, q) => if (n.length = 2 → n.getD 1 0 < 2) ∧ n.getD 0 0 < h.most then some (n, q) else none := by
  unfold rowU
  cases e : lnB l p with
  | none => rw [uRow_ln e]
  | some x =>
    obtain ⟨s, q⟩ := x
    rw [uRow_at e]
    simp only
    unfold numQ
    cases e2 : numsB s with
    | none => rfl
    | some n =>
      simp only
      unfold Hd.okU
      simp only [Bool.and_eq_true, Bool.or_eq_true, beq_iff_eq, decide_eq_true_eq]
      by_cases ht : t < h.l
      · rw [if_pos ht] at hb
        subst hb
        by_cases h1 : 1 ≤ n.length ∧ n.length ≤ 2
        · rw [if_pos h1]
          simp only
          by_cases h2 : (n.length = 2 → n.getD 1 0 < 2) ∧ n.getD 0 0 < h.most
          · rw [if_pos h2, if_pos]
            refine ⟨?_, h2.2⟩
            by_cases h3 : n.length = 2
            · exact .inr ⟨⟨ht, h3⟩, h2.1 h3⟩
            · left; omega
          · rw [if_neg h2, if_neg]
            rintro ⟨h3 | h3, h4⟩
            · exact h2 ⟨fun h5 => by omega, h4⟩
            · exact h2 ⟨fun _ => h3.2, h4⟩
        · rw [if_neg h1, if_neg]
          rintro ⟨h3 | h3, h4⟩
          · omega
          · have := h3.1.2; omega
      · rw [if_neg ht] at hb
        subst hb
        by_cases h1 : 1 ≤ n.length ∧ n.length ≤ 1
        · rw [if_pos h1]
          simp only
          by_cases h2 : (n.length = 2 → n.getD 1 0 < 2) ∧ n.getD 0 0 < h.most
          · rw [if_pos h2, if_pos]
            exact ⟨.inl (by omega), h2.2⟩
          · rw [if_neg h2, if_neg]
            rintro ⟨_, h4⟩
            exact h2 ⟨fun h5 => by omega, h4⟩
        · rw [if_neg h1, if_neg]
          rintro ⟨h3 | h3, h4⟩
          · omega
          · exact ht h3.1.1
theorem uRow_no (hb : b = if t < h.l then 2 else 1) (e : rowU l b p = none) : h.uRow l t p = none := by rw [uRow_rowU hb, e]
theorem uRow_yes (hb : b = if t < h.l then 2 else 1) (e : rowU l b p = some (n, q)) (h1 : n.length = 2 → n.getD 1 0 < 2) (h2 : n.getD 0 0 < h.most) : h.uRow l t p = some (n, q) := by
  rw [uRow_rowU hb, e]; exact if_pos ⟨h1, h2⟩
theorem uRow_not (hb : b = if t < h.l then 2 else 1) (e : rowU l b p = some (n, q)) (h1 : ¬ ((n.length = 2 → n.getD 1 0 < 2) ∧ n.getD 0 0 < h.most)) : h.uRow l t p = none := by
  rw [uRow_rowU hb, e]; exact if_neg h1
theorem rowU_len (e : rowU l b p = some (n, q)) : 1 ≤ n.length ∧ n.length ≤ b ∧ (∀ x ∈ n, x < 1000000000) ∧ p < q ∧ q ≤ l.length := by
  unfold rowU at e
  split at e
  · cases e
  · rename_i s q' hl
    split at e
    · cases e
    · rename_i n' hn
      injection e with e
      injection e with e1 e2
      subst e1; subst e2
      have h1 := numQ_pos hn
      have h2 := lnB_le hl
      exact ⟨h1.1, h1.2.2.2, h1.2.1, h2.1, h2.2.1⟩
theorem svQ_x (k : Nat) : h.gX l k p = svQ l p 1 (h.own k) := rfl
theorem svQ_y (k x : Nat) : h.gY l k x p = svQ l p 0 (h.own k - x) := by
  unfold Hd.gY svQ
  cases svB l p with
  | none => rfl
  | some y =>
    obtain ⟨y, r⟩ := y
    simp
theorem svQ_le {a b' v : Nat} (e : svQ l p a b' = some (v, q)) : p < q ∧ q ≤ l.length ∧ a ≤ v ∧ v ≤ b' := by
  unfold svQ at e
  split at e
  · cases e
  · rename_i n' q' hs
    split at e
    · rename_i hc
      injection e with e
      injection e with e1 e2
      subst e1; subst e2
      exact ⟨(svB_le hs).1, (svB_le hs).2, hc.1, hc.2⟩
    · cases e
end
def GuBad (l : List UInt8) (p : Nat) : Prop :=
  (hdU l = none ∧ p = 0) ∨ ∃ h p0, hdU l = some (h, p0) ∧
    ((∃ t, t < h.rowsU ∧ h.uPos l p0 t = some p ∧ h.uRow l t p = none) ∨
     ∃ p1, h.uPos l p0 h.rowsU = some p1 ∧
      (∃ k q, k < h.a ∧ h.gPos l p1 k = some q ∧ ((h.gX l k q = none ∧ p = q) ∨ ∃ x, h.gX l k q = some (x, p) ∧ h.gY l k x p = none)))
theorem GuBad.bad {l : List UInt8} {p : Nat} (h : GuBad l p) : BadU l p := by
  rcases h with h | ⟨h, p0, e, h1 | ⟨p1, e1, h1⟩⟩
  · exact .inl h
  · exact .inr ⟨h, p0, e, .inl h1⟩
  · exact .inr ⟨h, p0, e, .inr ⟨p1, e1, .inl h1⟩⟩
def fLatU (h : Hd) (l : List UInt8) (p0 : Nat) (k : Nat) : Nat → Value := two (.int .i64 ((h.graphU l p0 0).L k)) (.bool ((h.graphU l p0 0).I k))
def fAndU (h : Hd) (l : List UInt8) (p1 : Nat) (k : Nat) : Nat → Value := two (.int .i64 ((h.graphU l 0 p1).X k)) (.int .i64 ((h.graphU l 0 p1).Y k))
def fOutU (h : Hd) (l : List UInt8) (p0 : Nat) (k : Nat) : Nat → Value := fun _ => .int .i64 ((h.graphU l p0 0).O k)
/-- what stands while the rows are read -/
structure GuI (w0 : World) (l : List UInt8) (h : Hd) (p0 p1 : Nat) (bu b2 b5 b7 z : Nat) (bA oA c p : Nat) (A1 A2 A3 : Option Addr) (c1 c2 c3 n1 n2 n3 : Nat) (W : World) : Prop where
  up : UpAt W bu bA oA l.length c p
  mem : MemB W bA oA l
  ple : p ≤ l.length
  sz : SzAt W b5 h.i h.l h.o h.a
  g : W.heap[b7]? = some (.cells #[.int .i64 (h.i : Int), .slice A1 n1 c1, .slice A2 n2 c2, .slice A3 n3 c3] 28)
  r2 : W.heap[b2]? = some (.cells #[.int .i64 0, .slice none 0 0, .slice none 0 0, .slice none 0 0] 28)
  o1 : W.ownsRow z 47 2 (.slice A1 n1 c1) n1 (flatF 2 (fLatU h l p0) n1)
  o2 : W.ownsRow z 48 2 (.slice A2 n2 c2) n2 (flatF 2 (fAndU h l p1) n2)
  o3 : W.ownsRow z 3 1 (.slice A3 n3 c3) n3 (flatF 1 (fOutU h l p0) n3)
  only : Only (fun k => k = bu) w0 W
  mx : MaxT W
  zz : z ≤ W.heap.size
  low : 1 < w0.heap.size ∧ bu < w0.heap.size ∧ bA < w0.heap.size ∧ ¬ bA = bu ∧ ¬ bu = 1 ∧ w0.heap.size ≤ b2 ∧ b2 < b7 ∧ w0.heap.size ≤ b5 ∧ b5 < z ∧ b7 < z
section
variable {w0 W W1 W4 : World} {l : List UInt8} {h : Hd} {p0 p1 p1' bu b2 b5 b7 z bA oA c p q c1 c2 c3 n1 n2 n3 : Nat} {A1 A2 A3 A' : Option Addr} {c' : Nat}
theorem GuI.repos (g : GuI w0 l h p0 p1 bu b2 b5 b7 z bA oA c p A1 A2 A3 c1 c2 c3 n1 0 n3 W) : GuI w0 l h p0 p1' bu b2 b5 b7 z bA oA c p A1 A2 A3 c1 c2 c3 n1 0 n3 W :=
  ⟨g.up, g.mem, g.ple, g.sz, g.g, g.r2, g.o1, g.o2, g.o3, g.only, g.mx, g.zz, g.low⟩
theorem GuI.below (g : GuI w0 l h p0 p1 bu b2 b5 b7 z bA oA c p A1 A2 A3 c1 c2 c3 n1 n2 n3 W) (k : Below W.heap.size W W1) : GuI w0 l h p0 p1 bu b2 b5 b7 z bA oA c p A1 A2 A3 c1 c2 c3 n1 n2 n3 W1 :=
  ⟨heap_below k g.up, g.mem.below k, g.ple, heap_below k g.sz, heap_below k g.g, heap_below k g.r2, own_below g.o1 k, own_below g.o2 k, own_below g.o3 k, g.only.call k, g.mx.below k, Nat.le_trans g.zz k.size, g.low⟩
theorem GuI.drew (g : GuI w0 l h p0 p1 bu b2 b5 b7 z bA oA c p A1 A2 A3 c1 c2 c3 n1 n2 n3 W) : GuI w0 l h p0 p1 bu b2 b5 b7 z bA oA c p A1 A2 A3 c1 c2 c3 n1 n2 n3 W.drew := g.below ((Below.refl _ W).drew)
theorem GuI.drewN (g : GuI w0 l h p0 p1 bu b2 b5 b7 z bA oA c p A1 A2 A3 c1 c2 c3 n1 n2 n3 W) (n : Nat) : GuI w0 l h p0 p1 bu b2 b5 b7 z bA oA c p A1 A2 A3 c1 c2 c3 n1 n2 n3 (W.drewN n) := g.below ⟨rfl, rfl, rfl, Nat.le_refl _, fun _ _ => rfl⟩
/-- the unpacker's place is written -/
theorem GuI.row (g : GuI w0 l h p0 p1 bu b2 b5 b7 z bA oA c p A1 A2 A3 c1 c2 c3 n1 n2 n3 W) (hO : Only (fun k => k = bu) W W1) (hu : UpAt W1 bu bA oA l.length c q) (hq : q ≤ l.length) : GuI w0 l h p0 p1 bu b2 b5 b7 z bA oA c q A1 A2 A3 c1 c2 c3 n1 n2 n3 W1 := by
  have hw := g.low
  have e2 : ∀ b, z ≤ b → ¬ (b = bu) := fun b hb hs => by omega
  exact ⟨hu, g.mem.only hO hw.2.2.2.1, hq, hO.heap g.sz (by omega), hO.heap g.g (by omega), hO.heap g.r2 (by omega), own_only g.o1 hO (fun b hb => e2 b (own_base g.o1 b hb)), own_only g.o2 hO (fun b hb => e2 b (own_base g.o2 b hb)), own_only g.o3 hO (fun b hb => e2 b (own_base g.o3 b hb)), g.only.then_ hO (fun i hi hs => hs), g.mx.only hO (by omega), Nat.le_trans g.zz hO.size, g.low⟩
/-- the results' box is written -/
theorem GuI.res (g : GuI w0 l h p0 p1 bu b2 b5 b7 z bA oA c p A1 A2 A3 c1 c2 c3 n1 n2 n3 W) (x0 x1 x2 x3 : Value) : (st4 W b2 x0 x1 x2 x3).heap[b2]? = some (.cells #[x0, x1, x2, x3] 28) ∧ UpAt (st4 W b2 x0 x1 x2 x3) bu bA oA l.length c p ∧ Only (fun k => k = bu) w0 (st4 W b2 x0 x1 x2 x3) := by
  have hk := st4_only W b2 x0 x1 x2 x3
  have hw := g.low
  exact ⟨st4_heap g.r2 _ _ _ _, hk.heap g.up (by omega), g.only.then_ hk (fun i hi hs => by omega)⟩
theorem GuI.at_ (g : GuI w0 l h p0 p1 bu b2 b5 b7 z bA oA c p A1 A2 A3 c1 c2 c3 h.l h.a h.o W) (x0 x1 x2 x3 : Value) (W' : World) (hO : Only (fun k => k < w0.heap.size) (st4 W b2 x0 x1 x2 x3) W') : (h.graphU l p0 p1).At W' A1 A2 A3 := by
  have hk := st4_only W b2 x0 x1 x2 x3
  have hw := g.low
  have e2 : ∀ b, z ≤ b → ¬ (b = b2) := fun b hb hs => by omega
  have e3 : ∀ b, z ≤ b → ¬ (b < w0.heap.size) := fun b hb hs => by omega
  have o1 := own_only (own_only g.o1 hk (fun b hb => e2 b (own_base g.o1 b hb))) hO (fun b hb => e3 b (own_base g.o1 b hb))
  have o2 := own_only (own_only g.o2 hk (fun b hb => e2 b (own_base g.o2 b hb))) hO (fun b hb => e3 b (own_base g.o2 b hb))
  have o3 := own_only (own_only g.o3 hk (fun b hb => e2 b (own_base g.o3 b hb))) hO (fun b hb => e3 b (own_base g.o3 b hb))
  exact ⟨(own_flat o1).row, (own_flat o2).row, (own_flat o3).row.one⟩
theorem GuI.lat (g : GuI w0 l h p0 p1 bu b2 b5 b7 z bA oA c p A1 A2 A3 c1 c2 c3 n1 n2 n3 W) {news : List Value} (hown : W4.ownsRow z 47 2 (.slice A' (n1 + 1) c') (n1 + 1) (flatF 2 (fLatU h l p0) n1 ++ news)) (hnew : news = (List.range 2).map (fLatU h l p0 n1)) (hon : Only (blockOf A1) W W4) :
    W4.heap[b7]? = some (.cells #[.int .i64 (h.i : Int), .slice A1 n1 c1, .slice A2 n2 c2, .slice A3 n3 c3] 28) ∧ GuI w0 l h p0 p1 bu b2 b5 b7 z bA oA c p A' A2 A3 c' c2 c3 (n1 + 1) n2 n3 (W4.setCell ⟨b7, 1, none⟩ (.slice A' (n1 + 1) c')) := by
  have hw := g.low
  have hA : ∀ k, blockOf A1 k → z ≤ k := own_base g.o1
  have hno : ∀ k, k < z → ¬ blockOf A1 k := fun k hk hs => by have := hA k hs; omega
  have hg := hon.heap g.g (hno _ (by omega))
  have hk : Only (fun k => k = b7) W4 (W4.setCell ⟨b7, 1, none⟩ (.slice A' (n1 + 1) c')) := Only.setCell (p := ⟨b7, 1, none⟩) (Only.refl (fun k => k = b7) W4) (fun _ => rfl) _
  have e2 : ∀ b, z ≤ b → ¬ (b = b7) := fun b hb hs => by omega
  have hNew : (W4.setCell ⟨b7, 1, none⟩ (.slice A' (n1 + 1) c')).ownsRow z 47 2 (.slice A' (n1 + 1) c') (n1 + 1) (flatF 2 (fLatU h l p0) (n1 + 1)) := by
    rw [hnew] at hown
    exact own_only hown hk (fun b hb => e2 b (own_base hown b hb))
  have hmA : ¬ blockOf A1 bA := hno _ (by omega)
  refine ⟨hg, hk.heap (hon.heap g.up (hno _ (by omega))) (by omega), (g.mem.only hon hmA).only hk (by omega), g.ple, hk.heap (hon.heap g.sz (hno _ (by omega))) (ne_type (hon.heap g.sz (hno _ (by omega))) hg (by decide)),
    set4_1 hg _, hk.heap (hon.heap g.r2 (hno _ (by omega))) (by omega), hNew, own_only (own_only g.o2 hon (no_share g.o2 g.o1 (by decide))) hk (fun b hb => e2 b (own_base g.o2 b hb)), own_only (own_only g.o3 hon (no_share g.o3 g.o1 (by decide))) hk (fun b hb => e2 b (own_base g.o3 b hb)), (g.only.then_ hon (fun i hi hs => by have := hA i hs; omega)).then_ hk (fun i hi hs => by omega), (g.mx.only hon (hno _ (by omega))).only hk (by omega), Nat.le_trans (Nat.le_trans g.zz hon.size) hk.size, g.low⟩
theorem GuI.and_ (g : GuI w0 l h p0 p1 bu b2 b5 b7 z bA oA c p A1 A2 A3 c1 c2 c3 n1 n2 n3 W) {news : List Value} (hown : W4.ownsRow z 48 2 (.slice A' (n2 + 1) c') (n2 + 1) (flatF 2 (fAndU h l p1) n2 ++ news)) (hnew : news = (List.range 2).map (fAndU h l p1 n2)) (hon : Only (blockOf A2) W W4) :
    W4.heap[b7]? = some (.cells #[.int .i64 (h.i : Int), .slice A1 n1 c1, .slice A2 n2 c2, .slice A3 n3 c3] 28) ∧ GuI w0 l h p0 p1 bu b2 b5 b7 z bA oA c p A1 A' A3 c1 c' c3 n1 (n2 + 1) n3 (W4.setCell ⟨b7, 2, none⟩ (.slice A' (n2 + 1) c')) := by
  have hw := g.low
  have hA : ∀ k, blockOf A2 k → z ≤ k := own_base g.o2
  have hno : ∀ k, k < z → ¬ blockOf A2 k := fun k hk hs => by have := hA k hs; omega
  have hg := hon.heap g.g (hno _ (by omega))
  have hk : Only (fun k => k = b7) W4 (W4.setCell ⟨b7, 2, none⟩ (.slice A' (n2 + 1) c')) := Only.setCell (p := ⟨b7, 2, none⟩) (Only.refl (fun k => k = b7) W4) (fun _ => rfl) _
  have e2 : ∀ b, z ≤ b → ¬ (b = b7) := fun b hb hs => by omega
  have hNew : (W4.setCell ⟨b7, 2, none⟩ (.slice A' (n2 + 1) c')).ownsRow z 48 2 (.slice A' (n2 + 1) c') (n2 + 1) (flatF 2 (fAndU h l p1) (n2 + 1)) := by
    rw [hnew] at hown
    exact own_only hown hk (fun b hb => e2 b (own_base hown b hb))
  have hmA : ¬ blockOf A2 bA := hno _ (by omega)
  refine ⟨hg, hk.heap (hon.heap g.up (hno _ (by omega))) (by omega), (g.mem.only hon hmA).only hk (by omega), g.ple, hk.heap (hon.heap g.sz (hno _ (by omega))) (ne_type (hon.heap g.sz (hno _ (by omega))) hg (by decide)),
    set4_2 hg _, hk.heap (hon.heap g.r2 (hno _ (by omega))) (by omega), own_only (own_only g.o1 hon (no_share g.o1 g.o2 (by decide))) hk (fun b hb => e2 b (own_base g.o1 b hb)), hNew, own_only (own_only g.o3 hon (no_share g.o3 g.o2 (by decide))) hk (fun b hb => e2 b (own_base g.o3 b hb)), (g.only.then_ hon (fun i hi hs => by have := hA i hs; omega)).then_ hk (fun i hi hs => by omega), (g.mx.only hon (hno _ (by omega))).only hk (by omega), Nat.le_trans (Nat.le_trans g.zz hon.size) hk.size, g.low⟩
theorem GuI.out (g : GuI w0 l h p0 p1 bu b2 b5 b7 z bA oA c p A1 A2 A3 c1 c2 c3 n1 n2 n3 W) {news : List Value} (hown : W4.ownsRow z 3 1 (.slice A' (n3 + 1) c') (n3 + 1) (flatF 1 (fOutU h l p0) n3 ++ news)) (hnew : news = (List.range 1).map (fOutU h l p0 n3)) (hon : Only (blockOf A3) W W4) :
    W4.heap[b7]? = some (.cells #[.int .i64 (h.i : Int), .slice A1 n1 c1, .slice A2 n2 c2, .slice A3 n3 c3] 28) ∧ GuI w0 l h p0 p1 bu b2 b5 b7 z bA oA c p A1 A2 A' c1 c2 c' n1 n2 (n3 + 1) (W4.setCell ⟨b7, 3, none⟩ (.slice A' (n3 + 1) c')) := by
  have hw := g.low
  have hA : ∀ k, blockOf A3 k → z ≤ k := own_base g.o3
  have hno : ∀ k, k < z → ¬ blockOf A3 k := fun k hk hs => by have := hA k hs; omega
  have hg := hon.heap g.g (hno _ (by omega))
  have hk : Only (fun k => k = b7) W4 (W4.setCell ⟨b7, 3, none⟩ (.slice A' (n3 + 1) c')) := Only.setCell (p := ⟨b7, 3, none⟩) (Only.refl (fun k => k = b7) W4) (fun _ => rfl) _
  have e2 : ∀ b, z ≤ b → ¬ (b = b7) := fun b hb hs => by omega
  have hNew : (W4.setCell ⟨b7, 3, none⟩ (.slice A' (n3 + 1) c')).ownsRow z 3 1 (.slice A' (n3 + 1) c') (n3 + 1) (flatF 1 (fOutU h l p0) (n3 + 1)) := by
    rw [hnew] at hown
    exact own_only hown hk (fun b hb => e2 b (own_base hown b hb))
  have hmA : ¬ blockOf A3 bA := hno _ (by omega)
  refine ⟨hg, hk.heap (hon.heap g.up (hno _ (by omega))) (by omega), (g.mem.only hon hmA).only hk (by omega), g.ple, hk.heap (hon.heap g.sz (hno _ (by omega))) (ne_type (hon.heap g.sz (hno _ (by omega))) hg (by decide)),
    set4_3 hg _, hk.heap (hon.heap g.r2 (hno _ (by omega))) (by omega), own_only (own_only g.o1 hon (no_share g.o1 g.o3 (by decide))) hk (fun b hb => e2 b (own_base g.o1 b hb)), own_only (own_only g.o2 hon (no_share g.o2 g.o3 (by decide))) hk (fun b hb => e2 b (own_base g.o2 b hb)), hNew, (g.only.then_ hon (fun i hi hs => by have := hA i hs; omega)).then_ hk (fun i hi hs => by omega), (g.mx.only hon (hno _ (by omega))).only hk (by omega), Nat.le_trans (Nat.le_trans g.zz hon.size) hk.size, g.low⟩
end
end Go.Proofs.YtngjbiipgbeemaaDoor
