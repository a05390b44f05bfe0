/- Maps of literals: which are held; which clauses have a literal. No condition. -/
import Derived.Test.YtkanekacjefcbaaRfT
import Derived.Maps.OwnSet
import Derived.Maps.OwnOps
import Derived.Maps.OwnRows
import Derived.Maps.GroupsBeside
namespace Go.Proofs.Ytkanekacjefcbaa
open Go.RowKit Go.Maps Go.ChangeShapes

theorem lawInt : Keyed Try.prog 3 := int_keyed Try.underlying3
theorem zeroIntR (w : World) : (zeroValue 3).run Try.prog w = .ok (.int .i64 0) w := by kernel_rfl
theorem zeroRowR (w : World) : (zeroValue 26).run Try.prog w = .ok (.slice none 0 0) w := by kernel_rfl
theorem wf_lit {l : Int} (h0 : -9223372036854775808 ≤ l) (h1 : l ≤ 9223372036854775807) : (Lit.int .i64 l).wf = true := by
  simp [Lit.wf, IntKind.min, IntKind.max, IntKind.signed, IntKind.bits]; omega
def kl (l : Int) : Lit := .int .i64 l
theorem kl_inj {a b : Int} (h : kl a = kl b) : a = b := by injection h
theorem key_lit {l : Int} (h : (Lit.int .i64 l).wf = true) : keyOf Try.prog 3 (.int .i64 l) = some (kl l) := keyOf_int_mk Try.underlying3 h
theorem keyLit {l : Int} (h : (Lit.int .i64 l).wf = true) : WideAt.IsKeyLit (kl l) := lawInt.key (key_lit h)

/-! ### How many literals are held -/
def cnt (V : Nat) (S : Int → Bool) : Nat := (List.range (2 * V + 1)).countP (fun i : Nat => S ((i : Int) - V))
theorem countP_one {p q : Nat → Bool} {k : Nat} (hp : p k = false) (hq : ∀ i, q i = (p i || i == k)) : ∀ n, (List.range n).countP q = (List.range n).countP p + if k < n then 1 else 0
  | 0 => by simp
  | n + 1 => by
    rw [List.range_succ, List.countP_append, List.countP_append, countP_one hp hq n]
    simp only [List.countP_singleton, hq n]
    by_cases e : n = k
    · subst e
      simp [hp]
    · by_cases h : k < n
      · have : k < n + 1 := by omega
        simp [e, h, this]; omega
      · have : ¬ k < n + 1 := by omega
        simp [e, h, this]
theorem cnt_put {V : Nat} {S : Int → Bool} {x : Int} (h0 : -(V : Int) ≤ x) (h1 : x ≤ V) (hx : S x = false) : cnt V (put1 S x) = cnt V S + 1 := by
  unfold cnt
  rw [countP_one (p := fun i : Nat => S ((i : Int) - V)) (k := (x + V).toNat) (by
    show S ((((x + V).toNat : Nat) : Int) - V) = false
    rw [show (((x + V).toNat : Nat) : Int) - V = x by omega]; exact hx) (fun i => by
    simp only [put1]
    congr 1
    rw [Bool.eq_iff_iff]
    simp; omega), if_pos (by omega)]
theorem cnt_le (V : Nat) (S : Int → Bool) : cnt V S ≤ 2 * V + 1 := by
  unfold cnt
  exact Nat.le_trans List.countP_le_length (by simp)

/-! ### The map of what is held -/
def HeldM (w : World) (b n : Nat) (S : Int → Bool) : Prop :=
  ∃ D : DataW Unit, w.ownsMap Try.prog 3 (plainElem Try.prog 3) b n D ∧ IsMap D ∧ ∀ l : Int, (Lit.int .i64 l).wf = true → D.atKey (kl l) (.lit (.int .i64 0)) = .lit (.int .i64 (if S l = true then 1 else 0))
theorem HeldM.made (w : World) : HeldM (w.alloc (.map #[] 0)) w.heap.size 0 (fun _ => false) := ⟨.map [], World.ownsMap_made _ _ _ _, isMap_empty, fun l _ => by simp [DataW.atKey]⟩
section
variable {w w1 : World} {b n : Nat} {S : Int → Bool}
theorem HeldM.lt (h : HeldM w b n S) : b < w.heap.size := by obtain ⟨D, h, _⟩ := h; exact h.lt
theorem HeldM.only {X : Nat → Prop} (h : HeldM w b n S) (k : Only X w w1) (hx : ¬ X b) : HeldM w1 b n S := by
  obtain ⟨D, ho, r⟩ := h
  have hlt := ho.lt
  obtain ⟨es, clock, hb, F⟩ := ho
  exact ⟨D, ⟨es, clock, (k.block b hlt hx).trans hb, F⟩, r⟩
theorem HeldM.below (h : HeldM w b n S) (k : Below w.heap.size w w1) : HeldM w1 b n S := by
  obtain ⟨D, ho, r⟩ := h
  have hlt := ho.lt
  obtain ⟨es, clock, hb, F⟩ := ho
  exact ⟨D, ⟨es, clock, (k.block b hlt).trans hb, F⟩, r⟩
theorem HeldM.isMap (h : HeldM w b n S) : ∀ cur e, w.heap[b]? ≠ some (.cells cur e (0, 0)) := by
  obtain ⟨D, ⟨es, clock, hb, _⟩, _⟩ := h
  intro cur e hc
  rw [hb] at hc
  injection hc with hc
  cases hc
theorem HeldM.look (h : HeldM w b n S) {l : Int} (hl : (Lit.int .i64 l).wf = true) : (Instr.lookup 40 (.map (some b)) (.int .i64 l) false).run Try.prog w = .ok (.int .i64 (if S l = true then 1 else 0)) w := by
  obtain ⟨D, ho, _, hat⟩ := h
  obtain ⟨c, hrun, h1, _⟩ := ho.lookup_int lawInt Try.underlying40 Try.underlying3 (zeroIntR w) (key_lit hl)
  rw [hat l hl] at h1
  injection h1 with h1
  injection h1 with _ h1
  rw [hrun, h1]
theorem HeldM.put {x : Int} (h : HeldM w b n S) (hn : n < maxLen) (hx : (Lit.int .i64 x).wf = true) : ∃ w', (Instr.mapUpdate 40 (.map (some b)) (.int .i64 x) (.int .i64 1)).run Try.prog w = .ok () w' ∧ HeldM w' b (n + 1) (put1 S x) ∧ Only (fun k => k = b) w w' := by
  obtain ⟨D, ho, hm, hat⟩ := h
  obtain ⟨w', hrun, h1, h2⟩ := ho.update (key := .int .i64 x) (val := .int .i64 1) (kl := kl x) (d := .lit (.int .i64 1)) (ps := []) lawInt Try.underlying40 hn (key_lit hx) (plainElem_int Try.underlying3 (by decide))
  refine ⟨w', hrun, ⟨_, h1, hm.put _ _, fun l hl => ?_⟩, ⟨h2.os, h2.tape, h2.output, h2.size, fun k hk hne => h2.block k hk (fun e => hne (by injection e))⟩⟩
  by_cases e : l = x
  · subst e
    rw [atKey_put_same hm (keyLit hl), put1_self]; rfl
  · rw [atKey_put_other (fun c => e (kl_inj c)), hat l hl]
    have : (l == x) = false := by simpa using e
    simp [put1, this]
end
/-- 'held[x] = 1' in a walk -/
theorem wp_held_put {w : World} {ops : Array Oper} {rest : List Oper} {o : Oper} {a : Act} {Q : Exit → Act → World → Prop} (hgd : o.guard = none) (m x v : Operand) (ho : o.op = Op.mapUpdate 40 m x v)
    {b n : Nat} {S : Int → Bool} {y : Int} (hm : a.eval m = .map (some b)) (h : HeldM w b n S) (hn : n < maxLen) (hx : a.eval x = .int .i64 y) (hv : a.eval v = .int .i64 1) (hy : (Lit.int .i64 y).wf = true)
    (hK : ∀ w', HeldM w' b (n + 1) (put1 S y) → Only (fun k => k = b) w w' → wpList Try.prog ops Q rest (a.put o.dst undef) w') : wpList Try.prog ops Q (o :: rest) a w := by
  obtain ⟨w', hrun, h1, h2⟩ := h.put hn hy
  refine wpList_plain hgd fun K' hK' => ?_
  unfold Oper.wp
  simp [execOp, ho, hm, hx, hv, hrun, Result.andThen]
  exact hK' _ _ (hK w' h1 h2)

/-! ### The map of which clauses have a literal -/
def RowIs (D : DataW Unit) (l : Int) (zs : List Int) : Prop := (D.atKey (kl l) .nil = .nil ∧ zs = []) ∨ D.atKey (kl l) .nil = .slice (lits .i64 zs) []
theorem lits_inj : ∀ {a b : List Int}, (lits .i64 a : List (DataW Unit)) = lits .i64 b → a = b
  | [], [], _ => rfl
  | [], _ :: _, h => by simp [lits] at h
  | _ :: _, [], h => by simp [lits] at h
  | x :: a, y :: b, h => by
    simp only [lits, List.map_cons, List.cons.injEq] at h
    obtain ⟨h1, h2⟩ := h
    injection h1 with h1
    injection h1 with _ h1
    rw [h1, lits_inj (a := a) (b := b) h2]
theorem RowIs.unique {D : DataW Unit} {l : Int} {a b : List Int} (h : RowIs D l a) (k : RowIs D l b) : a = b := by
  rcases h with ⟨h1, rfl⟩ | h1 <;> rcases k with ⟨k1, rfl⟩ | k1
  · rfl
  · rw [h1] at k1; cases k1
  · rw [h1] at k1; cases k1
  · rw [h1] at k1
    injection k1 with k1
    exact lits_inj k1
/-- which clauses have a literal: of the first n at least those that G says -/
def Into (D : DataW Unit) (n : Nat) (G : Nat → Int → Prop) : Prop := IsMap D ∧ ∀ l : Int, (Lit.int .i64 l).wf = true → ∃ zs : List Int, RowIs D l zs ∧ (∀ z, z ∈ zs → 0 ≤ z ∧ z < n) ∧ ∀ i : Nat, G i l → (i : Int) ∈ zs
theorem Into.start : Into (.map []) 0 (fun _ _ => False) := ⟨isMap_empty, fun l _ => ⟨[], .inl ⟨by simp [DataW.atKey], rfl⟩, by simp, fun i h => h.elim⟩⟩
theorem Into.mono {D : DataW Unit} {n n' : Nat} {G G' : Nat → Int → Prop} (h : Into D n G) (hn : n ≤ n') (hG : ∀ i l, G' i l → G i l) : Into D n' G' :=
  ⟨h.1, fun l hl => let ⟨zs, h1, h2, h3⟩ := h.2 l hl; ⟨zs, h1, fun z hz => by have := h2 z hz; omega, fun i hi => h3 i (hG i l hi)⟩⟩
/-- clause i booked for literal x -/
theorem Into.push {D : DataW Unit} {n i : Nat} {G : Nat → Int → Prop} {x : Int} {zs : List Int} (h : Into D n G) (hx : (Lit.int .i64 x).wf = true) (hi : i < n) (hz : RowIs D x zs) : Into (D.put (kl x) (.slice (lits .i64 (zs ++ [(i : Int)])) [])) n (fun j l => G j l ∨ (j = i ∧ l = x)) := by
  refine ⟨h.1.put _ _, fun l hl => ?_⟩
  by_cases e : l = x
  · subst e
    obtain ⟨zs', h1, h2, h3⟩ := h.2 l hl
    obtain rfl := hz.unique h1
    refine ⟨zs ++ [(i : Int)], .inr (by rw [atKey_put_same h.1 (keyLit hl)]), fun z hzz => ?_, fun j hj => ?_⟩
    · rcases List.mem_append.1 hzz with hzz | hzz
      · exact h2 z hzz
      · simp at hzz; omega
    · rcases hj with hj | ⟨rfl, _⟩
      · exact List.mem_append_left _ (h3 j hj)
      · simp
  · obtain ⟨zs', h1, h2, h3⟩ := h.2 l hl
    refine ⟨zs', ?_, h2, fun j hj => hj.elim (h3 j) (fun c => absurd c.2 e)⟩
    unfold RowIs
    rw [atKey_put_other (fun c => e (kl_inj c))]
    exact h1
end Go.Proofs.Ytkanekacjefcbaa
