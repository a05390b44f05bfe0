/- What Hash leaves of a graph of and-gates, in plain Lean: what 'and' of two literals is, how the gates grow, and that the hashed graph shows the same. No condition. -/
import Derived.Test.YtdhgbikmaglgpaaCleanP
namespace Go.Proofs.Ytdhgbikmaglgpaa

/-- the gates so far: how many, their two literals -/
structure HS where
  m : Nat
  P : Nat → Int
  Q : Nat → Int
def HS.push (s : HS) (a b : Int) : HS := ⟨s.m + 1, fun j => if j = s.m then a else s.P j, fun j => if j = s.m then b else s.Q j⟩
def HS.none : HS := ⟨0, fun _ => 0, fun _ => 0⟩
/-- the other literal of a variable -/
def flip (l : Int) : Int := l + 1 - 2 * (l % 2)
/-- a literal under a bit -/
def flipB (p b : Int) : Int := if b = 0 then p else flip p
/-- the literal that a literal becomes by a table -/
def mvT (T : Nat → Int) (l : Int) : Int := flipB (T (l.toNat / 2)) (l % 2)
/-- 'and' of two literals, the greater first -/
inductive AndR (first : Nat) (s : HS) (a b : Int) : HS → Int → Prop
  | zero : (b = 0 ∨ a = flip b) → AndR first s a b s 0
  | same : (b = 1 ∨ a = b) → AndR first s a b s a
  | old (i : Nat) : i < s.m → s.P i = a → s.Q i = b → AndR first s a b s (2 * ((first : Int) + i))
  | new : (b ≠ 0 ∧ a ≠ flip b ∧ b ≠ 1 ∧ a ≠ b) → (∀ i, i < s.m → ¬ (s.P i = a ∧ s.Q i = b)) → AndR first s a b (s.push a b) (2 * ((first : Int) + s.m))
/-- .. in any order -/
def And2 (first : Nat) (s : HS) (a b : Int) (s' : HS) (l : Int) : Prop := if a < b then AndR first s b a s' l else AndR first s a b s' l

/-- what holds of the gates -/
structure HInv (first : Nat) (s : HS) : Prop where
  ok : ∀ i, i < s.m → 2 ≤ s.Q i ∧ s.Q i < s.P i ∧ s.P i / 2 ≠ s.Q i / 2 ∧ s.P i < 2 * ((first : Int) + i)
  apart : ∀ i, i < s.m → ∀ j, j < i → ¬ (s.P j = s.P i ∧ s.Q j = s.Q i)

/-- a graph with other gates -/
def G.with (g : G) (s : HS) : G := { g with n2 := s.m, X := s.P, Y := s.Q }
theorem G.with_first (g : G) (s : HS) : (g.with s).first = g.first := rfl
theorem G.cyc_with_congr (g : G) (s s' : HS) (inp st : Nat → Bool) : ∀ k, (∀ i, i < k → s'.P i = s.P i ∧ s'.Q i = s.Q i) → (g.with s').cyc inp st k = (g.with s).cyc inp st k
  | 0, _ => rfl
  | k + 1, h => by
    have ih := G.cyc_with_congr g s s' inp st k (fun i hi => h i (by omega))
    funext j
    have h1 := (h k (by omega)).1
    have h2 := (h k (by omega)).2
    simp only [G.cyc, ih]
    show (if j = g.first + k then litF _ (s'.P k) && litF _ (s'.Q k) else _) = (if j = g.first + k then litF _ (s.P k) && litF _ (s.Q k) else _)
    rw [h1, h2]
theorem G.cyc_keep (g : G) (inp st : Nat → Bool) {k m j : Nat} (hkm : k ≤ m) (h : j < g.first + k) : g.cyc inp st m j = g.cyc inp st k j := by
  induction m with
  | zero => have : k = 0 := by omega
            subst this; rfl
  | succ m ih =>
    by_cases e : k = m + 1
    · subst e; rfl
    · rw [G.cyc_lo _ _ _ _ _ (by omega), ih (by omega)]

/-- the value of a literal among the gates so far -/
def G.at_ (g : G) (s : HS) (inp st : Nat → Bool) (l : Int) : Bool := litF ((g.with s).cyc inp st s.m) l

theorem litF_flip (V : Nat → Bool) {l : Int} (h : 0 ≤ l) : litF V (flip l) = !litF V l := by
  unfold litF flip
  have h1 : (l + 1 - 2 * (l % 2)).toNat / 2 = l.toNat / 2 := by omega
  rw [h1]
  rcases (show l % 2 = 0 ∨ l % 2 = 1 by omega) with h2 | h2
  · rw [show (l + 1 - 2 * (l % 2)) % 2 = 1 by omega, h2]; cases V (l.toNat / 2) <;> rfl
  · rw [show (l + 1 - 2 * (l % 2)) % 2 = 0 by omega, h2]; cases V (l.toNat / 2) <;> rfl
theorem flip_range {l : Int} {n : Nat} (h0 : 0 ≤ l) (h1 : l < 2 * n) : 0 ≤ flip l ∧ flip l < 2 * n := by unfold flip; omega
theorem litF_mvT (V : Nat → Bool) (T : Nat → Int) (l : Int) (h : 0 ≤ T (l.toNat / 2)) : litF V (mvT T l) = (litF V (T (l.toNat / 2)) != (l % 2 == 1)) := by
  unfold mvT flipB
  rcases (show l % 2 = 0 ∨ l % 2 = 1 by omega) with h2 | h2
  · rw [h2, if_pos rfl]; simp
  · rw [h2, if_neg (by decide), litF_flip V h]; simp
theorem mvT_range {T : Nat → Int} {l : Int} {n : Nat} (h : 0 ≤ T (l.toNat / 2) ∧ T (l.toNat / 2) < 2 * n) : 0 ≤ mvT T l ∧ mvT T l < 2 * n := by
  unfold mvT flipB
  split
  · exact h
  · exact flip_range h.1 h.2
theorem litF_zero (g : G) (s : HS) (inp st : Nat → Bool) : g.at_ s inp st 0 = false := by
  have : ∀ k, (g.with s).cyc inp st k 0 = false := fun k => by
    induction k with
    | zero => rfl
    | succ k ih => rw [G.cyc_lo _ _ _ _ _ (by unfold G.first; omega), ih]
  show litF _ 0 = false
  unfold litF
  rw [show (0 : Int).toNat / 2 = 0 by decide, this]; rfl
theorem litF_one (g : G) (s : HS) (inp st : Nat → Bool) : g.at_ s inp st 1 = true := by
  have := litF_flip ((g.with s).cyc inp st s.m) (l := 0) (by omega)
  have h0 : litF ((g.with s).cyc inp st s.m) 0 = false := litF_zero g s inp st
  rw [h0] at this
  exact this

section
variable {g : G} {s s' : HS} {a b l : Int}
theorem G.at_push (hx : 0 ≤ l ∧ l < 2 * ((g.first : Int) + s.m)) (inp st : Nat → Bool) : g.at_ (s.push a b) inp st l = g.at_ s inp st l := by
  unfold G.at_
  refine litF_congr (g.first + s.m) (fun j hj => ?_) hx.1 (by omega)
  show (g.with (s.push a b)).cyc inp st (s.m + 1) j = _
  rw [G.cyc_lo (g.with (s.push a b)) inp st s.m j hj, G.cyc_with_congr g s (s.push a b) inp st s.m (fun i hi => by simp [HS.push, show i ≠ s.m by omega])]
theorem HInv.gate (h : HInv g.first s) {i : Nat} (hi : i < s.m) (inp st : Nat → Bool) : g.at_ s inp st (2 * ((g.first : Int) + i)) = (g.at_ s inp st (s.P i) && g.at_ s inp st (s.Q i)) := by
  have ho := h.ok i hi
  have e1 : (2 * ((g.first : Int) + i)).toNat / 2 = g.first + i := by omega
  have e2 : (2 * ((g.first : Int) + i)) % 2 = 0 := by omega
  have k1 : ∀ x, 0 ≤ x → x < 2 * ((g.first : Int) + i) → litF ((g.with s).cyc inp st s.m) x = litF ((g.with s).cyc inp st i) x := fun x h0 h1 =>
    litF_congr (g.first + i) (fun j hj => (g.with s).cyc_keep inp st (by omega) hj) h0 (by omega)
  unfold G.at_
  rw [k1 (s.P i) (by omega) (by omega), k1 (s.Q i) (by omega) (by omega)]
  conv => lhs; unfold litF
  rw [e1, e2, (g.with s).cyc_keep inp st (k := i + 1) (by omega) (show g.first + i < g.first + (i + 1) by omega)]
  have := (g.with s).cyc_at inp st i
  rw [show (g.with s).first = g.first from rfl] at this
  rw [this]
  show ((_ && _) != false) = _
  rw [Bool.bne_false]; rfl
theorem HInv.push (h : HInv g.first s) (hab : b ≤ a) (hb0 : 0 ≤ b) (ha : a < 2 * ((g.first : Int) + s.m)) (hn : b ≠ 0 ∧ a ≠ flip b ∧ b ≠ 1 ∧ a ≠ b) (hd : ∀ i, i < s.m → ¬ (s.P i = a ∧ s.Q i = b)) : HInv g.first (s.push a b) := by
  constructor
  · intro i hi
    by_cases e : i = s.m
    · subst e
      simp only [HS.push, if_true]
      unfold flip at hn
      omega
    · have hi' : i < s.m := by
        have : i < s.m + 1 := hi
        omega
      simp only [HS.push, if_neg e]
      exact h.ok i hi'
  · intro i hi j hj
    have hi' : i < s.m + 1 := hi
    by_cases e : i = s.m
    · subst e
      simp only [HS.push, if_true, if_neg (show ¬ j = s.m by omega)]
      exact hd j hj
    · simp only [HS.push, if_neg e, if_neg (show ¬ j = s.m by omega)]
      exact h.apart i (by omega) j hj

/-- what 'and' gives, in the values and the bounds -/
structure AndOk (g : G) (s s' : HS) (a b l : Int) : Prop where
  inv : HInv g.first s'
  m : s.m ≤ s'.m ∧ s'.m ≤ s.m + 1
  range : 0 ≤ l ∧ l < 2 * ((g.first : Int) + s'.m)
  keep : ∀ inp st x, 0 ≤ x → x < 2 * ((g.first : Int) + s.m) → g.at_ s' inp st x = g.at_ s inp st x
  val : ∀ inp st, g.at_ s' inp st l = (g.at_ s inp st a && g.at_ s inp st b)
theorem AndR.ok (h : HInv g.first s) (hr : AndR g.first s a b s' l) (hab : b ≤ a) (hb0 : 0 ≤ b) (ha : a < 2 * ((g.first : Int) + s.m)) : AndOk g s s' a b l := by
  cases hr with
  | zero hz =>
    refine ⟨h, ⟨Nat.le_refl _, Nat.le_succ _⟩, ⟨Int.le_refl _, by omega⟩, fun _ _ _ _ _ => rfl, fun inp st => ?_⟩
    rw [litF_zero]
    rcases hz with rfl | rfl
    · rw [litF_zero, Bool.and_false]
    · show false = (litF _ (flip b) && litF _ b)
      rw [litF_flip _ hb0]; cases litF ((g.with s).cyc inp st s.m) b <;> rfl
  | same hz =>
    refine ⟨h, ⟨Nat.le_refl _, Nat.le_succ _⟩, ⟨by omega, ha⟩, fun _ _ _ _ _ => rfl, fun inp st => ?_⟩
    rcases hz with rfl | rfl
    · rw [litF_one, Bool.and_true]
    · rw [Bool.and_self]
  | old i hi h1 h2 =>
    refine ⟨h, ⟨Nat.le_refl _, Nat.le_succ _⟩, ⟨by omega, by omega⟩, fun _ _ _ _ _ => rfl, fun inp st => ?_⟩
    rw [h.gate hi, h1, h2]
  | new hn hd =>
    have hp := h.push hab hb0 ha hn hd
    refine ⟨hp, ⟨Nat.le_succ _, Nat.le_refl _⟩, ⟨by omega, by show _ < 2 * ((g.first : Int) + ((s.m + 1 : Nat) : Int)); omega⟩, fun inp st x h0 h1 => G.at_push ⟨h0, h1⟩ inp st, fun inp st => ?_⟩
    rw [hp.gate (show s.m < s.m + 1 by omega)]
    have e1 : (s.push a b).P s.m = a := by simp [HS.push]
    have e2 : (s.push a b).Q s.m = b := by simp [HS.push]
    rw [e1, e2, G.at_push ⟨by omega, ha⟩, G.at_push ⟨hb0, by omega⟩]
theorem And2.ok (h : HInv g.first s) (hr : And2 g.first s a b s' l) (ha : 0 ≤ a ∧ a < 2 * ((g.first : Int) + s.m)) (hb : 0 ≤ b ∧ b < 2 * ((g.first : Int) + s.m)) : AndOk g s s' a b l := by
  unfold And2 at hr
  split at hr
  · have := hr.ok h (by omega) ha.1 hb.2
    exact ⟨this.inv, this.m, this.range, this.keep, fun inp st => by rw [this.val, Bool.and_comm]⟩
  · exact hr.ok h (by omega) hb.1 ha.2
end

/-- the table behind k gates -/
structure TOk (g : G) (s : HS) (T : Nat → Int) (k : Nat) : Prop where
  inv : HInv g.first s
  m : s.m ≤ k
  range : ∀ j, j < g.first + k → 0 ≤ T j ∧ T j < 2 * ((g.first : Int) + s.m)
  val : ∀ inp st j, j < g.first + k → g.at_ s inp st (T j) = g.cyc inp st k j
theorem TOk.start (g : G) : TOk g HS.none (fun j => if j < g.first then 2 * (j : Int) else 0) 0 := by
  refine ⟨⟨fun i hi => (by cases hi), fun i hi => (by cases hi)⟩, Nat.le_refl _, fun j hj => ?_, fun inp st j hj => ?_⟩
  · rw [if_pos (by omega)]; show _ ∧ _ < 2 * ((g.first : Int) + ((0 : Nat) : Int)); omega
  · rw [if_pos (by omega)]
    show litF (g.head inp st) (2 * (j : Int)) = g.head inp st j
    unfold litF
    rw [show (2 * (j : Int)).toNat / 2 = j by omega, show (2 * (j : Int)) % 2 = 0 by omega]
    show (_ != false) = _
    rw [Bool.bne_false]
theorem TOk.lit {g : G} {s : HS} {T : Nat → Int} {k : Nat} (h : TOk g s T k) {l : Int} (h1 : l.toNat / 2 < g.first + k) : (0 ≤ mvT T l ∧ mvT T l < 2 * ((g.first : Int) + s.m)) ∧ ∀ inp st, g.at_ s inp st (mvT T l) = litF (g.cyc inp st k) l := by
  have hr := h.range _ h1
  refine ⟨by have := mvT_range (T := T) (l := l) (n := g.first + s.m) ⟨hr.1, by omega⟩; omega, fun inp st => ?_⟩
  show litF _ (mvT T l) = _
  rw [litF_mvT _ _ _ hr.1]
  have := h.val inp st _ h1
  unfold G.at_ at this
  rw [this]; rfl
theorem TOk.step {g : G} {s s' : HS} {T : Nat → Int} {k : Nat} {l : Int} (hv : g.Valid) (hk : k < g.n2) (h : TOk g s T k) (hr : And2 g.first s (mvT T (g.X k)) (mvT T (g.Y k)) s' l) : TOk g s' (fun j => if j = g.first + k then l else T j) (k + 1) := by
  have hlo := hv.lo hk
  obtain ⟨r1, e1⟩ := h.lit hlo.2.2.1
  obtain ⟨r2, e2⟩ := h.lit hlo.2.2.2
  have ok := hr.ok h.inv r1 r2
  have hm := ok.m
  have hm0 := h.m
  refine ⟨ok.inv, by omega, fun j hj => ?_, fun inp st j hj => ?_⟩
  · by_cases e : j = g.first + k
    · simp only [if_pos e]; exact ok.range
    · simp only [if_neg e]
      have := h.range j (by omega)
      omega
  · by_cases e : j = g.first + k
    · simp only [if_pos e]
      rw [ok.val, e1, e2, e, G.cyc_at]
    · simp only [if_neg e]
      have := h.range j (by omega)
      rw [ok.keep inp st _ this.1 this.2, h.val inp st j (by omega), G.cyc_lo _ _ _ _ _ (by omega)]

/-- the graph that is handed back -/
def G.hash (g : G) (s : HS) (T : Nat → Int) : G := { ins := g.ins, n1 := g.n1, n2 := s.m, n3 := g.n3, L := fun k => mvT T (g.L k), I := g.I, X := s.P, Y := s.Q, O := fun k => mvT T (g.O k) }
theorem G.hash_cyc (g : G) (s : HS) (T : Nat → Int) (inp st : Nat → Bool) : ∀ k, (g.hash s T).cyc inp st k = (g.with s).cyc inp st k
  | 0 => rfl
  | k + 1 => by
    have ih := G.hash_cyc g s T inp st k
    funext j
    simp only [G.cyc, ih]; rfl
section
variable {g : G} {s : HS} {T : Nat → Int}
theorem TOk.valid (hv : g.Valid) (h : TOk g s T g.n2) : (g.hash s T).Valid := by
  have hm := h.m
  have hn := hv.nums
  have := hv.n
  refine ⟨hv.i0, hv.i1, hv.n1, hv.n3, by show 1 + g.ins + g.n1 + s.m ≤ 60000; omega, fun j hj => ?_, fun j hj => ?_, fun j hj => ?_⟩
  · have := h.inv.ok j hj
    show (0 ≤ s.P j ∧ s.P j < 2 * (1 + g.ins + g.n1 + j)) ∧ 0 ≤ s.Q j ∧ s.Q j < 2 * (1 + g.ins + g.n1 + j)
    omega
  · have := (h.lit (hv.lit (hv.lat j hj)).2).1
    show 0 ≤ mvT T (g.L j) ∧ mvT T (g.L j) < 2 * (1 + g.ins + g.n1 + s.m)
    omega
  · have := (h.lit (hv.lit (hv.outs j hj)).2).1
    show 0 ≤ mvT T (g.O j) ∧ mvT T (g.O j) < 2 * (1 + g.ins + g.n1 + s.m)
    omega
theorem TOk.latch (hv : g.Valid) (h : TOk g s T g.n2) (inp st : Nat → Bool) {k : Nat} (hk : k < g.n1) : litF ((g.hash s T).vals inp st) ((g.hash s T).L k) = litF (g.vals inp st) (g.L k) := by
  have := (h.lit (hv.lit (hv.lat k hk)).2).2 inp st
  unfold G.vals
  rw [G.hash_cyc]; exact this
theorem TOk.out (hv : g.Valid) (h : TOk g s T g.n2) (inp st : Nat → Bool) {k : Nat} (hk : k < g.n3) : litF ((g.hash s T).vals inp st) ((g.hash s T).O k) = litF (g.vals inp st) (g.O k) := by
  have := (h.lit (hv.lit (hv.outs k hk)).2).2 inp st
  unfold G.vals
  rw [G.hash_cyc]; exact this
end

/-- what the reference asks of a hashed graph -/
structure G.Plain (g : G) : Prop where
  ok : ∀ i, i < g.n2 → 2 ≤ g.Y i ∧ g.Y i < g.X i ∧ g.X i / 2 ≠ g.Y i / 2
  apart : ∀ i, i < g.n2 → ∀ j, j < i → ¬ (g.X j = g.X i ∧ g.Y j = g.Y i)
theorem TOk.plain {g : G} {s : HS} {T : Nat → Int} (h : TOk g s T g.n2) : (g.hash s T).Plain := ⟨fun i hi => by have := h.inv.ok i hi; exact ⟨this.1, this.2.1, this.2.2.1⟩, h.inv.apart⟩
end Go.Proofs.Ytdhgbikmaglgpaa
