/- Whoever takes a refutation's word: a formula that is refuted has no model. No condition. What the joint graph of two shows is what each shows. No condition. What the refutations of the three formulas say about a graph: the pairs are alike at first, they stay alike, and where they are alike so are the outlets. No condition. -/
import Derived.Test.YtkanekacjefcbaaRfP
import Derived.Test.YtkanekacjefcbaaJfP
import Derived.Test.YtkanekacjefcbaaGPure
namespace Go.Proofs.Ytkanekacjefcbaa

/-- a clause that a model meets -/
def Meets (S : Int → Bool) (c : List Int) : Prop := ∃ l, l ∈ c ∧ S l = true
/-- of a literal and its opposite just one is true -/
def Fair (S : Int → Bool) : Prop := ∀ l : Int, l ≠ 0 → S (-l) = !S l
theorem follows_sound {S : Int → Bool} {cs : List (List Int)} {c : List Int} (hS : Fair S) (hz : ∀ l, l ∈ c → l ≠ 0) (hzs : ∀ d, d ∈ cs → ∀ l, l ∈ d → l ≠ 0) (hcs : ∀ d, d ∈ cs → Meets S d) (h : FollowsP cs c) : Meets S c := by
  rcases h with ⟨l, h1, h2⟩ | ⟨T, hr, d, hd, hcl⟩
  · cases hl : S l
    · exact ⟨-l, h2, by rw [hS l (hz l h1), hl]; rfl⟩
    · exact ⟨l, h1, hl⟩
  · refine Classical.byContradiction fun hno => ?_
    have hf : ∀ l, l ∈ c → S l = false := fun l hl => by
      cases e : S l
      · rfl
      · exact absurd ⟨l, hl, e⟩ hno
    have hT : ∀ {T : Int → Bool}, Reach cs (neg0 c) T → ∀ y, T y = true → S y = true := fun {T} hr => by
      induction hr with
      | start =>
        intro y hy
        have hm := neg0_iff.1 hy
        have h0 := hz _ hm
        have h1 := hS (-y) h0
        rw [hf _ hm] at h1
        simpa using h1
      | @step T c' x _ hm hx _ hall ih =>
        intro y hy
        simp only [put1, Bool.or_eq_true, beq_iff_eq] at hy
        rcases hy with hy | rfl
        · exact ih y hy
        · obtain ⟨l, hl, hs⟩ := hcs _ hm
          rcases hall l hl with h | h
          · have := ih _ h
            rw [hS l (hzs _ hm l hl), hs] at this
            cases this
          · rw [← h]; exact hs
    obtain ⟨l, hl, hs⟩ := hcs d hd
    have := hT hr _ (hcl l hl)
    rw [hS l (hzs d hd l hl), hs] at this
    cases this
theorem check_sound {S : Int → Bool} {V : Int} {F St : List (List Int)} (h : CheckP V F St) (hS : Fair S) : ¬ ∀ c, c ∈ F → Meets S c := by
  intro hF
  have hz : ∀ (i : Nat) (d : List Int), d ∈ F ++ St.take i → ∀ l, l ∈ d → l ≠ 0 := fun i d hd l hl => by
    rcases List.mem_append.1 hd with hd | hd
    · exact (h.f d hd l hl).1
    · obtain ⟨j, hj, e⟩ := List.mem_iff_getElem.1 hd
      have hjs : St[j]? = some d := by rw [← e, List.getElem_take, List.getElem?_eq_getElem]
      exact ((h.s j d hjs).1 l hl).1
  have hm : ∀ i, i ≤ St.length → ∀ d, d ∈ St.take i → Meets S d := fun i => by
    induction i with
    | zero => intro _ d hd; simp at hd
    | succ i ih =>
      intro hi d hd
      have e : St[i]? = some St[i] := List.getElem?_eq_getElem (by omega)
      rw [List.take_succ_eq_append_getElem (by omega)] at hd
      rcases List.mem_append.1 hd with hd | hd
      · exact ih (by omega) d hd
      · obtain rfl : d = St[i] := by simpa using hd
        refine follows_sound hS (fun l hl => ((h.s i _ e).1 l hl).1) (hz i) (fun x hx => ?_) (h.s i _ e).2
        rcases List.mem_append.1 hx with hx | hx
        · exact hF x hx
        · exact ih (by omega) x hx
  have hlast := h.last
  have hmem : ([] : List Int) ∈ St := List.mem_of_getLast? hlast
  obtain ⟨l, hl, _⟩ := hm St.length (Nat.le_refl _) [] (by rwa [List.take_length])
  simp at hl
end Go.Proofs.Ytkanekacjefcbaa
namespace Go.Proofs.Ytkanekacjefcbaa
set_option linter.unusedSectionVars false

theorem G.cyc_stable (g : G) (inp st : Nat → Bool) {k m j : Nat} (hj : j < g.first + k) (hm : k ≤ m) : g.cyc inp st m j = g.cyc inp st k j := by
  induction m with
  | zero => rw [Nat.le_zero.1 hm]
  | succ m ih =>
    rcases Nat.lt_or_ge m k with h | h
    · rw [show m + 1 = k by omega]
    · rw [G.cyc_lo _ _ _ _ _ (by omega), ih h]
/-- where a variable of the first graph, of the second stands in the joint one -/
def mj1 (a b : G) (j : Nat) : Nat := if j > a.ins.toNat + a.n1 then j + b.n1 else j
def mj2 (a b : G) (j : Nat) : Nat := if j ≤ b.ins.toNat then j else if j ≤ b.ins.toNat + b.n1 then j + a.n1 else j + (a.n1 + a.n2)
theorem lit_mv1 {a b : G} {V U : Nat → Bool} {n : Nat} {l : Int} (h0 : 0 ≤ a.ins) (h : ∀ j, j < n → V (mj1 a b j) = U j) (hl : 0 ≤ l) (hn : l < 2 * n) : litF V (mv1 a b l) = litF U l := by
  have e : (mv1 a b l).toNat / 2 = mj1 a b (l.toNat / 2) ∧ (mv1 a b l) % 2 = l % 2 := by
    unfold mv1 mj1
    split <;> split <;> omega
  unfold litF
  rw [e.1, e.2, h _ (by omega)]
theorem lit_mv2 {a b : G} {V U : Nat → Bool} {n : Nat} {l : Int} (h0 : 0 ≤ b.ins) (h : ∀ j, j < n → V (mj2 a b j) = U j) (hl : 0 ≤ l) (hn : l < 2 * n) : litF V (mv2 a b l) = litF U l := by
  have e : (mv2 a b l).toNat / 2 = mj2 a b (l.toNat / 2) ∧ (mv2 a b l) % 2 = l % 2 := by
    unfold mv2 mj2
    split <;> split <;> first | omega | (split <;> first | omega | (split <;> omega))
  unfold litF
  rw [e.1, e.2, h _ (by omega)]

theorem joint_first (a b : G) : (joint a b).first = 1 + a.ins.toNat + a.n1 + b.n1 := by
  show 1 + a.ins.toNat + (a.n1 + b.n1) = _
  omega
section
variable {a b : G} (hva : a.Valid) (hvb : b.Valid) (hi : a.ins = b.ins) {inp st sa sb : Nat → Bool} (hsa : ∀ i, i < a.n1 → st i = sa i) (hsb : ∀ i, i < b.n1 → st (a.n1 + i) = sb i)
include hva hvb hi hsa hsb
theorem joint_cyc1 : ∀ k, k ≤ a.n2 → ∀ j, j < a.first + k → (joint a b).cyc inp st k (mj1 a b j) = a.cyc inp sa k j := by
  have hf := joint_first a b
  have hfa : a.first = 1 + a.ins.toNat + a.n1 := rfl
  have hji : (joint a b).ins = a.ins := rfl
  intro k
  induction k with
  | zero =>
    intro _ j hj
    have e : mj1 a b j = j := by unfold mj1; rw [if_neg (by omega)]
    rw [e]
    show (joint a b).head inp st j = a.head inp sa j
    unfold G.head
    rw [hji, hf, hfa]
    by_cases h0 : j = 0
    · rw [if_pos h0, if_pos h0]
    · rw [if_neg h0, if_neg h0]
      by_cases h1 : j ≤ a.ins.toNat
      · rw [if_pos h1, if_pos h1]
      · rw [if_neg h1, if_neg h1, if_pos (by omega), if_pos (by omega)]
        exact hsa _ (by omega)
  | succ k ih =>
    intro hk j hj
    rcases Nat.lt_or_ge j (a.first + k) with h | h
    · have e : mj1 a b j < (joint a b).first + k := by unfold mj1; split <;> omega
      rw [G.cyc_lo _ _ _ _ _ e, G.cyc_lo _ _ _ _ _ h, ih (by omega) j h]
    · obtain rfl : j = a.first + k := by omega
      have e : mj1 a b (a.first + k) = (joint a b).first + k := by unfold mj1; rw [if_pos (by omega)]; omega
      have hx := (hva.ands k (by omega))
      unfold G.AndOk at hx
      have h0 := hva.i0
      have ex : (joint a b).X k = mv1 a b (a.X k) := by simp only [joint, after]; rw [if_pos (by omega)]
      have ey : (joint a b).Y k = mv1 a b (a.Y k) := by simp only [joint, after]; rw [if_pos (by omega)]
      rw [e, G.cyc_at, G.cyc_at, ex, ey, lit_mv1 h0 (ih (by omega)) hx.1.1 (by omega), lit_mv1 h0 (ih (by omega)) hx.2.1 (by omega)]
theorem joint_cyc2 : ∀ k, k ≤ b.n2 → ∀ j, j < b.first + k → (joint a b).cyc inp st (a.n2 + k) (mj2 a b j) = b.cyc inp sb k j := by
  have hf := joint_first a b
  have hfb : b.first = 1 + b.ins.toNat + b.n1 := rfl
  have hji : (joint a b).ins = a.ins := rfl
  intro k
  induction k with
  | zero =>
    intro _ j hj
    have e : mj2 a b j < (joint a b).first + 0 := by unfold mj2; rw [hi] at hf; split <;> first | omega | (split <;> omega)
    rw [G.cyc_stable _ _ _ e (Nat.zero_le _)]
    show (joint a b).head inp st (mj2 a b j) = b.head inp sb j
    unfold G.head mj2
    rw [hji, hf, hfb, hi]
    by_cases h0 : j = 0
    · subst h0
      simp
    · by_cases h1 : j ≤ b.ins.toNat
      · rw [if_pos h1, if_neg h0, if_neg h0, if_pos h1, if_pos h1]
      · rw [if_neg h1, if_pos (show j ≤ b.ins.toNat + b.n1 by omega), if_neg (by omega), if_neg (by omega), if_pos (by omega), if_neg h0, if_neg h1, if_pos (by omega)]
        have := hsb (j - 1 - b.ins.toNat) (by omega)
        rw [← this]
        congr 1
        omega
  | succ k ih =>
    intro hk j hj
    rw [← Nat.add_assoc]
    rcases Nat.lt_or_ge j (b.first + k) with h | h
    · have e : mj2 a b j < (joint a b).first + (a.n2 + k) := by unfold mj2; rw [hi] at hf; split <;> first | omega | (split <;> omega)
      rw [G.cyc_lo _ _ _ _ _ e, G.cyc_lo _ _ _ _ _ h, ih (by omega) j h]
    · obtain rfl : j = b.first + k := by omega
      have e : mj2 a b (b.first + k) = (joint a b).first + (a.n2 + k) := by unfold mj2; rw [hi] at hf; rw [if_neg (by omega), if_neg (by omega)]; omega
      have hx := (hvb.ands k (by omega))
      unfold G.AndOk at hx
      have h0 := hvb.i0
      have ex : (joint a b).X (a.n2 + k) = mv2 a b (b.X k) := by simp only [joint, after]; rw [if_neg (by omega), Nat.add_sub_cancel_left]
      have ey : (joint a b).Y (a.n2 + k) = mv2 a b (b.Y k) := by simp only [joint, after]; rw [if_neg (by omega), Nat.add_sub_cancel_left]
      rw [e, G.cyc_at, G.cyc_at, ex, ey, lit_mv2 h0 (ih (by omega)) hx.1.1 (by omega), lit_mv2 h0 (ih (by omega)) hx.2.1 (by omega)]
theorem joint_lit1 {l : Int} (hl : a.LitOk l) : litF ((joint a b).vals inp st) (mv1 a b l) = litF (a.vals inp sa) l := by
  have hf := joint_first a b
  have h0 := hva.i0
  unfold G.LitOk at hl
  refine lit_mv1 (n := a.first + a.n2) h0 (fun j hj => ?_) hl.1 (by unfold G.first; omega)
  show (joint a b).cyc inp st (a.n2 + b.n2) _ = _
  rw [G.cyc_stable (k := a.n2) _ _ _ (by unfold mj1; unfold G.first at hj; split <;> omega) (by omega)]
  exact joint_cyc1 hva hvb hi hsa hsb a.n2 (Nat.le_refl _) j hj
theorem joint_lit2 {l : Int} (hl : b.LitOk l) : litF ((joint a b).vals inp st) (mv2 a b l) = litF (b.vals inp sb) l := by
  have h0 := hvb.i0
  unfold G.LitOk at hl
  refine lit_mv2 (n := b.first + b.n2) h0 (fun j hj => ?_) hl.1 (by unfold G.first; omega)
  exact joint_cyc2 hva hvb hi hsa hsb b.n2 (Nat.le_refl _) j hj
end
section
variable {a b : G} (hva : a.Valid) (hvb : b.Valid) (hi : a.ins = b.ins) (T : Nat → Nat → Bool)
include hva hvb hi
theorem joint_state : ∀ c, (∀ i, i < a.n1 → (joint a b).state T c i = a.state T c i) ∧ ∀ i, i < b.n1 → (joint a b).state T c (a.n1 + i) = b.state T c i
  | 0 => by
    refine ⟨fun i h => ?_, fun i h => ?_⟩
    · show after a.n1 a.I b.I i = a.I i
      unfold after; rw [if_pos h]
    · show after a.n1 a.I b.I (a.n1 + i) = b.I i
      unfold after; rw [if_neg (by omega), Nat.add_sub_cancel_left]
  | c + 1 => by
    obtain ⟨h1, h2⟩ := joint_state c
    refine ⟨fun i h => ?_, fun i h => ?_⟩
    · have e : (joint a b).L i = mv1 a b (a.L i) := by simp only [joint, after]; rw [if_pos h]
      show litF _ ((joint a b).L i) = litF _ (a.L i)
      rw [e]
      exact joint_lit1 hva hvb hi h1 h2 (hva.lat i h)
    · have e : (joint a b).L (a.n1 + i) = mv2 a b (b.L i) := by simp only [joint, after]; rw [if_neg (by omega), Nat.add_sub_cancel_left]
      show litF _ ((joint a b).L (a.n1 + i)) = litF _ (b.L i)
      rw [e]
      exact joint_lit2 hva hvb hi h1 h2 (hvb.lat i h)
theorem joint_row1 (c i : Nat) (h : i < a.n3) : (joint a b).row T c i = a.row T c i := by
  obtain ⟨h1, h2⟩ := joint_state hva hvb hi T c
  have e : (joint a b).O i = mv1 a b (a.O i) := by simp only [joint, after]; rw [if_pos h]
  show litF _ ((joint a b).O i) = litF _ (a.O i)
  rw [e]
  exact joint_lit1 hva hvb hi h1 h2 (hva.outs i h)
theorem joint_row2 (c i : Nat) (h : i < b.n3) : (joint a b).row T c (a.n3 + i) = b.row T c i := by
  obtain ⟨h1, h2⟩ := joint_state hva hvb hi T c
  have e : (joint a b).O (a.n3 + i) = mv2 a b (b.O i) := by simp only [joint, after]; rw [if_neg (by omega), Nat.add_sub_cancel_left]
  show litF _ ((joint a b).O (a.n3 + i)) = litF _ (b.O i)
  rw [e]
  exact joint_lit2 hva hvb hi h1 h2 (hvb.outs i h)
end
end Go.Proofs.Ytkanekacjefcbaa
namespace Go.Proofs.Ytkanekacjefcbaa
set_option linter.unusedSectionVars false

/-- a model out of the values of two frames and of what is new -/
def mvar (n m : Nat) (W0 W1 D : Nat → Bool) (v : Nat) : Bool := if v ≤ n then W0 (v - 1) else if v ≤ m then W1 (v - 1 - n) else D (v - m - 1)
def mdl (n m : Nat) (W0 W1 D : Nat → Bool) (l : Int) : Bool := if 0 < l then mvar n m W0 W1 D l.toNat else !mvar n m W0 W1 D (-l).toNat
theorem mdl_fair (n m : Nat) (W0 W1 D : Nat → Bool) : Fair (mdl n m W0 W1 D) := fun l hl => by
  unfold mdl
  by_cases h : 0 < l
  · rw [if_neg (by omega), if_pos h, Int.neg_neg]
  · rw [if_pos (by omega), if_neg h, Bool.not_not]
section
variable {n m : Nat} {W0 W1 D : Nat → Bool}
theorem mdl_lit {W : Nat → Bool} {l v : Int} (hv : 0 < v) (h : mvar n m W0 W1 D v.toNat = W (l.toNat / 2)) : mdl n m W0 W1 D (if l % 2 = 1 then -v else v) = litF W l := by
  unfold litF mdl
  by_cases hp : l % 2 = 1
  · have e : (l % 2 == 1) = true := by simp [hp]
    rw [if_pos hp, if_neg (by omega), Int.neg_neg, h, e]
    cases W (l.toNat / 2) <;> rfl
  · have e : (l % 2 == 1) = false := by simp [hp]
    rw [if_neg hp, if_pos hv, h, e]
    cases W (l.toNat / 2) <;> rfl
theorem mdl_at0 {l : Int} (h0 : 0 ≤ l) (h1 : l < 2 * n) : mdl n m W0 W1 D (atC n 0 l) = litF W0 l := by
  refine mdl_lit (v := 0 * (n : Int) + l / 2 + 1) (by omega) ?_
  unfold mvar
  rw [if_pos (by omega)]
  congr 1
  omega
theorem mdl_at1 {l : Int} (hm : m = 2 * n) (h0 : 0 ≤ l) (h1 : l < 2 * n) : mdl n m W0 W1 D (atC n 1 l) = litF W1 l := by
  refine mdl_lit (v := 1 * (n : Int) + l / 2 + 1) (by omega) ?_
  unfold mvar
  rw [if_neg (by omega), if_pos (by omega)]
  congr 1
  omega
theorem mdl_new {v : Int} (i : Nat) (hm : n ≤ m) (hv : v = m + 1 + i) : mdl n m W0 W1 D v = D i := by
  unfold mdl mvar
  rw [if_pos (by omega), if_neg (by omega), if_neg (by omega)]
  congr 1
  omega
end
theorem atC_ne {n fr l : Int} (hn : 0 ≤ n) (hf : 0 ≤ fr) (h0 : 0 ≤ l) : atC n fr l ≠ 0 := by
  have := Int.mul_nonneg hf hn
  unfold atC
  split <;> omega
theorem up_mem {f : Nat → List (List Int)} {c : List Int} : ∀ {k : Nat}, c ∈ upC f k → ∃ i, i < k ∧ c ∈ f i
  | 0, h => by simp [upC] at h
  | k + 1, h => by
    rcases List.mem_append.1 h with h | h
    · obtain ⟨i, h1, h2⟩ := up_mem h
      exact ⟨i, by omega, h2⟩
    · exact ⟨k, by omega, h⟩
theorem vals_gate (g : G) (inp st : Nat → Bool) {i : Nat} (h0 : 0 ≤ g.ins) (hi : i < g.n2) (ha : g.AndOk i) : g.vals inp st (g.first + i) = (litF (g.vals inp st) (g.X i) && litF (g.vals inp st) (g.Y i)) := by
  unfold G.vals
  unfold G.AndOk at ha
  have e : ∀ l : Int, 0 ≤ l → l < 2 * (1 + g.ins + g.n1 + i) → litF (g.cyc inp st i) l = litF (g.cyc inp st g.n2) l := fun l h1 h2 =>
    litF_congr (g.first + i) (fun j hj => (g.cyc_stable inp st hj (by omega)).symm) h1 (by unfold G.first; omega)
  rw [g.cyc_stable inp st (k := i + 1) (by omega) (by omega), G.cyc_at, e _ ha.1.1 ha.1.2, e _ ha.2.1 ha.2.2]
theorem vals_st (g : G) (inp st : Nat → Bool) {i : Nat} (hi : i < g.n1) : g.vals inp st (g.ins.toNat + 1 + i) = st i := by
  unfold G.vals
  rw [g.cyc_stable inp st (k := 0) (by unfold G.first; omega) (Nat.zero_le _)]
  exact g.head_st inp st hi

/-- a graph whose literals are in reach -/
structure G.Sane (g : G) (n : Nat) : Prop where
  ins : 0 ≤ g.ins
  vars : g.vars = n
  ands : ∀ i, i < g.n2 → g.AndOk i
  lat : ∀ i, i < g.n1 → g.LitOk (g.L i)
def Same (P Q : Nat → Int) (np : Nat) (V : Nat → Bool) : Prop := ∀ i, i < np → litF V (P i) = litF V (Q i)
def InR (n : Nat) (P : Nat → Int) (np : Nat) : Prop := ∀ i, i < np → 0 ≤ P i ∧ P i < 2 * n

section
variable {g : G} {n : Nat} (h : g.Sane n)
include h
/-- the clauses of one frame, its literals being read as W has them -/
theorem meets_frame {S : Int → Bool} (hS : Fair S) {fr : Int} (hf : 0 ≤ fr) {inp st : Nat → Bool} (hat : ∀ l : Int, 0 ≤ l → l < 2 * n → S (atC n fr l) = litF (g.vals inp st) l) : ∀ c, c ∈ frameC g fr → Meets S c := by
  intro c hc
  have h0 := h.ins
  have hv := h.vars
  have hn : (n : Int) = 1 + g.ins + g.n1 + g.n2 := by rw [← hv]; rfl
  unfold frameC at hc
  rw [hv] at hc
  rcases List.mem_cons.1 hc with rfl | hc
  · refine ⟨_, List.mem_singleton.2 rfl, ?_⟩
    rw [hat 1 (by omega) (by omega)]
    show (g.vals inp st 0 != _) = true
    rw [G.vals_zero]
    rfl
  · obtain ⟨i, hi, hc⟩ := up_mem hc
    have ha := h.ands i hi
    have hg := vals_gate g inp st h0 hi ha
    unfold G.AndOk at ha
    have hx := hat (2 * (1 + g.ins + g.n1 + i)) (by omega) (by omega)
    have hp := hat (g.X i) ha.1.1 (by omega)
    have hq := hat (g.Y i) ha.2.1 (by omega)
    have ex : litF (g.vals inp st) (2 * (1 + g.ins + g.n1 + i)) = g.vals inp st (g.first + i) := by
      unfold litF
      have e1 : (2 * (1 + g.ins + g.n1 + i) % 2 == 1) = false := by rw [beq_eq_false_iff_ne]; omega
      have e2 : (2 * (1 + g.ins + g.n1 + i)).toNat / 2 = g.first + i := by unfold G.first; omega
      rw [e1, e2]
      cases g.vals inp st (g.first + i) <;> rfl
    rw [ex, hg] at hx
    have nx : S (-atC n fr (2 * (1 + g.ins + g.n1 + i))) = !S (atC n fr (2 * (1 + g.ins + g.n1 + i))) := hS _ (atC_ne (by omega) hf (by omega))
    have np : S (-atC n fr (g.X i)) = !S (atC n fr (g.X i)) := hS _ (atC_ne (by omega) hf ha.1.1)
    have nq : S (-atC n fr (g.Y i)) = !S (atC n fr (g.Y i)) := hS _ (atC_ne (by omega) hf ha.2.1)
    rw [hx] at nx
    rw [hp] at np
    rw [hq] at nq
    simp only [gateC, hv] at hc
    generalize litF (g.vals inp st) (g.X i) = u at *
    generalize litF (g.vals inp st) (g.Y i) = v at *
    simp only [List.mem_cons, List.not_mem_nil, or_false] at hc
    rcases hc with rfl | rfl | rfl
    · cases u
      · exact ⟨_, List.mem_cons_self .., nx⟩
      · exact ⟨_, List.mem_cons_of_mem _ (List.mem_singleton.2 rfl), hp⟩
    · cases v
      · exact ⟨_, List.mem_cons_self .., by rw [nx]; cases u <;> rfl⟩
      · exact ⟨_, List.mem_cons_of_mem _ (List.mem_singleton.2 rfl), hq⟩
    · cases u
      · exact ⟨_, List.mem_cons_of_mem _ (List.mem_cons_self ..), np⟩
      · cases v
        · exact ⟨_, List.mem_cons_of_mem _ (List.mem_cons_of_mem _ (List.mem_singleton.2 rfl)), nq⟩
        · exact ⟨_, List.mem_cons_self .., hx⟩
/-- what is unlike: some pair is, and the new variables tell which -/
theorem meets_unlike {S : Int → Bool} (hS : Fair S) {fr frs : Int} (hf : 0 ≤ fr) (hfs : 0 ≤ frs) {V D : Nat → Bool} {P Q : Nat → Int} {np : Nat} (hP : InR n P np) (hQ : InR n Q np)
    (hat : ∀ l : Int, 0 ≤ l → l < 2 * n → S (atC n fr l) = litF V l) (hd : ∀ i, i < np → S (frs * n + 1 + i) = D i) (hD : ∀ i, D i = (litF V (P i) != litF V (Q i))) (hno : ¬ Same P Q np V) : ∀ c, c ∈ unlikeC g fr frs np P Q → Meets S c := by
  intro c hc
  have hv := h.vars
  have hpos := Int.mul_nonneg hfs (show (0 : Int) ≤ n by omega)
  unfold unlikeC at hc
  rcases List.mem_append.1 hc with hc | hc
  · obtain ⟨i, hi, hc⟩ := up_mem hc
    have p := hP i hi
    have q := hQ i hi
    have hx := hat _ p.1 p.2
    have hy := hat _ q.1 q.2
    have nx : S (-atC n fr (P i)) = !S (atC n fr (P i)) := hS _ (atC_ne (by omega) hf p.1)
    have ny : S (-atC n fr (Q i)) = !S (atC n fr (Q i)) := hS _ (atC_ne (by omega) hf q.1)
    have nd : S (-(frs * n + 1 + i)) = !S (frs * n + 1 + i) := hS _ (by omega)
    rw [hx] at nx
    rw [hy] at ny
    rw [hd i hi, hD i] at nd
    simp only [diffC, newV, hv, List.mem_cons, List.not_mem_nil, or_false] at hc
    generalize litF V (P i) = u at *
    generalize litF V (Q i) = v at *
    rcases hc with rfl | rfl
    · cases u
      · cases v
        · exact ⟨_, List.mem_cons_self .., nd⟩
        · exact ⟨_, List.mem_cons_of_mem _ (List.mem_cons_of_mem _ (List.mem_singleton.2 rfl)), hy⟩
      · exact ⟨_, List.mem_cons_of_mem _ (List.mem_cons_self ..), hx⟩
    · cases u
      · exact ⟨_, List.mem_cons_of_mem _ (List.mem_cons_self ..), nx⟩
      · cases v
        · exact ⟨_, List.mem_cons_of_mem _ (List.mem_cons_of_mem _ (List.mem_singleton.2 rfl)), ny⟩
        · exact ⟨_, List.mem_cons_self .., nd⟩
  · obtain rfl := List.mem_singleton.1 hc
    obtain ⟨i, hi⟩ := Classical.not_forall.1 hno
    obtain ⟨hi, hne⟩ := Classical.not_imp.1 hi
    refine ⟨newV g frs i, List.mem_map.2 ⟨i, List.mem_range.2 hi, rfl⟩, ?_⟩
    unfold newV
    rw [hv, hd i hi, hD i]
    simpa using hne
/-- the pairs are alike in a frame -/
theorem meets_same {S : Int → Bool} (hS : Fair S) {V : Nat → Bool} {P Q : Nat → Int} {np : Nat} (hP : InR n P np) (hQ : InR n Q np) (hat : ∀ l : Int, 0 ≤ l → l < 2 * n → S (atC n 0 l) = litF V l) (hs : Same P Q np V) : ∀ c, c ∈ upC (sameC g 0 P Q) np → Meets S c := by
  intro c hc
  have hv := h.vars
  obtain ⟨i, hi, hc⟩ := up_mem hc
  have p := hP i hi
  have q := hQ i hi
  have hx := hat _ p.1 p.2
  have hy := hat _ q.1 q.2
  have nx : S (-atC n 0 (P i)) = !S (atC n 0 (P i)) := hS _ (atC_ne (by omega) (by omega) p.1)
  have ny : S (-atC n 0 (Q i)) = !S (atC n 0 (Q i)) := hS _ (atC_ne (by omega) (by omega) q.1)
  rw [hx] at nx
  rw [hy] at ny
  rw [← hs i hi] at hy ny
  simp only [sameC, hv, List.mem_cons, List.not_mem_nil, or_false] at hc
  generalize litF V (P i) = u at *
  rcases hc with rfl | rfl
  · cases u
    · exact ⟨_, List.mem_cons_self .., nx⟩
    · exact ⟨_, List.mem_cons_of_mem _ (List.mem_singleton.2 rfl), hy⟩
  · cases u
    · exact ⟨_, List.mem_cons_of_mem _ (List.mem_singleton.2 rfl), ny⟩
    · exact ⟨_, List.mem_cons_self .., hx⟩
theorem lit_latch (inp st : Nat → Bool) {i : Nat} (hi : i < g.n1) : litF (g.vals inp st) (2 * (1 + g.ins + i)) = st i := by
  have h0 := h.ins
  rw [← vals_st g inp st hi]
  unfold litF
  have e1 : (2 * (1 + g.ins + i) % 2 == 1) = false := by rw [beq_eq_false_iff_ne]; omega
  have e2 : (2 * (1 + g.ins + (i : Int))).toNat / 2 = g.ins.toNat + 1 + i := by omega
  rw [e1, e2]
  cases g.vals inp st (g.ins.toNat + 1 + i) <;> rfl
theorem base_sound {V : Int} {m np : Nat} {P Q : Nat → Int} {St : List (List Int)} (hP : InR n P np) (hQ : InR n Q np) (hc : CheckP V (formC g m np P Q 0) St) (inp : Nat → Bool) : Same P Q np (g.vals inp g.I) := by
  refine Classical.byContradiction fun hno => ?_
  have hv := h.vars
  have h0 := h.ins
  have hn : (n : Int) = 1 + g.ins + g.n1 + g.n2 := by rw [← hv]; rfl
  have hS := mdl_fair n n (g.vals inp g.I) (g.vals inp g.I) (fun i => litF (g.vals inp g.I) (P i) != litF (g.vals inp g.I) (Q i))
  have hat : ∀ l : Int, 0 ≤ l → l < 2 * n → mdl n n (g.vals inp g.I) (g.vals inp g.I) (fun i => litF (g.vals inp g.I) (P i) != litF (g.vals inp g.I) (Q i)) (atC n 0 l) = litF (g.vals inp g.I) l := fun l h1 h2 => mdl_at0 h1 h2
  refine check_sound hc hS (fun c hm => ?_)
  unfold formC at hm
  rw [if_pos rfl] at hm
  rcases List.mem_append.1 hm with hm | hm
  · rcases List.mem_append.1 hm with hm | hm
    · exact meets_frame h hS (by omega) hat c hm
    · obtain ⟨i, hi, hm⟩ := up_mem hm
      have hx := hat (2 * (1 + g.ins + i)) (by omega) (by omega)
      rw [lit_latch h inp g.I hi] at hx
      have nx := hS (atC n 0 (2 * (1 + g.ins + i))) (atC_ne (by omega) (by omega) (by omega))
      rw [hx] at nx
      simp only [initC, hv, List.mem_cons, List.not_mem_nil, or_false] at hm
      subst hm
      refine ⟨_, List.mem_cons_self .., ?_⟩
      by_cases hI : g.I i = true
      · rw [if_pos hI, hx, hI]
      · rw [if_neg hI, nx]
        simpa using hI
  · exact meets_unlike h hS (by omega) (by omega) hP hQ hat (fun i _ => mdl_new i (Nat.le_refl _) (by omega)) (fun _ => rfl) hno c hm
theorem step_sound {V : Int} {m np : Nat} {P Q : Nat → Int} {St : List (List Int)} (hP : InR n P np) (hQ : InR n Q np) (hc : CheckP V (formC g m np P Q 1) St) (inp inp' st : Nat → Bool) (hs : Same P Q np (g.vals inp st)) : Same P Q np (g.vals inp' (fun i => litF (g.vals inp st) (g.L i))) := by
  refine Classical.byContradiction fun hno => ?_
  have hv := h.vars
  have h0 := h.ins
  have hn : (n : Int) = 1 + g.ins + g.n1 + g.n2 := by rw [← hv]; rfl
  generalize hW : g.vals inp' (fun i => litF (g.vals inp st) (g.L i)) = W1 at *
  have hS := mdl_fair n (2 * n) (g.vals inp st) W1 (fun i => litF W1 (P i) != litF W1 (Q i))
  have hat0 : ∀ l : Int, 0 ≤ l → l < 2 * n → mdl n (2 * n) (g.vals inp st) W1 (fun i => litF W1 (P i) != litF W1 (Q i)) (atC n 0 l) = litF (g.vals inp st) l := fun l h1 h2 => mdl_at0 h1 h2
  have hat1 : ∀ l : Int, 0 ≤ l → l < 2 * n → mdl n (2 * n) (g.vals inp st) W1 (fun i => litF W1 (P i) != litF W1 (Q i)) (atC n 1 l) = litF W1 l := fun l h1 h2 => mdl_at1 rfl h1 h2
  refine check_sound hc hS (fun c hm => ?_)
  unfold formC at hm
  rw [if_neg (by omega), if_pos rfl] at hm
  rcases List.mem_append.1 hm with hm | hm
  · rcases List.mem_append.1 hm with hm | hm
    · rcases List.mem_append.1 hm with hm | hm
      · rcases List.mem_append.1 hm with hm | hm
        · exact meets_frame h hS (by omega) hat0 c hm
        · exact meets_frame h hS (by omega) (by rw [← hW] at hat1; rw [← hW]; exact hat1) c hm
      · obtain ⟨i, hi, hm⟩ := up_mem hm
        have hl := h.lat i hi
        unfold G.LitOk at hl
        have hx := hat1 (2 * (1 + g.ins + i)) (by omega) (by omega)
        have hy := hat0 (g.L i) hl.1 (by omega)
        rw [← hW, lit_latch h inp' _ hi, hW] at hx
        have nx := hS (atC n 1 (2 * (1 + g.ins + i))) (atC_ne (by omega) (by omega) (by omega))
        have ny := hS (atC n 0 (g.L i)) (atC_ne (by omega) (by omega) hl.1)
        rw [hx] at nx
        rw [hy] at ny
        simp only [nextC, hv, List.mem_cons, List.not_mem_nil, or_false] at hm
        generalize litF (g.vals inp st) (g.L i) = u at *
        rcases hm with rfl | rfl
        · cases u
          · exact ⟨_, List.mem_cons_self .., nx⟩
          · exact ⟨_, List.mem_cons_of_mem _ (List.mem_singleton.2 rfl), hy⟩
        · cases u
          · exact ⟨_, List.mem_cons_of_mem _ (List.mem_singleton.2 rfl), ny⟩
          · exact ⟨_, List.mem_cons_self .., hx⟩
    · exact meets_same h hS hP hQ hat0 hs c hm
  · exact meets_unlike h hS (by omega) (by omega) hP hQ hat1 (fun i _ => mdl_new i (by omega) (by omega)) (fun _ => rfl) hno c hm
theorem outlet_sound {V : Int} {m np : Nat} {P Q : Nat → Int} {St : List (List Int)} (hP : InR n P np) (hQ : InR n Q np) (hO : InR n g.O m) (hO2 : InR n (fun i => g.O (m + i)) m) (hc : CheckP V (formC g m np P Q 2) St) (inp st : Nat → Bool) (hs : Same P Q np (g.vals inp st)) : Same g.O (fun i => g.O (m + i)) m (g.vals inp st) := by
  refine Classical.byContradiction fun hno => ?_
  have hS := mdl_fair n n (g.vals inp st) (g.vals inp st) (fun i => litF (g.vals inp st) (g.O i) != litF (g.vals inp st) (g.O (m + i)))
  have hat : ∀ l : Int, 0 ≤ l → l < 2 * n → mdl n n (g.vals inp st) (g.vals inp st) (fun i => litF (g.vals inp st) (g.O i) != litF (g.vals inp st) (g.O (m + i))) (atC n 0 l) = litF (g.vals inp st) l := fun l h1 h2 => mdl_at0 h1 h2
  refine check_sound hc hS (fun c hm => ?_)
  unfold formC at hm
  rw [if_neg (by omega), if_neg (by omega)] at hm
  rcases List.mem_append.1 hm with hm | hm
  · rcases List.mem_append.1 hm with hm | hm
    · exact meets_frame h hS (by omega) hat c hm
    · exact meets_same h hS hP hQ hat hs c hm
  · exact meets_unlike h hS (by omega) (by omega) hO hO2 hat (fun i _ => mdl_new i (Nat.le_refl _) (by omega)) (fun _ => rfl) hno c hm
end
end Go.Proofs.Ytkanekacjefcbaa
