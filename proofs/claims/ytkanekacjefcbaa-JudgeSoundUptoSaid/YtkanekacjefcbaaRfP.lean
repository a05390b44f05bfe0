/- Unit propagation in plain Lean: whatever order is taken, a clash is met or none. No condition. -/
import Derived.Test.YtkanekacjefcbaaBase
namespace Go.Proofs.Ytkanekacjefcbaa

/-- what a clause has open: n unlike literals, x the one where there is one -/
def OpenIs (S : Int → Bool) (c : List Int) (x n : Int) : Prop :=
  (n = 0 ∧ ∀ l, l ∈ c → S (-l) = true) ∨ (n = 1 ∧ x ∈ c ∧ S (-x) = false ∧ ∀ l, l ∈ c → S (-l) = true ∨ l = x) ∨
    (2 ≤ n ∧ ∃ a b, a ∈ c ∧ b ∈ c ∧ a ≠ b ∧ S (-a) = false ∧ S (-b) = false)
def put1 (S : Int → Bool) (x : Int) : Int → Bool := fun y => S y || y == x
inductive Reach (cs : List (List Int)) (S : Int → Bool) : (Int → Bool) → Prop where
  | start : Reach cs S S
  | step {T : Int → Bool} {c : List Int} {x : Int} : Reach cs S T → c ∈ cs → x ∈ c → T (-x) = false → (∀ l, l ∈ c → T (-l) = true ∨ l = x) → Reach cs S (put1 T x)
def Clash (cs : List (List Int)) (T : Int → Bool) : Prop := ∃ c, c ∈ cs ∧ ∀ l, l ∈ c → T (-l) = true
/-- a clause that asks for nothing more -/
def Calm (T : Int → Bool) (c : List Int) : Prop :=
  (∃ x, x ∈ c ∧ T x = true ∧ T (-x) = false ∧ ∀ l, l ∈ c → T (-l) = true ∨ l = x) ∨ ∃ a b, a ∈ c ∧ b ∈ c ∧ a ≠ b ∧ T (-a) = false ∧ T (-b) = false
theorem reach_under {cs : List (List Int)} {S T1 T2 : Int → Bool} (hc : ∀ c, c ∈ cs → Calm T1 c) (hs : ∀ y, S y = true → T1 y = true) (h : Reach cs S T2) : ∀ y, T2 y = true → T1 y = true := by
  induction h with
  | start => exact hs
  | @step T c x _ hm hx hn hall ih =>
    intro y hy
    simp only [put1, Bool.or_eq_true, beq_iff_eq] at hy
    rcases hy with hy | rfl
    · exact ih y hy
    · rcases hc c hm with ⟨z, hz, hzt, hzf, _⟩ | ⟨a, b, ha, hb, hab, haf, hbf⟩
      · rcases hall z hz with h | h
        · have := ih _ h; rw [hzf] at this; cases this
        · rw [← h]; exact hzt
      · have ea : a = y := (hall a ha).elim (fun h => by have := ih _ h; rw [haf] at this; cases this) id
        have eb : b = y := (hall b hb).elim (fun h => by have := ih _ h; rw [hbf] at this; cases this) id
        exact absurd (ea.trans eb.symm) hab
theorem no_clash {cs : List (List Int)} {S T1 T2 : Int → Bool} (hc : ∀ c, c ∈ cs → Calm T1 c) (hs : ∀ y, S y = true → T1 y = true) (h : Reach cs S T2) : ¬ Clash cs T2 := fun ⟨c, hm, hall⟩ => by
  have hu := reach_under hc hs h
  rcases hc c hm with ⟨z, hz, _, hzf, _⟩ | ⟨a, _, ha, _, _, haf, _⟩
  · have := hu _ (hall z hz); rw [hzf] at this; cases this
  · have := hu _ (hall a ha); rw [haf] at this; cases this

/-- the literals of a clause held for false -/
def neg0 (c : List Int) : Int → Bool := fun y => c.contains (-y)
theorem neg0_iff {c : List Int} {y : Int} : neg0 c y = true ↔ -y ∈ c := by simp [neg0]
def Taut (c : List Int) : Prop := ∃ l, l ∈ c ∧ -l ∈ c
/-- a clause follows by unit propagation -/
def FollowsP (cs : List (List Int)) (c : List Int) : Prop := Taut c ∨ ∃ T, Reach cs (neg0 c) T ∧ Clash cs T
theorem follows_no {cs : List (List Int)} {c : List Int} {T : Int → Bool} (ht : ¬ Taut c) (hs : ∀ y, neg0 c y = true → T y = true) (hc : ∀ d, d ∈ cs → Calm T d) : ¬ FollowsP cs c := fun h => by
  rcases h with h | ⟨T2, hr, hcl⟩
  · exact ht h
  · exact no_clash hc hs hr hcl
theorem follows_taut {cs : List (List Int)} {c : List Int} {l : Int} (h1 : l ∈ c) (h2 : -l ∈ c) : FollowsP cs c := .inl ⟨l, h1, h2⟩
theorem follows_clash {cs : List (List Int)} {c d : List Int} {T : Int → Bool} (hr : Reach cs (neg0 c) T) (hd : d ∈ cs) (ho : ∀ l, l ∈ d → T (-l) = true) : FollowsP cs c := .inr ⟨T, hr, d, hd, ho⟩

/-- a clause is one of this many variables -/
def LitsOk (vars : Int) (c : List Int) : Prop := ∀ l, l ∈ c → l ≠ 0 ∧ -vars ≤ l ∧ l ≤ vars
/-- Check's answer -/
structure CheckP (vars : Int) (F St : List (List Int)) : Prop where
  v0 : 0 ≤ vars
  v1 : vars ≤ 100000
  ne : St ≠ []
  last : St.getLast? = some []
  f : ∀ c, c ∈ F → LitsOk vars c
  s : ∀ (i : Nat) (c : List Int), St[i]? = some c → LitsOk vars c ∧ FollowsP (F ++ St.take i) c

/-! ### What has not been looked at since a literal was put -/
/-- every clause is calm, or waits: it has a literal whose opposite waits in the queue, or stands among the units that are still to be looked at -/
def Pending (cs : List (List Int)) (T : Int → Bool) (todo : List Int) (U : Nat → Prop) : Prop := ∀ (i : Nat) (c : List Int), cs[i]? = some c → Calm T c ∨ (∃ l, l ∈ todo ∧ -l ∈ c) ∨ U i
theorem Calm.put {T : Int → Bool} {c : List Int} {x : Int} (h : Calm T c) : Calm (put1 T x) c ∨ -x ∈ c := by
  by_cases hx : -x ∈ c
  · exact .inr hx
  · refine .inl ?_
    have hne : ∀ l, l ∈ c → put1 T x (-l) = T (-l) := fun l hl => by
      have : (-l == x) = false := by
        rw [beq_eq_false_iff_ne]
        intro e
        exact hx (by rw [← e]; simpa using hl)
      simp [put1, this]
    rcases h with ⟨z, hz, h1, h2, h3⟩ | ⟨a, b, ha, hb, hab, h1, h2⟩
    · exact .inl ⟨z, hz, by simp [put1, h1], by rw [hne z hz]; exact h2, fun l hl => by rw [hne l hl]; exact h3 l hl⟩
    · exact .inr ⟨a, b, ha, hb, hab, by rw [hne a ha]; exact h1, by rw [hne b hb]; exact h2⟩
/-- a literal is put at the queue's end -/
theorem Pending.put {cs : List (List Int)} {T : Int → Bool} {todo : List Int} {U : Nat → Prop} (h : Pending cs T todo U) (x : Int) : Pending cs (put1 T x) (todo ++ [x]) U := fun i c hc => by
  rcases h i c hc with h | ⟨l, h1, h2⟩ | h
  · rcases h.put (x := x) with h | h
    · exact .inl h
    · exact .inr (.inl ⟨x, by simp, h⟩)
  · exact .inr (.inl ⟨l, by simp [h1], h2⟩)
  · exact .inr (.inr h)
theorem Calm.of_open {T : Int → Bool} {c : List Int} {x n : Int} (h : OpenIs T c x n) (h0 : n ≠ 0) (h1 : n = 1 → T x = true) : Calm T c := by
  rcases h with ⟨e, _⟩ | ⟨e, hx, hf, hall⟩ | ⟨_, a, b, r⟩
  · exact absurd e h0
  · exact .inl ⟨x, hx, h1 e, hf, hall⟩
  · exact .inr ⟨a, b, r⟩
theorem put1_self (T : Int → Bool) (x : Int) : put1 T x x = true := by simp [put1]
theorem put1_of {T : Int → Bool} {x : Int} (h : T x = true) : put1 T x = T := by
  funext y
  by_cases e : y = x
  · subst e; simp [put1, h]
  · simp [put1, e]
/-- a clause whose one open literal has been put is calm -/
theorem Calm.of_put {T : Int → Bool} {c : List Int} {x : Int} (hz : ∀ l, l ∈ c → l ≠ 0) (hx : x ∈ c) (hf : T (-x) = false) (hall : ∀ l, l ∈ c → T (-l) = true ∨ l = x) : Calm (put1 T x) c :=
  .inl ⟨x, hx, put1_self T x, by
    have : (-x == x) = false := by rw [beq_eq_false_iff_ne]; have := hz x hx; omega
    simp [put1, hf, this], fun l hl => (hall l hl).imp (fun h => by simp [put1, h]) id⟩
theorem Pending.calm {cs : List (List Int)} {T : Int → Bool} (h : Pending cs T [] (fun _ => False)) : ∀ c, c ∈ cs → Calm T c := fun c hc => by
  obtain ⟨i, hi, e⟩ := List.mem_iff_getElem.1 hc
  rcases h i c (by rw [List.getElem?_eq_getElem hi, e]) with h | ⟨l, h1, _⟩ | h
  · exact h
  · simp at h1
  · exact h.elim
/-- at the start: the clauses with at most one literal are the units; the others are calm, or have a literal that was put -/
theorem Pending.start {cs : List (List Int)} {c0 : List Int} {todo : List Int} {U : Nat → Prop} (htodo : ∀ y, neg0 c0 y = true → y ∈ todo)
    (hU : ∀ (i : Nat) (c : List Int), cs[i]? = some c → U i ∨ ∃ a b, a ∈ c ∧ b ∈ c ∧ a ≠ b) : Pending cs (neg0 c0) todo U := fun i c hc => by
  rcases hU i c hc with h | ⟨a, b, ha, hb, hab⟩
  · exact .inr (.inr h)
  · by_cases h1 : neg0 c0 (-a) = true
    · exact .inr (.inl ⟨-a, htodo _ h1, by simpa using ha⟩)
    · by_cases h2 : neg0 c0 (-b) = true
      · exact .inr (.inl ⟨-b, htodo _ h2, by simpa using hb⟩)
      · exact .inl (.inr ⟨a, b, ha, hb, hab, by simpa using h1, by simpa using h2⟩)
end Go.Proofs.Ytkanekacjefcbaa
