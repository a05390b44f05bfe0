/- What Clean leaves of a graph of and-gates, in plain Lean: which variables are needed, where they go, the clean graph. No condition. -/
import Derived.Test.YtdhgbikmaglgpaaGPure
namespace Go.Proofs.Ytdhgbikmaglgpaa

/-- one place marked -/
def marked (V : Nat → Bool) (x j : Nat) : Bool := if j = x then true else V j
theorem marked_self (V : Nat → Bool) (x : Nat) : marked V x x = true := if_pos rfl
theorem marked_keep {V : Nat → Bool} {x j : Nat} (h : V j = true) : marked V x j = true := by unfold marked; split <;> simp [h]
theorem marked_far {V : Nat → Bool} {x j : Nat} (h : j ≠ x) : marked V x j = V j := if_neg h

/-- marked behind the first k outputs, latches -/
def G.needO (g : G) : Nat → Nat → Bool
  | 0 => fun _ => false
  | k + 1 => marked (g.needO k) ((g.O k).toNat / 2)
def G.needL (g : G) : Nat → Nat → Bool
  | 0 => g.needO g.n3
  | k + 1 => marked (g.needL k) ((g.L k).toNat / 2)
/-- .. behind k gates, from the last on -/
def G.needA (g : G) : Nat → Nat → Bool
  | 0 => g.needL g.n1
  | k + 1 => if g.needA k (g.first + (g.n2 - 1 - k)) then marked (marked (g.needA k) ((g.X (g.n2 - 1 - k)).toNat / 2)) ((g.Y (g.n2 - 1 - k)).toNat / 2) else g.needA k
def G.need (g : G) : Nat → Bool := g.needA g.n2
/-- how many of the first k gates are needed -/
def G.cnt (g : G) : Nat → Nat
  | 0 => 0
  | k + 1 => g.cnt k + if g.need (g.first + k) then 1 else 0
/-- where a variable goes, where a literal goes -/
def G.pos (g : G) (j : Nat) : Nat := if j < g.first then j else g.first + g.cnt (j - g.first)
def G.mv (g : G) (l : Int) : Int := 2 * (g.pos (l.toNat / 2) : Int) + l % 2
/-- the literals that are left, of the first k gates -/
def G.cx (g : G) (F : Nat → Int) : Nat → Nat → Int
  | 0 => fun _ => 0
  | k + 1 => fun j => if g.need (g.first + k) then (if j = g.cnt k then g.mv (F k) else g.cx F k j) else g.cx F k j
def G.clean (g : G) : G := { ins := g.ins, n1 := g.n1, n2 := g.cnt g.n2, n3 := g.n3, L := fun k => g.mv (g.L k), I := g.I, X := g.cx g.X g.n2, Y := g.cx g.Y g.n2, O := fun k => g.mv (g.O k) }
/-- the program's own table of literals, behind k gates -/
def G.to (g : G) (k j : Nat) : Int := if j < g.first then 2 * (j : Int) else if j < g.first + k && g.need j then 2 * (g.pos j : Int) else 0

theorem G.cnt_le (g : G) : ∀ k, g.cnt k ≤ k
  | 0 => Nat.le_refl _
  | k + 1 => by have := g.cnt_le k; simp only [G.cnt]; split <;> omega
theorem G.cnt_mono (g : G) {k m : Nat} (h : k ≤ m) : g.cnt k ≤ g.cnt m := by
  induction m with
  | zero => have : k = 0 := by omega
            subst this; exact Nat.le_refl _
  | succ m ih =>
    by_cases e : k = m + 1
    · subst e; exact Nat.le_refl _
    · have := ih (by omega)
      simp only [G.cnt]; omega
theorem G.pos_le (g : G) (j : Nat) : g.pos j ≤ j := by
  unfold G.pos
  split
  · exact Nat.le_refl _
  · have := g.cnt_le (j - g.first); omega
theorem G.cnt_yes (g : G) {k : Nat} (h : g.need (g.first + k) = true) : g.cnt (k + 1) = g.cnt k + 1 := by simp [G.cnt, h]
theorem G.cnt_no (g : G) {k : Nat} (h : g.need (g.first + k) = false) : g.cnt (k + 1) = g.cnt k := by simp [G.cnt, h]
theorem G.cx_yes (g : G) (F : Nat → Int) {k : Nat} (h : g.need (g.first + k) = true) : g.cx F (k + 1) (g.cnt k) = g.mv (F k) := by simp [G.cx, h]
theorem G.cx_lo (g : G) (F : Nat → Int) {k j : Nat} (h : j < g.cnt k) : g.cx F (k + 1) j = g.cx F k j := by
  simp only [G.cx]
  split
  · rw [if_neg (by omega)]
  · rfl
theorem G.cx_no (g : G) (F : Nat → Int) {k : Nat} (h : g.need (g.first + k) = false) : g.cx F (k + 1) = g.cx F k := by
  funext j; simp [G.cx, h]
theorem G.pos_gate (g : G) (k : Nat) : g.pos (g.first + k) = g.first + g.cnt k := by
  unfold G.pos; rw [if_neg (by omega), Nat.add_sub_cancel_left]

theorem G.needA_keep (g : G) {k m j : Nat} (hkm : k ≤ m) (h : g.needA k j = true) : g.needA m j = true := by
  induction m with
  | zero => have : k = 0 := by omega
            subst this; exact h
  | succ m ih =>
    by_cases e : k = m + 1
    · subst e; exact h
    · have := ih (by omega)
      simp only [G.needA]
      split
      · exact marked_keep (marked_keep this)
      · exact this
theorem G.needL_keep (g : G) {k m j : Nat} (hkm : k ≤ m) (h : g.needL k j = true) : g.needL m j = true := by
  induction m with
  | zero => have : k = 0 := by omega
            subst this; exact h
  | succ m ih =>
    by_cases e : k = m + 1
    · subst e; exact h
    · exact marked_keep (ih (by omega))
theorem G.needO_keep (g : G) {k m j : Nat} (hkm : k ≤ m) (h : g.needO k j = true) : g.needO m j = true := by
  induction m with
  | zero => have : k = 0 := by omega
            subst this; exact h
  | succ m ih =>
    by_cases e : k = m + 1
    · subst e; exact h
    · exact marked_keep (ih (by omega))
theorem G.need_out (g : G) {k : Nat} (h : k < g.n3) : g.need ((g.O k).toNat / 2) = true :=
  g.needA_keep (Nat.zero_le _) (g.needL_keep (Nat.zero_le _) (g.needO_keep (k := k + 1) (by omega) (marked_self _ _)))
theorem G.need_lat (g : G) {k : Nat} (h : k < g.n1) : g.need ((g.L k).toNat / 2) = true :=
  g.needA_keep (Nat.zero_le _) (g.needL_keep (k := k + 1) (by omega) (marked_self _ _))

section
variable {g : G} (hv : g.Valid)
include hv
theorem G.Valid.nums : (g.first : Int) = 1 + g.ins + g.n1 ∧ g.first + g.n2 ≤ 60000 := by
  have := hv.i0; have := hv.n
  unfold G.first; omega
theorem G.Valid.lo {k : Nat} (hk : k < g.n2) : 0 ≤ g.X k ∧ 0 ≤ g.Y k ∧ (g.X k).toNat / 2 < g.first + k ∧ (g.Y k).toNat / 2 < g.first + k := by
  have := hv.ands k hk
  have := hv.nums
  unfold G.AndOk at *; omega
theorem G.Valid.lit {l : Int} (h : g.LitOk l) : 0 ≤ l ∧ l.toNat / 2 < g.first + g.n2 := by
  have := hv.nums
  unfold G.LitOk at h; omega
theorem G.Valid.stay {k : Nat} {j : Nat} (hj : g.first + (g.n2 - 1 - k) ≤ j) : ∀ m, k ≤ m → m ≤ g.n2 → g.needA m j = g.needA k j
  | 0, h, _ => by have : k = 0 := by omega
                  subst this; rfl
  | m + 1, h, hm => by
    by_cases e : k = m + 1
    · subst e; rfl
    · have ih := G.Valid.stay hj m (by omega) (by omega)
      have hl := hv.lo (k := g.n2 - 1 - m) (by omega)
      simp only [G.needA]
      split
      · rw [marked_far (by omega), marked_far (by omega), ih]
      · exact ih
theorem G.Valid.need_and {k : Nat} (hk : k < g.n2) (h : g.need (g.first + k) = true) : g.need ((g.X k).toNat / 2) = true ∧ g.need ((g.Y k).toNat / 2) = true := by
  have e : g.n2 - 1 - (g.n2 - 1 - k) = k := by omega
  have h1 : g.needA (g.n2 - 1 - k) (g.first + k) = true := by
    rw [← hv.stay (k := g.n2 - 1 - k) (j := g.first + k) (by omega) g.n2 (by omega) (Nat.le_refl _)]; exact h
  have h2 : g.needA (g.n2 - 1 - k + 1) = marked (marked (g.needA (g.n2 - 1 - k)) ((g.X k).toNat / 2)) ((g.Y k).toNat / 2) := by
    simp only [G.needA, e, h1, if_true]
  refine ⟨g.needA_keep (k := g.n2 - 1 - k + 1) (by omega) ?_, g.needA_keep (k := g.n2 - 1 - k + 1) (by omega) ?_⟩
  · rw [h2]; exact marked_keep (marked_self _ _)
  · rw [h2]; exact marked_self _ _
end

theorem G.to_step (g : G) (k j : Nat) : g.to (k + 1) j = if j = g.first + k then (if g.need j then 2 * (g.pos j : Int) else 0) else g.to k j := by
  unfold G.to
  by_cases h : j = g.first + k
  · rw [if_pos h, if_neg (by omega)]
    simp [show j < g.first + (k + 1) by omega]
  · rw [if_neg h]
    by_cases h1 : j < g.first
    · rw [if_pos h1, if_pos h1]
    · rw [if_neg h1, if_neg h1]
      have : (j < g.first + (k + 1)) ↔ (j < g.first + k) := by omega
      simp only [this]
theorem G.to_pos (g : G) {k j : Nat} (h : j < g.first + k) (hn : g.need j = true) : g.to k j = 2 * (g.pos j : Int) := by
  unfold G.to G.pos
  by_cases h1 : j < g.first
  · rw [if_pos h1, if_pos h1]
  · rw [if_neg h1]; simp [h, hn]
theorem G.to_new (g : G) (k : Nat) : g.to k (g.first + k) = 0 := by
  unfold G.to; rw [if_neg (by omega)]; simp
theorem G.to_range (g : G) (k j : Nat) : 0 ≤ g.to k j ∧ g.to k j ≤ 2 * (j : Int) := by
  have := g.pos_le j
  unfold G.to
  split
  · omega
  · split <;> omega

/-- the bit that is laid over an even number -/
theorem xor_even (p b : Nat) (hb : b < 2) : (2 * p) ^^^ b = 2 * p + b := by
  obtain rfl | rfl : b = 0 ∨ b = 1 := by omega
  · simp
  · apply Nat.eq_of_testBit_eq
    intro i
    cases i with
    | zero => simp
    | succ i => rw [Nat.testBit_xor, Nat.testBit_succ, Nat.testBit_succ, Nat.testBit_succ, show 2 * p / 2 = p by omega, show (1 : Nat) / 2 = 0 by decide, show (2 * p + 1) / 2 = p by omega]; simp

end Go.Proofs.Ytdhgbikmaglgpaa
