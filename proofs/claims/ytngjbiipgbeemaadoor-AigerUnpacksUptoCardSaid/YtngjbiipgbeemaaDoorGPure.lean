/- What a graph of and-gates shows, in plain Lean: a cycle's values, the next latches, the outputs. No condition. -/
import Derived.Test.YtngjbiipgbeemaaDoorGraph
namespace Go.Proofs.YtngjbiipgbeemaaDoor

/-- the value of a literal -/
def litF (V : Nat → Bool) (l : Int) : Bool := V (l.toNat / 2) != (l % 2 == 1)
/-- how many variables are no gates -/
def G.first (g : G) : Nat := 1 + g.ins.toNat + g.n1
/-- the values of constant, inputs and latches -/
def G.head (g : G) (inp st : Nat → Bool) (j : Nat) : Bool :=
  if j = 0 then false else if j ≤ g.ins.toNat then inp (j - 1) else if j < g.first then st (j - 1 - g.ins.toNat) else false
/-- .. and of the first k gates -/
def G.cyc (g : G) (inp st : Nat → Bool) : Nat → Nat → Bool
  | 0 => g.head inp st
  | k + 1 => fun j => if j = g.first + k then litF (g.cyc inp st k) (g.X k) && litF (g.cyc inp st k) (g.Y k) else g.cyc inp st k j
def G.vals (g : G) (inp st : Nat → Bool) : Nat → Bool := g.cyc inp st g.n2
/-- the latches at first, and behind c cycles; a row of inputs is cut off behind its length -/
def G.state (g : G) (T : Nat → Nat → Bool) : Nat → Nat → Bool
  | 0 => g.I
  | c + 1 => fun i => litF (g.vals (T c) (g.state T c)) (g.L i)
def G.row (g : G) (T : Nat → Nat → Bool) (c i : Nat) : Bool := litF (g.vals (T c) (g.state T c)) (g.O i)

theorem G.cyc_at (g : G) (inp st : Nat → Bool) (k : Nat) : g.cyc inp st (k + 1) (g.first + k) = (litF (g.cyc inp st k) (g.X k) && litF (g.cyc inp st k) (g.Y k)) := by simp [G.cyc]
theorem G.cyc_lo (g : G) (inp st : Nat → Bool) (k j : Nat) (h : j < g.first + k) : g.cyc inp st (k + 1) j = g.cyc inp st k j := by
  simp only [G.cyc]; rw [if_neg (by omega)]
theorem litF_congr {V V' : Nat → Bool} {l : Int} (n : Nat) (h : ∀ j, j < n → V j = V' j) (h0 : 0 ≤ l) (h1 : l < 2 * n) : litF V l = litF V' l := by
  unfold litF; rw [h _ (by omega)]
theorem lit_not {V : Nat → Bool} {l : Int} {b : Bool} (h : litF V l = b) : (V (l.toNat / 2) != (l % 2 == 1)) = b := h

theorem G.head_in (g : G) (inp st : Nat → Bool) {k : Nat} (h : k < g.ins.toNat) : g.head inp st (k + 1) = inp k := by
  unfold G.head; rw [if_neg (by omega), if_pos (by omega)]; rfl
theorem G.head_st (g : G) (inp st : Nat → Bool) {k : Nat} (h : k < g.n1) : g.head inp st (g.ins.toNat + 1 + k) = st k := by
  unfold G.head G.first; rw [if_neg (by omega), if_neg (by omega), if_pos (by omega)]; congr 1; omega

theorem G.vals_zero (g : G) (inp st : Nat → Bool) : g.vals inp st 0 = false := by
  have h : ∀ k, g.cyc inp st k 0 = false := fun k => by
    induction k with
    | zero => rfl
    | succ k ih => rw [G.cyc_lo _ _ _ _ _ (by unfold G.first; omega), ih]
  exact h _

end Go.Proofs.YtngjbiipgbeemaaDoor
