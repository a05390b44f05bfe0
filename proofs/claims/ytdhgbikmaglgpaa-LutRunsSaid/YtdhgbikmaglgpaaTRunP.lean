/- What a net of tables shows, in plain Lean: a cycle's values, the next registers, the outputs. No condition. -/
import Derived.Test.YtdhgbikmaglgpaaTDep
namespace Go.Proofs.Ytdhgbikmaglgpaa

/-- the values of the signals that are no tables -/
def Tb.head (g : Tb) (inp st : Nat → Bool) (j : Nat) : Bool :=
  if j = 0 then false else if j = 1 then true else if j < 2 + g.ins.toNat then inp (j - 2) else if j < g.pre then st (j - 2 - g.ins.toNat) else false
/-- which bit the signals point at -/
def rowB (X : Nat → Bool) : Nat → Nat
  | 0 => 0
  | n + 1 => rowB X n + if X n then 2 ^ n else 0
/-- a bit of a table -/
def bitAt (t : Int) (r : Nat) : Bool := t / 2 ^ r % 2 == 1
/-- .. and of the first k tables -/
def Tb.cyc (g : Tb) (inp st : Nat → Bool) : Nat → Nat → Bool
  | 0 => g.head inp st
  | k + 1 => fun j => if j = g.pre + k then bitAt (g.tb k) (rowB (fun j => g.cyc inp st k (g.tw k j).toNat) (g.tl k)) else g.cyc inp st k j
def Tb.vals (g : Tb) (inp st : Nat → Bool) : Nat → Bool := g.cyc inp st g.n2
/-- the registers at first, and behind c cycles -/
def Tb.state (g : Tb) (T : Nat → Nat → Bool) : Nat → Nat → Bool
  | 0 => g.I
  | c + 1 => fun i => g.vals (T c) (g.state T c) (g.N i).toNat
def Tb.row (g : Tb) (T : Nat → Nat → Bool) (c i : Nat) : Bool := g.vals (T c) (g.state T c) (g.O i).toNat

theorem rowB_lt (X : Nat → Bool) : ∀ n, rowB X n < 2 ^ n
  | 0 => by simp [rowB]
  | n + 1 => by
    have h := rowB_lt X n
    have e : 2 ^ (n + 1) = 2 ^ n + 2 ^ n := by rw [Nat.pow_succ]; omega
    simp only [rowB]
    split <;> omega
theorem rowB_congr {X X' : Nat → Bool} : ∀ n, (∀ i, i < n → X i = X' i) → rowB X n = rowB X' n
  | 0, _ => rfl
  | n + 1, h => by simp only [rowB]; rw [rowB_congr n (fun i hi => h i (by omega)), h n (by omega)]
theorem Tb.cyc_at (g : Tb) (inp st : Nat → Bool) (k : Nat) : g.cyc inp st (k + 1) (g.pre + k) = bitAt (g.tb k) (rowB (fun j => g.cyc inp st k (g.tw k j).toNat) (g.tl k)) := by simp [Tb.cyc]
theorem Tb.cyc_lo (g : Tb) (inp st : Nat → Bool) (k j : Nat) (h : j < g.pre + k) : g.cyc inp st (k + 1) j = g.cyc inp st k j := by
  simp only [Tb.cyc]; rw [if_neg (by omega)]
theorem Tb.head_in (g : Tb) (inp st : Nat → Bool) {k : Nat} (h : k < g.ins.toNat) : g.head inp st (k + 2) = inp k := by
  unfold Tb.head; rw [if_neg (by omega), if_neg (by omega), if_pos (by omega)]; rfl
theorem Tb.head_st (g : Tb) (inp st : Nat → Bool) {k : Nat} (h : k < g.n1) : g.head inp st (g.ins.toNat + 2 + k) = st k := by
  unfold Tb.head Tb.pre; rw [if_neg (by omega), if_neg (by omega), if_neg (by omega), if_pos (by omega)]; congr 1; omega
theorem Tb.vals_lo (g : Tb) (inp st : Nat → Bool) (j : Nat) (h : j < g.pre) : g.vals inp st j = g.head inp st j := by
  have h : ∀ k, g.cyc inp st k j = g.head inp st j := fun k => by
    induction k with
    | zero => rfl
    | succ k ih => rw [Tb.cyc_lo _ _ _ _ _ (by omega), ih]
  exact h _
/-- the bit that is laid over: 'or' is '+' -/
theorem or_two (a n : Nat) (h : a < 2 ^ n) : a ||| 2 ^ n = a + 2 ^ n := by
  have := Nat.two_pow_add_eq_or_of_lt h 1
  rw [Nat.mul_one] at this
  rw [Nat.or_comm, ← this, Nat.add_comm]

end Go.Proofs.Ytdhgbikmaglgpaa
