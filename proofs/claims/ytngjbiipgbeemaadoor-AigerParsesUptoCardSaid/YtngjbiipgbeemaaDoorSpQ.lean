/- How a formula's text is read, in plain Lean, off its words: the head, the literals, the clauses; the fault's place. No condition. -/
import Derived.Test.YtngjbiipgbeemaaDoorSpP
namespace Go.Proofs.YtngjbiipgbeemaaDoor

abbrev Wd := List UInt8 × Nat
def digB (b : UInt8) : Bool := decide (48 ≤ b.toNat) && decide (b.toNat ≤ 57)
def valB (l : List UInt8) : Nat := l.foldl (fun n b => n * 10 + (b.toNat - 48)) 0
def badN (l : List UInt8) : Bool := l.isEmpty || decide (9 < l.length) || (decide (1 < l.length) && l.head? == some 48)
/-- a number, as it is written -/
def numB (l : List UInt8) : Option Nat := if badN l = true then none else if l.all digB = true then some (valB l) else none
theorem valB_snoc (l : List UInt8) (b : UInt8) : valB (l ++ [b]) = valB l * 10 + (b.toNat - 48) := by simp [valB, List.foldl_append]
theorem foldV_lt : ∀ (l : List UInt8) (n m : Nat), l.all digB = true → n < m → l.foldl (fun n b => n * 10 + (b.toNat - 48)) n < m * 10 ^ l.length
  | [], n, m, _, h => by simpa using h
  | b :: r, n, m, h, hn => by
    simp only [List.all_cons, Bool.and_eq_true] at h
    have hb : b.toNat - 48 ≤ 9 := by have := h.1; simp only [digB, Bool.and_eq_true, decide_eq_true_eq] at this; omega
    have := foldV_lt r (n * 10 + (b.toNat - 48)) (m * 10) h.2 (by omega)
    simp only [List.foldl_cons, List.length_cons, Nat.pow_succ]
    rw [show m * (10 ^ r.length * 10) = m * 10 * 10 ^ r.length by rw [Nat.mul_assoc, Nat.mul_comm 10]]
    exact this
theorem valB_lt (l : List UInt8) (h : l.all digB = true) : valB l < 10 ^ l.length := by
  have := foldV_lt l 0 1 h (by omega)
  simpa [valB] using this
theorem numB_le {l : List UInt8} {n : Nat} (h : numB l = some n) : n < 1000000000 := by
  unfold numB at h
  split at h
  · cases h
  · rename_i hb
    split at h
    · rename_i ha
      injection h with h
      subst h
      have h1 := valB_lt l ha
      have h2 : l.length ≤ 9 := by
        simp only [badN, Bool.or_eq_true, decide_eq_true_eq, not_or] at hb
        omega
      exact Nat.lt_of_lt_of_le h1 (Nat.le_trans (Nat.pow_le_pow_right (by omega) h2) (by decide))
    · cases h
/-- a literal, as it is written; 0: none -/
def litB (vars : Nat) (l : List UInt8) : Int :=
  if l.head? = some 45 then (match numB l.tail with | some n => if n ≤ vars then -(n : Int) else 0 | none => 0)
  else (match numB l with | some n => if n ≤ vars then (n : Int) else 0 | none => 0)
theorem litB_le (vars : Nat) (l : List UInt8) : -(vars : Int) ≤ litB vars l ∧ litB vars l ≤ vars := by
  unfold litB
  split
  · split
    · split <;> omega
    · omega
  · split
    · split <;> omega
    · omega
/-- is the k-th word of the head wrong? -/
def hdBad (k : Nat) (w : List UInt8) : Bool :=
  match k with
  | 0 => !(w == [112])
  | 1 => !(w == [99, 110, 102])
  | 2 => (match numB w with | some n => decide (100000 < n) | none => true)
  | _ => (numB w).isNone
/-- the head's first fault, from its k-th word on (f more words); none: there is none -/
def hdF (W : List Wd) (T : Nat) : Nat → Nat → Option Nat
  | 0, _ => none
  | f + 1, k => match W[k]? with
    | none => some T
    | some w => if hdBad k w.1 = true then some w.2 else hdF W T f (k + 1)
def hdN (W : List Wd) (k : Nat) : Nat := (numB (W.getD k ([], 0)).1).getD 0
/-- the clauses: n3 of them; what is read so far: cs, and c of the next one; .inr: the fault's place -/
def bodyW (vars n3 T : Nat) : List Wd → List (List Int) → List Int → Sum (List (List Int)) Nat
  | [], cs, _ => if cs.length < n3 then .inr T else .inl cs
  | w :: r, cs, c =>
    if cs.length = n3 then .inr w.2
    else if w.1 = [48] then bodyW vars n3 T r (cs ++ [c]) []
    else if litB vars w.1 = 0 then .inr w.2
    else bodyW vars n3 T r cs (c ++ [litB vars w.1])
/-- the whole -/
def parseW (W : List Wd) (T : Nat) : Sum (List (List Int)) Nat :=
  match hdF W T 4 0 with
  | some p => .inr p
  | none => bodyW (hdN W 2) (hdN W 3) T (W.drop 4) [] []
end Go.Proofs.YtngjbiipgbeemaaDoor
