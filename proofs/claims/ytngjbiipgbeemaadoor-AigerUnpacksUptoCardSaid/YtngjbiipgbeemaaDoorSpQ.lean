/- The words of a formula's text, in plain Lean: the scan byte by byte and the walk line by line find the same. No condition. How a formula's text is read, in plain Lean, off its words: the head, the literals, the clauses; the fault's place. No condition. -/
import Derived.Test.YtngjbiipgbeemaaDoorBase
namespace Go.Proofs.YtngjbiipgbeemaaDoor

/-- a blank, a tab or a line's end -/
def isSp (b : UInt8) : Bool := b == 32 || b == 9 || b == 10
/-- the scan: m = 0: nothing but blanks in this line so far; 1: something; 2: in a remark -/
def scan : List UInt8 → Nat → List UInt8 → Nat → List (List UInt8 × Nat)
  | [], i, w, _ => if w = [] then [] else [(w, i - w.length)]
  | b :: r, i, w, m =>
    if m = 2 then (if b = 10 then scan r (i + 1) [] 0 else scan r (i + 1) [] 2)
    else if m = 0 ∧ b = 99 then scan r (i + 1) [] 2
    else if isSp b = false then scan r (i + 1) (w ++ [b]) 1
    else (if w = [] then [] else [(w, i - w.length)]) ++ scan r (i + 1) [] (if b = 10 then 0 else m)
/-- the words of a line, one behind the other -/
def wordsL : Nat → List UInt8 → Nat → List (List UInt8 × Nat)
  | 0, _, _ => []
  | _, [], _ => []
  | f + 1, b :: r, at_ => if isSp b = true then wordsL f r (at_ + 1)
    else ((b :: r).takeWhile (fun x => !isSp x), at_) :: wordsL f ((b :: r).dropWhile (fun x => !isSp x)) (at_ + ((b :: r).takeWhile (fun x => !isSp x)).length)
/-- is a line a remark? -/
def remark (l : List UInt8) : Bool := (l.dropWhile (fun b => b == 32 || b == 9)).head? == some 99
def lineW (l : List UInt8) (at_ : Nat) : List (List UInt8 × Nat) := if remark l = true then [] else wordsL l.length l at_

/-- a text's lines, each with its end -/
def lines : Nat → List UInt8 → List (List UInt8)
  | 0, _ => []
  | _, [] => []
  | f + 1, b :: r => ((b :: r).takeWhile (fun x => x != 10) ++ ((b :: r).dropWhile (fun x => x != 10)).take 1) :: lines f (((b :: r).dropWhile (fun x => x != 10)).drop 1)

theorem isSp10 : isSp 10 = true := rfl
/-- the rest of a remark -/
theorem scan_skip : ∀ (l rest : List UInt8) (i : Nat), (∀ b ∈ l, b ≠ 10) → scan (l ++ 10 :: rest) i [] 2 = scan rest (i + l.length + 1) [] 0
  | [], rest, i, _ => by simp [scan]
  | b :: r, rest, i, h => by
    have hb := h b (by simp)
    simp only [List.cons_append, scan, if_true, if_neg hb]
    rw [scan_skip r rest (i + 1) (fun c hc => h c (by simp [hc]))]
    congr 1
    simp only [List.length_cons]; omega
theorem scan_skip_end : ∀ (l : List UInt8) (i : Nat), (∀ b ∈ l, b ≠ 10) → scan l i [] 2 = []
  | [], i, _ => by simp [scan]
  | b :: r, i, h => by
    have hb := h b (by simp)
    simp only [scan, if_true, if_neg hb]
    exact scan_skip_end r (i + 1) (fun c hc => h c (by simp [hc]))
/-- a word that has begun -/
theorem scan_word : ∀ (l rest : List UInt8) (i : Nat) (w : List UInt8), (∀ b ∈ l, isSp b = false) → (∀ b, rest.head? = some b → isSp b = true) → w ++ l ≠ [] →
    scan (l ++ rest) i w 1 = (w ++ l, i + l.length - (w ++ l).length) :: scan rest (i + l.length) [] 1
  | [], rest, i, w, _, hr, hw => by
    simp only [List.nil_append, List.append_nil] at *
    cases rest with
    | nil => simp [scan, hw]
    | cons b r =>
      have hb := hr b rfl
      simp [scan, hb, hw, List.length_nil]
  | b :: l, rest, i, w, hl, hr, hw => by
    have hb := hl b (by simp)
    simp only [List.cons_append, scan]
    rw [if_neg (by omega), if_neg (by rintro ⟨h, _⟩; omega), if_pos hb, scan_word l rest (i + 1) (w ++ [b]) (fun c hc => hl c (by simp [hc])) hr (by simp)]
    simp only [List.append_assoc, List.singleton_append, List.length_cons]
    congr 2
    all_goals omega
theorem scan_in : ∀ (f : Nat) (body tl rest : List UInt8) (i : Nat), (∀ b ∈ body, b ≠ 10) → (body ++ tl).length ≤ f → (tl = [] ∧ rest = [] ∨ tl = [10]) →
    scan (body ++ (tl ++ rest)) i [] 1 = wordsL f (body ++ tl) i ++ scan rest (i + (body ++ tl).length) [] 0
  | 0, body, tl, rest, i, _, hf, ht => by
    have h0 : body ++ tl = [] := List.eq_nil_of_length_eq_zero (by omega)
    obtain ⟨rfl, rfl⟩ := List.append_eq_nil_iff.1 h0
    obtain ⟨_, rfl⟩ | h := ht
    · simp [wordsL, scan]
    · simp at h
  | f + 1, [], tl, rest, i, _, hf, ht => by
    obtain ⟨rfl, rfl⟩ | rfl := ht
    · simp [wordsL, scan]
    · simp only [List.nil_append, List.cons_append, scan, wordsL, isSp10]
      rw [if_neg (by omega), if_neg (by rintro ⟨h, _⟩; omega), if_neg (by simp), if_pos trivial, if_pos trivial, if_pos trivial]
      cases f <;> simp [wordsL]
  | f + 1, b :: r, tl, rest, i, hb, hf, ht => by
    have hbn := hb b (by simp)
    by_cases hs : isSp b = true
    · simp only [List.cons_append, scan, wordsL]
      rw [if_neg (by omega), if_neg (by rintro ⟨h, _⟩; omega), if_neg (by simp [hs]), if_pos trivial, if_neg hbn, if_pos hs, List.nil_append, scan_in f r tl rest (i + 1) (fun c hc => hb c (by simp [hc])) (by simp only [List.cons_append, List.length_cons] at hf; omega) ht]
      congr 2
      simp only [List.length_cons]; omega
    · have hs' : isSp b = false := by simpa using hs
      have htw : ((b :: r) ++ tl).takeWhile (fun x => !isSp x) = (b :: r).takeWhile (fun x => !isSp x) ∧ ((b :: r) ++ tl).dropWhile (fun x => !isSp x) = (b :: r).dropWhile (fun x => !isSp x) ++ tl := by
        have hg : ∀ l : List UInt8, (l ++ tl).takeWhile (fun x => !isSp x) = l.takeWhile (fun x => !isSp x) ∧ (l ++ tl).dropWhile (fun x => !isSp x) = l.dropWhile (fun x => !isSp x) ++ tl := fun l => by
          induction l with
          | nil => obtain ⟨rfl, _⟩ | rfl := ht <;> simp [isSp10]
          | cons c l ih =>
            by_cases hc : isSp c = true
            · simp [hc]
            · simp only [List.cons_append, List.takeWhile_cons, List.dropWhile_cons]
              simp only [hc, Bool.not_false, if_true, ih.1, ih.2]
              exact ⟨trivial, trivial⟩
        exact hg (b :: r)
      obtain ⟨t, ht2⟩ : ∃ t, t = (b :: r).takeWhile (fun x => !isSp x) := ⟨_, rfl⟩
      obtain ⟨d, hd2⟩ : ∃ d, d = (b :: r).dropWhile (fun x => !isSp x) := ⟨_, rfl⟩
      have htd : b :: r = t ++ d := by rw [ht2, hd2]; exact (List.takeWhile_append_dropWhile).symm
      have htn : ∀ c ∈ t, isSp c = false := fun c hc => by rw [ht2] at hc; simpa using List.all_eq_true.1 (List.all_takeWhile (p := fun x => !isSp x) (l := b :: r)) c hc
      have htne : t ≠ [] := by rw [ht2]; simp [hs']
      have hdh : ∀ c, (d ++ (tl ++ rest)).head? = some c → isSp c = true := fun c hc => by
        cases hd3 : d with
        | nil =>
          rw [hd3] at hc
          obtain ⟨rfl, rfl⟩ | rfl := ht
          · simp at hc
          · simp at hc; subst hc; rfl
        | cons e d' =>
          rw [hd3] at hc
          simp at hc; subst hc
          have h2 := List.head?_dropWhile_not (fun x => !isSp x) (b :: r)
          rw [← hd2, hd3] at h2
          simpa using h2
      have hw : wordsL (f + 1) ((b :: r) ++ tl) i = (t, i) :: wordsL f (d ++ tl) (i + t.length) := by
        show (if isSp b = true then _ else _) = _
        rw [if_neg hs]
        show ((((b :: r) ++ tl).takeWhile (fun x => !isSp x), i) :: wordsL f (((b :: r) ++ tl).dropWhile (fun x => !isSp x)) (i + (((b :: r) ++ tl).takeWhile (fun x => !isSp x)).length)) = _
        rw [htw.1, htw.2, ← ht2, ← hd2]
      rw [hw, htd, List.append_assoc, scan_word t (d ++ (tl ++ rest)) i [] htn hdh (by simpa using htne)]
      have hlen : t.length + d.length = r.length + 1 := by have := congrArg List.length htd; simp only [List.length_cons, List.length_append] at this; omega
      have htl : 0 < t.length := List.length_pos_iff.2 htne
      rw [scan_in f d tl rest (i + t.length) (fun c hc => hb c (by rw [htd]; simp [hc])) (by simp only [List.length_append, List.length_cons] at hf ⊢; omega) ht]
      simp only [List.nil_append, List.cons_append, List.length_append]
      congr 2
      · congr 1; omega
      · congr 1; omega
theorem scan_same (b : UInt8) (r : List UInt8) (i : Nat) (hb : isSp b = false) (hc : b ≠ 99) : scan (b :: r) i [] 0 = scan (b :: r) i [] 1 := by
  simp only [scan]
  rw [if_neg (by omega), if_neg (by rintro ⟨_, h⟩; exact hc h), if_pos hb, if_neg (by omega), if_neg (by rintro ⟨h, _⟩; omega), if_pos hb]
/-- a line, from its beginning -/
theorem scan_line : ∀ (body tl rest : List UInt8) (i f : Nat), (∀ b ∈ body, b ≠ 10) → (body ++ tl).length ≤ f → (tl = [] ∧ rest = [] ∨ tl = [10]) →
    scan (body ++ (tl ++ rest)) i [] 0 = (if remark (body ++ tl) = true then [] else wordsL f (body ++ tl) i) ++ scan rest (i + (body ++ tl).length) [] 0
  | [], tl, rest, i, f, _, hf, ht => by
    obtain ⟨rfl, rfl⟩ | rfl := ht
    · cases f <;> simp [wordsL, scan, remark]
    · have hr : remark [10] = false := by decide
      cases f with
      | zero => simp at hf
      | succ f =>
        simp only [List.nil_append, List.cons_append, scan, wordsL, isSp10, hr]
        cases f <;> simp [wordsL]
  | b :: r, tl, rest, i, f, hb, hf, ht => by
    have hbn := hb b (by simp)
    by_cases hs : isSp b = true
    · have hbl : (b == 32 || b == 9) = true := by
        unfold isSp at hs
        simp only [Bool.or_eq_true, beq_iff_eq] at hs ⊢
        rcases hs with (h | h) | h
        · exact .inl h
        · exact .inr h
        · exact absurd h hbn
      have hre : remark ((b :: r) ++ tl) = remark (r ++ tl) := by unfold remark; simp [hbl]
      have h99 : b ≠ 99 := by rintro rfl; exact absurd hs (by decide)
      cases f with
      | zero => simp at hf
      | succ f =>
        have ih := scan_line r tl rest (i + 1) f (fun c hc => hb c (by simp [hc])) (by simp only [List.cons_append, List.length_cons] at hf; omega) ht
        simp only [List.cons_append] at hre ⊢
        rw [hre]
        simp only [scan, wordsL]
        rw [if_neg (by omega), if_neg (by rintro ⟨_, h⟩; exact h99 h), if_neg (by simp [hs]), if_pos trivial, if_neg hbn, if_pos hs, List.nil_append, ih]
        congr 2
        simp only [List.length_cons]; omega
    · have hs' : isSp b = false := by simpa using hs
      have hbl : (b == 32 || b == 9) = false := by
        unfold isSp at hs'
        simp only [Bool.or_eq_false_iff] at hs' ⊢
        exact hs'.1
      by_cases h99 : b = 99
      · subst h99
        have hre : remark ((99 :: r) ++ tl) = true := by unfold remark; simp
        rw [if_pos hre, List.nil_append]
        simp only [List.cons_append, scan]
        rw [if_neg (by omega), if_pos (by simp)]
        obtain ⟨rfl, rfl⟩ | rfl := ht
        · simp only [List.append_nil]
          rw [scan_skip_end r (i + 1) (fun c hc => hb c (by simp [hc]))]
          simp [scan]
        · rw [show r ++ ([10] ++ rest) = r ++ 10 :: rest by simp, scan_skip r rest (i + 1) (fun c hc => hb c (by simp [hc]))]
          congr 1
          simp only [List.length_append, List.length_cons, List.length_nil]; omega
      · have hre : remark ((b :: r) ++ tl) = false := by unfold remark; simp [hbl, h99]
        rw [hre, if_neg (by simp)]
        rw [show (b :: r) ++ (tl ++ rest) = b :: (r ++ (tl ++ rest)) by simp, scan_same b _ i hs' h99]
        exact scan_in f (b :: r) tl rest i hb hf ht
end Go.Proofs.YtngjbiipgbeemaaDoor
namespace Go.Proofs.YtngjbiipgbeemaaDoor

abbrev Wd := List UInt8 × Nat
def digB (b : UInt8) : Bool := decide (48 ≤ b.toNat) && decide (b.toNat ≤ 57)
def valB (l : List UInt8) : Nat := l.foldl (fun n b => n * 10 + (b.toNat - 48)) 0
def badN (l : List UInt8) : Bool := l.isEmpty || decide (9 < l.length) || (decide (1 < l.length) && l.head? == some 48)
/-- a number, as it is written -/
def numB (l : List UInt8) : Option Nat := if badN l = true then none else if l.all digB = true then some (valB l) else none
theorem valB_snoc (l : List UInt8) (b : UInt8) : valB (l ++ [b]) = valB l * 10 + (b.toNat - 48) := by simp [valB, List.foldl_append]
theorem foldV_lt : ∀ (l : List UInt8) (n m : Nat), l.all digB = true → n < m → l.foldl (fun n b => n * 10 + (b.toNat - 48)) n < m * 10 ^ l.length
  | [], n, m, _, h => by simpa using h
  | b :: r, n, m, h, hn => by
    simp only [List.all_cons, Bool.and_eq_true] at h
    have hb : b.toNat - 48 ≤ 9 := by have := h.1; simp only [digB, Bool.and_eq_true, decide_eq_true_eq] at this; omega
    have := foldV_lt r (n * 10 + (b.toNat - 48)) (m * 10) h.2 (by omega)
    simp only [List.foldl_cons, List.length_cons, Nat.pow_succ]
    rw [show m * (10 ^ r.length * 10) = m * 10 * 10 ^ r.length by rw [Nat.mul_assoc, Nat.mul_comm 10]]
    exact this
theorem valB_lt (l : List UInt8) (h : l.all digB = true) : valB l < 10 ^ l.length := by
  have := foldV_lt l 0 1 h (by omega)
  simpa [valB] using this
theorem numB_le {l : List UInt8} {n : Nat} (h : numB l = some n) : n < 1000000000 := by
  unfold numB at h
  split at h
  · cases h
  · rename_i hb
    split at h
    · rename_i ha
      injection h with h
      subst h
      have h1 := valB_lt l ha
      have h2 : l.length ≤ 9 := by
        simp only [badN, Bool.or_eq_true, decide_eq_true_eq, not_or] at hb
        omega
      exact Nat.lt_of_lt_of_le h1 (Nat.le_trans (Nat.pow_le_pow_right (by omega) h2) (by decide))
    · cases h
/-- a literal, as it is written; 0: none -/
def litB (vars : Nat) (l : List UInt8) : Int :=
  if l.head? = some 45 then (match numB l.tail with | some n => if n ≤ vars then -(n : Int) else 0 | none => 0)
  else (match numB l with | some n => if n ≤ vars then (n : Int) else 0 | none => 0)
theorem litB_le (vars : Nat) (l : List UInt8) : -(vars : Int) ≤ litB vars l ∧ litB vars l ≤ vars := by
  unfold litB
  split
  · split
    · split <;> omega
    · omega
  · split
    · split <;> omega
    · omega
/-- is the k-th word of the head wrong? -/
def hdBad (k : Nat) (w : List UInt8) : Bool :=
  match k with
  | 0 => !(w == [112])
  | 1 => !(w == [99, 110, 102])
  | 2 => (match numB w with | some n => decide (100000 < n) | none => true)
  | _ => (numB w).isNone
/-- the head's first fault, from its k-th word on (f more words); none: there is none -/
def hdF (W : List Wd) (T : Nat) : Nat → Nat → Option Nat
  | 0, _ => none
  | f + 1, k => match W[k]? with
    | none => some T
    | some w => if hdBad k w.1 = true then some w.2 else hdF W T f (k + 1)
def hdN (W : List Wd) (k : Nat) : Nat := (numB (W.getD k ([], 0)).1).getD 0
/-- the clauses: n3 of them; what is read so far: cs, and c of the next one; .inr: the fault's place -/
def bodyW (vars n3 T : Nat) : List Wd → List (List Int) → List Int → Sum (List (List Int)) Nat
  | [], cs, _ => if cs.length < n3 then .inr T else .inl cs
  | w :: r, cs, c =>
    if cs.length = n3 then .inr w.2
    else if w.1 = [48] then bodyW vars n3 T r (cs ++ [c]) []
    else if litB vars w.1 = 0 then .inr w.2
    else bodyW vars n3 T r cs (c ++ [litB vars w.1])
/-- the whole -/
def parseW (W : List Wd) (T : Nat) : Sum (List (List Int)) Nat :=
  match hdF W T 4 0 with
  | some p => .inr p
  | none => bodyW (hdN W 2) (hdN W 3) T (W.drop 4) [] []
end Go.Proofs.YtngjbiipgbeemaaDoor
