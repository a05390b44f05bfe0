/- A graph's text: lines, numbers, the head, the rows, what stands behind: as aiger.Parse and the reference's AigParse read it. Plain Lean. No condition. -/
import Derived.Test.YtngjbiipgbeemaaDoorSpQ
import Derived.Test.YtngjbiipgbeemaaDoorGraph
import Derived.Lib.SplitLaws
import Derived.Lib.IndexMore
namespace Go.Proofs.YtngjbiipgbeemaaDoor

/-- pieces between blanks -/
def splA : List UInt8 → List UInt8 → List (List UInt8)
  | [], w => [w]
  | b :: r, w => if b = 32 then w :: splA r [] else splA r (w ++ [b])
def numsL : List (List UInt8) → Option (List Nat)
  | [] => some []
  | p :: r => match numB p with
    | none => none
    | some n => match numsL r with
      | none => none
      | some q => some (n :: q)
/-- a line's numbers -/
def numsB (l : List UInt8) : Option (List Nat) := numsL (splA l [])
/-- the lines that end -/
def linA : List UInt8 → List UInt8 → List (List UInt8)
  | [], _ => []
  | b :: r, w => if b = 10 then w :: linA r [] else linA r (w ++ [b])
/-- what stands behind the last one -/
def tlA : List UInt8 → List UInt8 → List UInt8
  | [], w => w
  | b :: r, w => if b = 10 then tlA r [] else tlA r (w ++ [b])
/-- a head: inputs, latches, outputs, gates -/
structure Hd where
  i : Nat
  l : Nat
  o : Nat
  a : Nat
def hd5 : List Nat → Option Hd
  | [m, i, la, o, a] => if m = i + la + a ∧ m < 60000 ∧ la ≤ 6000 ∧ o ≤ 60000 then some ⟨i, la, o, a⟩ else none
  | _ => none
def hdrB (word l : List UInt8) : Option Hd :=
  if (word ++ [32]).isPrefixOf l = true then (match numsB (l.drop (word.length + 1)) with | some n => hd5 n | none => none) else none
theorem hd5_ok {n : List Nat} {h : Hd} (e : hd5 n = some h) : n = [h.i + h.l + h.a, h.i, h.l, h.o, h.a] ∧ h.i + h.l + h.a < 60000 ∧ h.l ≤ 6000 ∧ h.o ≤ 60000 := by
  unfold hd5 at e
  split at e
  · split at e
    · rename_i h1
      obtain ⟨rfl, h2, h3, h4⟩ := h1
      injection e with e
      subst e
      exact ⟨rfl, h2, h3, h4⟩
    · cases e
  · cases e
theorem hdr_fits {w l : List UInt8} {h : Hd} (e : hdrB w l = some h) : h.i + h.l + h.a < 60000 ∧ h.l ≤ 6000 ∧ h.o ≤ 60000 := by
  unfold hdrB at e
  split at e
  · split at e
    · exact (hd5_ok e).2
    · cases e
  · cases e
def Hd.most (h : Hd) : Nat := 2 * (1 + h.i + h.l + h.a)
def Hd.rows (h : Hd) : Nat := h.i + h.l + h.o + h.a
/-- the numbers of the t-th line behind the head -/
def rowN (LS : List (List UInt8)) (t : Nat) : Option (List Nat) := match LS[t + 1]? with
  | none => none
  | some l => numsB l
def numR (LS : List (List UInt8)) (t j : Nat) : Nat := ((rowN LS t).getD []).getD j 0
def Hd.okN (h : Hd) (t : Nat) (n : List Nat) : Bool :=
  if t < h.i then n.length == 1 && n.getD 0 0 == 2 * (1 + t)
  else if t < h.i + h.l then (n.length == 2 || (n.length == 3 && decide (n.getD 2 0 < 2))) && n.getD 0 0 == 2 * (1 + t) && decide (n.getD 1 0 < h.most)
  else if t < h.i + h.l + h.o then n.length == 1 && decide (n.getD 0 0 < h.most)
  else n.length == 3 && n.getD 0 0 == 2 * (1 + (t - h.o)) && decide (n.getD 1 0 < n.getD 0 0) && decide (n.getD 2 0 < n.getD 0 0)
def Hd.rowOk (h : Hd) (LS : List (List UInt8)) (t : Nat) : Prop := ∃ n, rowN LS t = some n ∧ h.okN t n = true
/-- may a line stand behind a graph? -/
def trB (l : List UInt8) : Bool := match l with
  | [] => false
  | b :: r => (b == 105 || b == 108 || b == 111) && (numB (r.takeWhile (fun x => x != 32))).isSome && decide ((r.takeWhile (fun x => x != 32)).length + 2 < l.length)
/-- what stands behind a graph: the first line that cannot, or none (n: lines ahead of it) -/
def tailF (tl : List UInt8) : List (List UInt8) → Nat → Option Nat
  | [], n => if tl = [] then none else some (n + 1)
  | l :: r, n => if l = [99] then none else if trB l = true then tailF tl r (n + 1) else some (n + 1)
def hd0 (LS : List (List UInt8)) : Option Hd := match LS with
  | [] => none
  | l :: _ => hdrB [97, 97, 103] l
def Hd.graph (h : Hd) (LS : List (List UInt8)) : G where
  ins := h.i
  n1 := h.l
  n2 := h.a
  n3 := h.o
  L k := (numR LS (h.i + k) 1 : Nat)
  I k := decide (((rowN LS (h.i + k)).getD []).length = 3 ∧ numR LS (h.i + k) 2 = 1)
  X k := (numR LS (h.i + h.l + h.o + k) 1 : Nat)
  Y k := (numR LS (h.i + h.l + h.o + k) 2 : Nat)
  O k := (numR LS (h.i + h.l + k) 0 : Nat)
/-- rows up to t are right -/
def Hd.Upto (h : Hd) (LS : List (List UInt8)) (t : Nat) : Prop := ∀ s, s < t → h.rowOk LS s
/-- the text is bad, and that shows at line p -/
def BadT (txt : List UInt8) (p : Nat) : Prop :=
  (hd0 (linA txt []) = none ∧ p = 1) ∨
  ∃ h, hd0 (linA txt []) = some h ∧ ((∃ t, t < h.rows ∧ h.Upto (linA txt []) t ∧ ¬ h.rowOk (linA txt []) t ∧ p = t + 2) ∨ (h.Upto (linA txt []) h.rows ∧ tailF (tlA txt []) ((linA txt []).drop (h.rows + 1)) (h.rows + 1) = some p))
def FineT (txt : List UInt8) (h : Hd) : Prop := hd0 (linA txt []) = some h ∧ h.Upto (linA txt []) h.rows ∧ tailF (tlA txt []) ((linA txt []).drop (h.rows + 1)) (h.rows + 1) = none
theorem bad_one {txt : List UInt8} {p q : Nat} (h1 : BadT txt p) (h2 : BadT txt q) : p = q := by
  rcases h1 with ⟨e1, rfl⟩ | ⟨h, e1, h1⟩
  · rcases h2 with ⟨e2, rfl⟩ | ⟨g, e2, _⟩
    · rfl
    · rw [e1] at e2; cases e2
  · rcases h2 with ⟨e2, rfl⟩ | ⟨g, e2, h2⟩
    · rw [e1] at e2; cases e2
    · rw [e1] at e2
      injection e2 with e2
      subst e2
      rcases h1 with ⟨t, a1, a2, a3, rfl⟩ | ⟨a1, a2⟩
      · rcases h2 with ⟨s, b1, b2, b3, rfl⟩ | ⟨b1, b2⟩
        · rcases Nat.lt_trichotomy t s with h | h | h
          · exact absurd (b2 t h) a3
          · rw [h]
          · exact absurd (a2 s h) b3
        · exact absurd (b1 t a1) a3
      · rcases h2 with ⟨s, b1, b2, b3, rfl⟩ | ⟨b1, b2⟩
        · exact absurd (a1 s b1) b3
        · rw [a2] at b2; injection b2
theorem bad_fine {txt : List UInt8} {p : Nat} {h : Hd} (h1 : BadT txt p) (h2 : FineT txt h) : False := by
  obtain ⟨e2, u2, t2⟩ := h2
  rcases h1 with ⟨e1, rfl⟩ | ⟨g, e1, h1⟩
  · rw [e1] at e2; cases e2
  · rw [e1] at e2
    injection e2 with e2
    subst e2
    rcases h1 with ⟨t, a1, a2, a3, rfl⟩ | ⟨a1, a2⟩
    · exact absurd (u2 t a1) a3
    · rw [a2] at t2; cases t2
theorem fine_one {txt : List UInt8} {h g : Hd} (h1 : FineT txt h) (h2 : FineT txt g) : h = g := by
  have := h1.1.symm.trans h2.1
  injection this

/-! ### lines -/
theorem linA_cons (b : UInt8) (r w : List UInt8) : linA (b :: r) w = if b = 10 then w :: linA r [] else linA r (w ++ [b]) := rfl
theorem tlA_cons (b : UInt8) (r w : List UInt8) : tlA (b :: r) w = if b = 10 then tlA r [] else tlA r (w ++ [b]) := rfl
theorem splA_cons (b : UInt8) (r w : List UInt8) : splA (b :: r) w = if b = 32 then w :: splA r [] else splA r (w ++ [b]) := rfl
theorem linA_none : ∀ (l w : List UInt8), (∀ b ∈ l, b ≠ 10) → linA l w = [] ∧ tlA l w = w ++ l
  | [], w, _ => by simp [linA, tlA]
  | b :: r, w, h => by
    have h1 := linA_none r (w ++ [b]) (fun x hx => h x (List.mem_cons_of_mem _ hx))
    have hb := h b List.mem_cons_self
    unfold linA tlA
    rw [if_neg hb, if_neg hb, h1.1, h1.2]
    simp
theorem linA_hit : ∀ (l r w : List UInt8), (∀ b ∈ l, b ≠ 10) → linA (l ++ 10 :: r) w = (w ++ l) :: linA r [] ∧ tlA (l ++ 10 :: r) w = tlA r []
  | [], r, w, _ => by rw [List.nil_append, linA_cons, tlA_cons, if_pos rfl, if_pos rfl, List.append_nil]; exact ⟨rfl, rfl⟩
  | b :: l, r, w, h => by
    have h1 := linA_hit l r (w ++ [b]) (fun x hx => h x (List.mem_cons_of_mem _ hx))
    have hb := h b List.mem_cons_self
    rw [List.cons_append, linA_cons, tlA_cons, if_neg hb, if_neg hb, h1.1, h1.2]
    simp
theorem splA_none : ∀ (l w : List UInt8), (∀ b ∈ l, b ≠ 32) → splA l w = [w ++ l]
  | [], w, _ => by simp [splA]
  | b :: r, w, h => by
    have h1 := splA_none r (w ++ [b]) (fun x hx => h x (List.mem_cons_of_mem _ hx))
    unfold splA
    rw [if_neg (h b List.mem_cons_self), h1]
    simp
theorem splA_hit : ∀ (l r w : List UInt8), (∀ b ∈ l, b ≠ 32) → splA (l ++ 32 :: r) w = (w ++ l) :: splA r []
  | [], r, w, _ => by rw [List.nil_append, splA_cons, if_pos rfl, List.append_nil]
  | b :: l, r, w, h => by
    have h1 := splA_hit l r (w ++ [b]) (fun x hx => h x (List.mem_cons_of_mem _ hx))
    rw [List.cons_append, splA_cons, if_neg (h b List.mem_cons_self), h1]
    simp
/-- index of one byte -/
theorem ix_one (c : UInt8) : ∀ l : List UInt8, (Lib.index l [c] = -1 ∧ ∀ b ∈ l, b ≠ c) ∨ ∃ l1 l2, l = l1 ++ c :: l2 ∧ (∀ b ∈ l1, b ≠ c) ∧ Lib.index l [c] = l1.length
  | [] => .inl ⟨rfl, fun b hb => by cases hb⟩
  | b :: r => by
    by_cases e : b = c
    · subst e
      refine .inr ⟨[], r, rfl, fun _ h => absurd h List.not_mem_nil, ?_⟩
      unfold Lib.index
      rw [if_pos (by simp)]
      rfl
    · have hp : ([c].isPrefixOf (b :: r)) = false := by
        show (c == b && [].isPrefixOf r) = false
        rw [Bool.and_eq_false_iff]
        left
        rw [beq_eq_false_iff_ne]; exact fun h => e h.symm
      rcases ix_one c r with ⟨h1, h2⟩ | ⟨l1, l2, rfl, h2, h3⟩
      · refine .inl ⟨?_, fun x hx => ?_⟩
        · unfold Lib.index
          rw [hp, if_neg (by simp), if_pos (by simp [h1])]
        · rcases List.mem_cons.1 hx with rfl | h
          · exact e
          · exact h2 x h
      · refine .inr ⟨b :: l1, l2, rfl, fun x hx => ?_, ?_⟩
        · rcases List.mem_cons.1 hx with rfl | h
          · exact e
          · exact h2 x h
        · unfold Lib.index
          rw [hp, if_neg (by simp), if_neg (by rw [h3]; simp), h3]
          simp
/-- what strings.Cut at the line's end tells -/
theorem cut_line (l : List UInt8) : (Lib.cut l [10] = (l, [], false) ∧ linA l [] = [] ∧ tlA l [] = l) ∨ ∃ l1 l2, l = l1 ++ 10 :: l2 ∧ Lib.cut l [10] = (l1, l2, true) ∧ linA l [] = l1 :: linA l2 [] ∧ tlA l [] = tlA l2 [] := by
  unfold Lib.cut
  rcases ix_one 10 l with ⟨h1, h2⟩ | ⟨l1, l2, rfl, h2, h3⟩
  · rw [h1, if_neg (by decide)]
    have h := linA_none l [] h2
    exact .inl ⟨rfl, h.1, h.2⟩
  · rw [h3, if_pos (by omega)]
    have h := linA_hit l1 l2 [] h2
    refine .inr ⟨l1, l2, rfl, ?_, h.1, h.2⟩
    have e1 : ((l1.length : Int)).toNat = l1.length := by omega
    rw [e1]
    have e2 : (l1 ++ 10 :: l2).drop (l1.length + ([10] : List UInt8).length) = l2 := by
      rw [List.drop_append]; simp
    rw [e2]; simp
theorem cut_blank (l : List UInt8) : (Lib.cut l [32] = (l, [], false) ∧ ∀ b ∈ l, b ≠ 32) ∨ ∃ l1 l2, l = l1 ++ 32 :: l2 ∧ (∀ b ∈ l1, b ≠ 32) ∧ Lib.cut l [32] = (l1, l2, true) := by
  unfold Lib.cut
  rcases ix_one 32 l with ⟨h1, h2⟩ | ⟨l1, l2, rfl, h2, h3⟩
  · rw [h1, if_neg (by decide)]
    exact .inl ⟨rfl, h2⟩
  · rw [h3, if_pos (by omega)]
    refine .inr ⟨l1, l2, rfl, h2, ?_⟩
    have e1 : ((l1.length : Int)).toNat = l1.length := by omega
    rw [e1]
    have e2 : (l1 ++ 32 :: l2).drop (l1.length + ([32] : List UInt8).length) = l2 := by
      rw [List.drop_append]; simp
    rw [e2]; simp
/-! ### numbers -/
theorem numsL_cons_none {p : List UInt8} {r : List (List UInt8)} (h : numB p = none) : numsL (p :: r) = none := by simp [numsL, h]
theorem numsL_cons {p : List UInt8} {r : List (List UInt8)} {n : Nat} (h : numB p = some n) : numsL (p :: r) = (numsL r).map (n :: ·) := by
  simp only [numsL, h]
  cases numsL r <;> rfl
/-- numbers read so far: out; pieces left: P -/
def NmOk (l : List UInt8) (out : List Nat) (P : List (List UInt8)) : Prop := numsB l = (numsL P).map (out ++ ·)
theorem NmOk.start (l : List UInt8) : NmOk l [] (splA l []) := by
  unfold NmOk numsB
  cases numsL (splA l []) <;> rfl
theorem NmOk.next {l : List UInt8} {out : List Nat} {p : List UInt8} {P : List (List UInt8)} {n : Nat} (h : NmOk l out (p :: P)) (hn : numB p = some n) : NmOk l (out ++ [n]) P := by
  unfold NmOk at *
  rw [h, numsL_cons hn]
  cases numsL P <;> simp
theorem NmOk.bad {l : List UInt8} {out : List Nat} {p : List UInt8} {P : List (List UInt8)} (h : NmOk l out (p :: P)) (hn : numB p = none) : numsB l = none := by
  unfold NmOk at h
  rw [h, numsL_cons_none hn]; rfl
theorem NmOk.done {l : List UInt8} {out : List Nat} (h : NmOk l out []) : numsB l = some out := by
  unfold NmOk at h
  rw [h]; simp [numsL]
theorem numsL_small : ∀ (P : List (List UInt8)) (n : List Nat), numsL P = some n → n.length = P.length ∧ ∀ x ∈ n, x < 1000000000
  | [], n, h => by simp [numsL] at h; subst h; exact ⟨rfl, fun x hx => by cases hx⟩
  | p :: r, n, h => by
    cases hp : numB p with
    | none => rw [numsL_cons_none hp] at h; cases h
    | some m =>
      rw [numsL_cons hp] at h
      cases hr : numsL r with
      | none => rw [hr] at h; cases h
      | some q =>
        rw [hr] at h
        simp only [Option.map_some, Option.some.injEq] at h
        subst h
        have h1 := numsL_small r q hr
        refine ⟨by simp [h1.1], fun x hx => ?_⟩
        rcases List.mem_cons.1 hx with rfl | hx
        · exact numB_le hp
        · exact h1.2 x hx
theorem splA_len : ∀ (l w : List UInt8), 1 ≤ (splA l w).length ∧ (splA l w).length ≤ l.length + 1
  | [], w => by simp [splA]
  | b :: r, w => by
    unfold splA
    split
    · have := splA_len r []; simp; omega
    · have := splA_len r (w ++ [b]); simp; omega
theorem splA_wlen : ∀ (l w : List UInt8), ∀ x ∈ splA l w, x.length ≤ w.length + l.length
  | [], w => by
    intro x hx
    simp only [splA, List.mem_singleton] at hx
    subst hx; simp
  | b :: r, w => by
    intro x hx
    unfold splA at hx
    split at hx
    · rcases List.mem_cons.1 hx with rfl | h
      · simp
      · have := splA_wlen r [] x h; simp at this ⊢; omega
    · have := splA_wlen r (w ++ [b]) x hx; simp at this ⊢; omega
theorem numsB_small {l : List UInt8} {n : List Nat} (h : numsB l = some n) : 1 ≤ n.length ∧ n.length ≤ l.length + 1 ∧ ∀ x ∈ n, x < 1000000000 := by
  have h1 := numsL_small _ _ h
  have h2 := splA_len l []
  exact ⟨by omega, by omega, h1.2⟩
end Go.Proofs.YtngjbiipgbeemaaDoor
