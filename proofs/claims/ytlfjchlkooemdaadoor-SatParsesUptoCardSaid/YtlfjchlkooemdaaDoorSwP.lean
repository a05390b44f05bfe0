/- For sat.words: what stands when some lines are seen, in plain Lean; a line's words, step by step. No condition. -/
import Derived.Test.YtlfjchlkooemdaaDoorLnI
namespace Go.Proofs.YtlfjchlkooemdaaDoor
open Go.RowKit

abbrev Wd0 := List UInt8 × Nat
def fwGo : List (List UInt8) → List Wd0 × Nat → List Wd0 × Nat
  | [], p => p
  | x :: r, p => fwGo r (p.1 ++ lineW x p.2, p.2 + x.length)
/-- the words of the lines so far, the place behind them -/
def fw (pre : List (List UInt8)) : List Wd0 × Nat := fwGo pre ([], 0)
theorem fwGo_snoc : ∀ (pre : List (List UInt8)) (x : List UInt8) (p : List Wd0 × Nat), fwGo (pre ++ [x]) p = ((fwGo pre p).1 ++ lineW x (fwGo pre p).2, (fwGo pre p).2 + x.length)
  | [], _, _ => rfl
  | _ :: r, x, _ => fwGo_snoc r x _
theorem fw_snoc (pre : List (List UInt8)) (x : List UInt8) : fw (pre ++ [x]) = ((fw pre).1 ++ lineW x (fw pre).2, (fw pre).2 + x.length) := fwGo_snoc pre x _
theorem fwGo_lines : ∀ (n : Nat) (l : List UInt8) (p : List Wd0 × Nat), l.length ≤ n → (fwGo (linesOf l) p).1 = p.1 ++ scan l p.2 [] 0 ∧ (fwGo (linesOf l) p).2 = p.2 + l.length
  | 0, l, p, h => by
    obtain rfl : l = [] := List.eq_nil_of_length_eq_zero (by omega)
    simp [linesOf_nil, fwGo, scan]
  | n + 1, l, p, h => by
    by_cases e : l = []
    · subst e; simp [linesOf_nil, fwGo, scan]
    · have hr := rest_lt e
      have hl := congrArg List.length (next_rest l)
      rw [List.length_append] at hl
      rw [linesOf_cons e]
      show (fwGo (linesOf (restL l)) (p.1 ++ lineW (nextL l) p.2, p.2 + (nextL l).length)).1 = _ ∧ (fwGo (linesOf (restL l)) (p.1 ++ lineW (nextL l) p.2, p.2 + (nextL l).length)).2 = _
      obtain ⟨h1, h2⟩ := fwGo_lines n (restL l) (p.1 ++ lineW (nextL l) p.2, p.2 + (nextL l).length) (by omega)
      rw [h1, h2, scan_next l p.2]
      refine ⟨by rw [List.append_assoc], ?_⟩
      show p.2 + (nextL l).length + (restL l).length = _
      omega
theorem fw_lines (l : List UInt8) : (fw (linesOf l)).1 = scan l 0 [] 0 := by
  have := (fwGo_lines l.length l ([], 0) (Nat.le_refl _)).1
  simpa [fw] using this
/-- the place behind some of the lines lies in the text -/
theorem fwGo_at : ∀ (n : Nat) (l : List UInt8) (pre : List (List UInt8)) (p : List Wd0 × Nat), l.length ≤ n → pre <+: linesOf l → (fwGo pre p).2 ≤ p.2 + l.length
  | 0, l, pre, p, h, hp => by
    obtain rfl : l = [] := List.eq_nil_of_length_eq_zero (by omega)
    rw [linesOf_nil] at hp
    obtain rfl := List.eq_nil_of_prefix_nil hp
    simp [fwGo]
  | n + 1, l, pre, p, h, hp => by
    by_cases e : l = []
    · subst e
      rw [linesOf_nil] at hp
      obtain rfl := List.eq_nil_of_prefix_nil hp
      simp [fwGo]
    · have hr := rest_lt e
      have hl := congrArg List.length (next_rest l)
      rw [List.length_append] at hl
      rw [linesOf_cons e] at hp
      cases pre with
      | nil => simp [fwGo]
      | cons y r =>
        rw [List.cons_prefix_cons] at hp
        obtain ⟨rfl, hp⟩ := hp
        have := fwGo_at n (restL l) r (p.1 ++ lineW (nextL l) p.2, p.2 + (nextL l).length) (by omega) hp
        show (fwGo r (p.1 ++ lineW (nextL l) p.2, p.2 + (nextL l).length)).2 ≤ _
        refine Nat.le_trans this ?_
        show p.2 + (nextL l).length + (restL l).length ≤ _
        omega

/-! ### A line's words, step by step -/
theorem wordsL_fuel : ∀ (f g : Nat) (l : List UInt8) (a : Nat), l.length ≤ f → l.length ≤ g → wordsL f l a = wordsL g l a
  | 0, g, l, a, h, _ => by
    obtain rfl : l = [] := List.eq_nil_of_length_eq_zero (by omega)
    cases g <;> simp [wordsL]
  | f + 1, 0, l, a, _, h => by
    obtain rfl : l = [] := List.eq_nil_of_length_eq_zero (by omega)
    simp [wordsL]
  | f + 1, g + 1, [], a, _, _ => by simp [wordsL]
  | f + 1, g + 1, b :: r, a, h1, h2 => by
    simp only [wordsL]
    simp only [List.length_cons] at h1 h2
    by_cases e : isSp b = true
    · rw [if_pos e, if_pos e]; exact wordsL_fuel f g r (a + 1) (by omega) (by omega)
    · rw [if_neg e, if_neg e]
      have hd : ((b :: r).dropWhile (fun x => !isSp x)).length ≤ r.length := by
        have e2 : isSp b = false := by simpa using e
        simp only [List.dropWhile_cons, e2, Bool.not_false, if_true]
        exact (List.dropWhile_sublist _).length_le
      rw [wordsL_fuel f g _ _ (by omega) (by omega)]
/-- the words of a line from place f on -/
def wordsF (l : List UInt8) (f a : Nat) : List Wd0 := wordsL l.length (l.drop f) (a + f)
theorem wordsF_zero (l : List UInt8) (a : Nat) : wordsF l 0 a = wordsL l.length l a := by simp [wordsF]
theorem wordsF_end (l : List UInt8) (f a : Nat) (h : l.length ≤ f) : wordsF l f a = [] := by
  unfold wordsF
  rw [List.drop_of_length_le h]
  cases l.length <;> simp [wordsL]
theorem wordsF_sp {l : List UInt8} {f a : Nat} {b : UInt8} (h : l[f]? = some b) (hb : isSp b = true) : wordsF l f a = wordsF l (f + 1) a := by
  have hf : f < l.length := (List.getElem?_eq_some_iff.1 h).1
  have hd : l.drop f = b :: l.drop (f + 1) := by rw [List.drop_eq_getElem_cons hf]; congr 1; exact (List.getElem?_eq_some_iff.1 h).2
  unfold wordsF
  obtain ⟨k, hk⟩ : ∃ k, l.length = k + 1 := ⟨l.length - 1, by omega⟩
  rw [hd]
  rw [wordsL_fuel l.length (k + 1) (b :: l.drop (f + 1)) _ (by simp; omega) (by simp; omega)]
  simp only [wordsL]
  rw [if_pos hb]
  rw [wordsL_fuel k l.length _ _ (by simp; omega) (by simp)]
  congr 1
theorem wordsF_word {l : List UInt8} {f a n : Nat} {b : UInt8} (h : l[f]? = some b) (hb : isSp b = false) (hn : n = ((l.drop f).takeWhile (fun x => !isSp x)).length) :
    wordsF l f a = ((l.drop f).take n, a + f) :: wordsF l (f + n) a := by
  have hf : f < l.length := (List.getElem?_eq_some_iff.1 h).1
  have hd : l.drop f = b :: l.drop (f + 1) := by rw [List.drop_eq_getElem_cons hf]; congr 1; exact (List.getElem?_eq_some_iff.1 h).2
  obtain ⟨m, hm⟩ : ∃ m, m = l.drop f := ⟨_, rfl⟩
  have htk : m.take n = m.takeWhile (fun x => !isSp x) := by
    rw [hn, ← hm]
    conv => lhs; arg 2; rw [← List.takeWhile_append_dropWhile (p := fun x => !isSp x) (l := m)]
    exact List.take_left
  have hdr : m.drop n = m.dropWhile (fun x => !isSp x) := by
    rw [hn, ← hm]
    conv => lhs; arg 2; rw [← List.takeWhile_append_dropWhile (p := fun x => !isSp x) (l := m)]
    exact List.drop_left
  unfold wordsF
  rw [← hm, htk, show l.drop (f + n) = m.drop n by rw [hm, List.drop_drop], hdr]
  have hml : m.length ≤ l.length := by rw [hm, List.length_drop]; omega
  rw [wordsL_fuel l.length (l.length + 1) m _ hml (by omega)]
  rw [hm, hd] at hml ⊢
  show (if isSp b = true then _ else ((b :: l.drop (f + 1)).takeWhile (fun x => !isSp x), a + f) :: wordsL l.length ((b :: l.drop (f + 1)).dropWhile (fun x => !isSp x)) (a + f + ((b :: l.drop (f + 1)).takeWhile (fun x => !isSp x)).length)) = _
  rw [if_neg (by rw [hb]; simp), show a + f + ((b :: l.drop (f + 1)).takeWhile (fun x => !isSp x)).length = a + (f + n) by rw [hn, hd]; omega]

/-! ### What the library's functions tell -/
theorem rem_eq (x : List UInt8) : Lib.hasPrefix (Lib.trimLeftS x [32, 9]) [99] = remark x := by
  have h : Lib.trimLeftS x [32, 9] = x.dropWhile (fun b => b == 32 || b == 9) := by
    unfold Lib.trimLeftS
    congr 1
    funext b
    simp [List.contains, List.elem]
    cases b == 32 <;> cases b == 9 <;> rfl
  unfold remark
  rw [h]
  cases x.dropWhile (fun b => b == 32 || b == 9) with
  | nil => rfl
  | cons b r =>
    simp only [Lib.hasPrefix, List.isPrefixOf, List.head?_cons]
    by_cases e : b = 99
    · subst e; rfl
    · have e1 : ((99 : UInt8) == b) = false := by simpa using fun h => e h.symm
      have e2 : ((some b : Option UInt8) == some 99) = false := by simpa using e
      rw [e1, e2]; rfl
theorem sp_ix (b : UInt8) : decide (0 ≤ Lib.indexByte [32, 9, 10] b) = isSp b := by
  rw [← Lib.contains_iff_indexByte]
  unfold isSp
  by_cases h1 : b = 32
  · subst h1; rfl
  · by_cases h2 : b = 9
    · subst h2; rfl
    · by_cases h3 : b = 10
      · subst h3; rfl
      · simp [h1, h2, h3]
theorem ix_tw : ∀ (l : List UInt8), (Lib.indexAny l [32, 9, 10] = -1 ∧ (l.takeWhile (fun x => !isSp x)).length = l.length) ∨ (0 ≤ Lib.indexAny l [32, 9, 10] ∧ Lib.indexAny l [32, 9, 10] = ((l.takeWhile (fun x => !isSp x)).length : Int))
  | [] => .inl ⟨rfl, rfl⟩
  | b :: l => by
    have hc : ([32, 9, 10] : List UInt8).contains b = isSp b := by rw [Lib.contains_iff_indexByte, sp_ix]
    unfold Lib.indexAny
    rw [hc]
    cases hb : isSp b
    · simp only [hb, Bool.false_eq_true, if_false, List.takeWhile_cons, Bool.not_false, if_true, List.length_cons]
      rcases ix_tw l with ⟨h1, h2⟩ | ⟨h1, h2⟩
      · left; rw [h1]; exact ⟨rfl, by omega⟩
      · right
        have h3 : (Lib.indexAny l [32, 9, 10] == -1) = false := by rw [beq_eq_false_iff_ne]; omega
        rw [h3]
        simp only [Bool.false_eq_true, if_false]
        omega
    · right
      simp [hb]
theorem wordsL_len : ∀ (f : Nat) (l : List UInt8) (a : Nat), (wordsL f l a).length ≤ l.length
  | 0, _, _ => by simp [wordsL]
  | _ + 1, [], _ => by simp [wordsL]
  | f + 1, b :: r, a => by
    simp only [wordsL]
    by_cases e : isSp b = true
    · rw [if_pos e]
      have := wordsL_len f r (a + 1)
      simp only [List.length_cons]; omega
    · rw [if_neg e]
      have e2 : isSp b = false := by simpa using e
      have hd : ((b :: r).dropWhile (fun x => !isSp x)).length ≤ r.length := by
        simp only [List.dropWhile_cons, e2, Bool.not_false, if_true]
        exact (List.dropWhile_sublist _).length_le
      have := wordsL_len f ((b :: r).dropWhile (fun x => !isSp x)) (a + ((b :: r).takeWhile (fun x => !isSp x)).length)
      simp only [List.length_cons]; omega
theorem lineW_len (l : List UInt8) (a : Nat) : (lineW l a).length ≤ l.length := by
  unfold lineW
  split
  · simp
  · exact wordsL_len _ _ _
theorem fwGo_len : ∀ (pre : List (List UInt8)) (p : List Wd0 × Nat), p.1.length ≤ p.2 → (fwGo pre p).1.length ≤ (fwGo pre p).2
  | [], _, h => h
  | x :: r, p, h => fwGo_len r _ (by
      have := lineW_len x p.2
      show (p.1 ++ lineW x p.2).length ≤ p.2 + x.length
      rw [List.length_append]; omega)
theorem fw_len (pre : List (List UInt8)) : (fw pre).1.length ≤ (fw pre).2 := fwGo_len pre ([], 0) (Nat.le_refl _)
theorem tw_pos {x : List UInt8} {f : Nat} {b : UInt8} (h : x[f]? = some b) (hb : isSp b = false) : 1 ≤ ((x.drop f).takeWhile (fun x => !isSp x)).length := by
  have hf : f < x.length := (List.getElem?_eq_some_iff.1 h).1
  have hd : x.drop f = b :: x.drop (f + 1) := by rw [List.drop_eq_getElem_cons hf]; congr 1; exact (List.getElem?_eq_some_iff.1 h).2
  rw [hd]
  simp [hb]
theorem tw_le (x : List UInt8) (f : Nat) : ((x.drop f).takeWhile (fun x => !isSp x)).length ≤ x.length - f := by
  rw [← List.length_drop]
  exact (List.takeWhile_sublist _).length_le
end Go.Proofs.YtlfjchlkooemdaaDoor
