/- A text's lines, in plain Lean. No condition. -/
import Derived.Test.YtlfjchlkooemdaaDoorSpP
import Derived.Lib.Strings
import Derived.Shelf.Strings.Search1
namespace Go.Proofs.YtlfjchlkooemdaaDoor
open Go.RowKit

/-- where a line's end stands, or there is none -/
theorem line_split : ∀ (l : List UInt8), (Lib.indexByte l 10 = -1 ∧ ∀ b ∈ l, b ≠ 10) ∨ ∃ (body rest : List UInt8), l = body ++ 10 :: rest ∧ (∀ b ∈ body, b ≠ 10) ∧ Lib.indexByte l 10 = (body.length : Int)
  | [] => .inl ⟨rfl, fun b h => by cases h⟩
  | b :: l => by
    by_cases hb : b = 10
    · subst hb
      exact .inr ⟨[], l, rfl, (fun b h => by cases h), (by simp [Lib.indexByte])⟩
    · rcases line_split l with ⟨h1, h2⟩ | ⟨body, rest, h1, h2, h3⟩
      · refine .inl ⟨?_, fun c hc => ?_⟩
        · simp [Lib.indexByte, hb, h1]
        · simp only [List.mem_cons] at hc
          rcases hc with rfl | hc
          · exact hb
          · exact h2 c hc
      · refine .inr ⟨b :: body, rest, by rw [h1]; rfl, fun c hc => ?_, ?_⟩
        · simp only [List.mem_cons] at hc
          rcases hc with rfl | hc
          · exact hb
          · exact h2 c hc
        · have h4 : ¬ ((body.length : Int) = -1) := by omega
          simp [Lib.indexByte, hb, h3]
/-- the first line, and what follows -/
def nextL (l : List UInt8) : List UInt8 := if 0 ≤ Lib.indexByte l 10 then l.take ((Lib.indexByte l 10).toNat + 1) else l
def restL (l : List UInt8) : List UInt8 := if 0 ≤ Lib.indexByte l 10 then l.drop ((Lib.indexByte l 10).toNat + 1) else []
theorem next_rest (l : List UInt8) : nextL l ++ restL l = l := by
  unfold nextL restL
  split
  · exact List.take_append_drop _ _
  · simp
theorem rest_lt {l : List UInt8} (h : l ≠ []) : (restL l).length < l.length := by
  have hp := List.length_pos_iff.2 h
  unfold restL
  split
  · rw [List.length_drop]; omega
  · exact hp
def linesL : Nat → List UInt8 → List (List UInt8)
  | 0, _ => []
  | f + 1, l => if l = [] then [] else nextL l :: linesL f (restL l)
theorem linesL_fuel : ∀ (f g : Nat) (l : List UInt8), l.length ≤ f → l.length ≤ g → linesL f l = linesL g l
  | 0, g, l, h, _ => by
    obtain rfl : l = [] := List.eq_nil_of_length_eq_zero (by omega)
    cases g <;> simp [linesL]
  | f + 1, 0, l, _, h => by
    obtain rfl : l = [] := List.eq_nil_of_length_eq_zero (by omega)
    simp [linesL]
  | f + 1, g + 1, l, h1, h2 => by
    simp only [linesL]
    by_cases e : l = []
    · rw [if_pos e, if_pos e]
    · rw [if_neg e, if_neg e]
      have := rest_lt e
      rw [linesL_fuel f g (restL l) (by omega) (by omega)]
def linesOf (l : List UInt8) : List (List UInt8) := linesL l.length l
theorem linesOf_nil : linesOf [] = [] := rfl
theorem linesOf_cons {l : List UInt8} (h : l ≠ []) : linesOf l = nextL l :: linesOf (restL l) := by
  have hp := List.length_pos_iff.2 h
  have hr := rest_lt h
  unfold linesOf
  obtain ⟨k, hk⟩ : ∃ k, l.length = k + 1 := ⟨l.length - 1, by omega⟩
  rw [hk]
  show (if l = [] then [] else nextL l :: linesL k (restL l)) = _
  rw [if_neg h, linesL_fuel k (restL l).length (restL l) (by omega) (Nat.le_refl _)]
/-- the scan of a text is its first line's words and the scan of the rest -/
theorem scan_next (l : List UInt8) (i : Nat) : scan l i [] 0 = lineW (nextL l) i ++ scan (restL l) (i + (nextL l).length) [] 0 := by
  rcases line_split l with ⟨h1, h2⟩ | ⟨body, rest, h1, h2, h3⟩
  · have hn : nextL l = l := by unfold nextL; rw [if_neg (by omega)]
    have hr : restL l = [] := by unfold restL; rw [if_neg (by omega)]
    rw [hn, hr]
    have := scan_line l [] [] i l.length h2 (by simp) (.inl ⟨rfl, rfl⟩)
    simp only [List.append_nil] at this
    exact this
  · have hn : nextL l = body ++ [10] := by
      unfold nextL
      rw [if_pos (by omega), h3, Int.toNat_natCast, h1]
      rw [show body ++ 10 :: rest = (body ++ [10]) ++ rest by simp, List.take_left' (by simp)]
    have hr : restL l = rest := by
      unfold restL
      rw [if_pos (by omega), h3, Int.toNat_natCast, h1]
      rw [show body ++ 10 :: rest = (body ++ [10]) ++ rest by simp, List.drop_left' (by simp)]
    rw [hn, hr]
    have := scan_line body [10] rest i (body ++ [10]).length h2 (Nat.le_refl _) (.inr rfl)
    rw [show body ++ ([10] ++ rest) = l by rw [h1]; simp] at this
    exact this
end Go.Proofs.YtlfjchlkooemdaaDoor
