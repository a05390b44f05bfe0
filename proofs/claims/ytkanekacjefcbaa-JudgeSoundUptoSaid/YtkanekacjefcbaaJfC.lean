/- judge.Formula and the reference's Formed for each of the three; no clause of theirs is long. Conditions: the graphs are valid and alike, the pairs are literals of the joint graph. -/
import Derived.Test.YtkanekacjefcbaaJfE
import Derived.Test.YtkanekacjefcbaaJfQ
namespace Go.Proofs.Ytkanekacjefcbaa
open Go.RowKit

section
variable (a b : G) (A1 A2 A3 B1 B2 B3 : Option Addr) (c1 c2 c3 d1 d2 d3 : Nat) (PA : Option Addr) (np pc : Nat) (P Q : Nat → Int) (w : World) (ha : a.At w A1 A2 A3) (hb : b.At w B1 B2 B3) (hva : a.Valid) (hvb : b.Valid) (hi : a.ins = b.ins) (h3 : a.n3 = b.n3)
    (hp : RowS w 2 PA np (fun k => two (.int .i64 (P k)) (.int .i64 (Q k)))) (hok : PairsOk (joint a b) np P Q) (hnp : np ≤ 2000000) (k : Nat) (hk : k < 3)
include ha hb hva hvb hi h3 hp hok hnp hk
theorem formula_any :
    Calls Try.prog 19 #[.agg #[.int .i64 a.ins, .slice A1 a.n1 c1, .slice A2 a.n2 c2, .slice A3 a.n3 c3], .agg #[.int .i64 b.ins, .slice B1 b.n1 d1, .slice B2 b.n2 d2, .slice B3 b.n3 d3], .slice PA np pc, .int .i64 k] w (FormP (formVars (joint a b) a.n3 np k) (formC (joint a b) a.n3 np P Q k) w) := by
  obtain rfl | rfl | rfl : k = 0 ∨ k = 1 ∨ k = 2 := by omega
  · exact formula0_any a b A1 A2 A3 B1 B2 B3 c1 c2 c3 d1 d2 d3 PA np pc P Q w ha hb hva hvb hi hp hok hnp
  · exact formula1_any a b A1 A2 A3 B1 B2 B3 c1 c2 c3 d1 d2 d3 PA np pc P Q w ha hb hva hvb hi hp hok hnp
  · exact formula2_any a b A1 A2 A3 B1 B2 B3 c1 c2 c3 d1 d2 d3 PA np pc P Q w ha hb hva hvb hi h3 hp hok hnp
theorem formed_any :
    Calls Try.prog 23 #[.agg #[.int .i64 a.ins, .slice A1 a.n1 c1, .slice A2 a.n2 c2, .slice A3 a.n3 c3], .agg #[.int .i64 b.ins, .slice B1 b.n1 d1, .slice B2 b.n2 d2, .slice B3 b.n3 d3], .slice PA np pc, .int .i64 k] w (FormP (formVars (joint a b) a.n3 np k) (formC (joint a b) a.n3 np P Q k) w) := by
  obtain rfl | rfl | rfl : k = 0 ∨ k = 1 ∨ k = 2 := by omega
  · exact formed0_any a b A1 A2 A3 B1 B2 B3 c1 c2 c3 d1 d2 d3 PA np pc P Q w ha hb hva hvb hi hp hok hnp
  · exact formed1_any a b A1 A2 A3 B1 B2 B3 c1 c2 c3 d1 d2 d3 PA np pc P Q w ha hb hva hvb hi hp hok hnp
  · exact formed2_any a b A1 A2 A3 B1 B2 B3 c1 c2 c3 d1 d2 d3 PA np pc P Q w ha hb hva hvb hi h3 hp hok hnp
end

/-- no clause is long -/
def Short (N : Nat) (L : List (List Int)) : Prop := ∀ l, l ∈ L → l.length ≤ N
theorem Short.app {N : Nat} {L M : List (List Int)} (h : Short N L) (k : Short N M) : Short N (L ++ M) := fun l hl => (List.mem_append.1 hl).elim (h l) (k l)
theorem Short.up {N : Nat} {f : Nat → List (List Int)} (h : ∀ i, Short N (f i)) : ∀ k, Short N (upC f k)
  | 0 => fun l hl => by simp [upC] at hl
  | k + 1 => (Short.up h k).app (h k)
theorem short_frame (g : G) (fr : Int) (N : Nat) (h : 3 ≤ N) : Short N (frameC g fr) := fun l hl => by
  unfold frameC at hl
  rcases List.mem_cons.1 hl with rfl | hl
  · simp; omega
  · refine Short.up (f := gateC g fr) (fun i l hl => ?_) g.n2 l hl
    simp [gateC] at hl
    rcases hl with rfl | rfl | rfl <;> simp <;> omega
theorem short_unlike (g : G) (fr frs : Int) (n N : Nat) (P Q : Nat → Int) (h : 3 ≤ N) (hn : n ≤ N) : Short N (unlikeC g fr frs n P Q) := by
  unfold unlikeC
  refine Short.app (Short.up (fun i l hl => ?_) n) (fun l hl => ?_)
  · simp [diffC] at hl
    rcases hl with rfl | rfl <;> simp <;> omega
  · simp at hl
    subst hl
    simpa using hn
theorem short_form (g : G) (m n N : Nat) (P Q : Nat → Int) (k : Nat) (h : 3 ≤ N) (hn : n ≤ N) (hm : m ≤ N) : Short N (formC g m n P Q k) := by
  have hs : ∀ fr : Int, Short N (upC (sameC g fr P Q) n) := fun fr => Short.up (fun i l hl => by
    simp [sameC] at hl
    rcases hl with rfl | rfl <;> simp <;> omega) n
  unfold formC
  split
  · exact ((short_frame g _ N h).app (Short.up (fun i l hl => by simp [initC] at hl; subst hl; simp; omega) _)).app (short_unlike g _ _ n N P Q h hn)
  · split
    · refine ((((short_frame g _ N h).app (short_frame g _ N h)).app (Short.up (fun i l hl => ?_) _)).app (hs 0)).app (short_unlike g _ _ n N P Q h hn)
      simp [nextC] at hl
      rcases hl with rfl | rfl <;> simp <;> omega
    · exact ((short_frame g _ N h).app (hs 0)).app (short_unlike g _ _ m N _ _ h hm)
theorem formC_len (g : G) (m n : Nat) (P Q : Nat → Int) (k : Nat) : (formC g m n P Q k).length ≤ 3 + 6 * g.n2 + 2 * g.n1 + 4 * n + 2 * m := by
  unfold formC
  split
  · simp only [List.length_append, frameC_len, initC_len, unlikeC, diffC_len]; simp; omega
  · split
    · simp only [List.length_append, frameC_len, nextC_len, sameC_len, unlikeC, diffC_len]; simp; omega
    · simp only [List.length_append, frameC_len, sameC_len, unlikeC, diffC_len]; simp; omega
theorem Short.at_ {N : Nat} {L : List (List Int)} (h : Short N L) (i : Nat) : (L.getD i []).length ≤ N := by
  rw [List.getD_eq_getElem?_getD]
  cases hh : L[i]? with
  | none => simp
  | some l => exact h l (List.mem_of_getElem? hh)
end Go.Proofs.Ytkanekacjefcbaa
