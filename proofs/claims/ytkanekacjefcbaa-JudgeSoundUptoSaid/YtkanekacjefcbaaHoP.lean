/- What judge.Holds and the reference's Certain both come to; the bulk of the formulas; a list of clauses of the call's own, ready for refute.Check. No condition. -/
import Derived.Test.YtkanekacjefcbaaRfC
import Derived.Test.YtkanekacjefcbaaJfC
import Derived.Test.YtkanekacjefcbaaAlikeJ
import Derived.Test.YtkanekacjefcbaaPairedJ
namespace Go.Proofs.Ytkanekacjefcbaa
open Go.RowKit

/-- a certificate holds -/
def HoldsP (a b : G) (np : Nat) (P Q : Nat → Int) (St : Nat → List (List Int)) : Prop :=
  AlikeP a b ∧ PairsOk (joint a b) np P Q ∧ ∀ k : Nat, k < 3 → CheckP (formVars (joint a b) a.n3 np k) (formC (joint a b) a.n3 np P Q k) (St k)

theorem tot_short {N : Nat} : ∀ (L : List (List Int)), Short N L → tot L ≤ N * L.length
  | [], _ => by simp [tot]
  | l :: L, h => by
    have h1 := tot_short L (fun x hx => h x (List.mem_cons_of_mem _ hx))
    have h2 := h l (by simp)
    simp only [tot, List.map_cons, List.sum_cons, List.length_cons] at *
    rw [Nat.mul_add, Nat.mul_one]
    omega
theorem tot_unlike (g : G) (fr frs : Int) (n : Nat) (P Q : Nat → Int) : tot (unlikeC g fr frs n P Q) ≤ 7 * n := by
  unfold unlikeC
  have h1 := tot_short (N := 3) (upC (diffC g fr frs P Q) n) (Short.up (fun i l hl => by
    simp [diffC] at hl
    rcases hl with rfl | rfl <;> simp) n)
  rw [diffC_len] at h1
  rw [tot_app]
  have : tot [(List.range n).map (newV g frs)] = n := by simp [tot]
  omega
theorem tot_form (g : G) (m n : Nat) (P Q : Nat → Int) (k : Nat) : tot (formC g m n P Q k) ≤ 6 + 18 * g.n2 + 6 * g.n1 + 13 * n + 7 * m := by
  have hf := fun fr => tot_short (N := 3) (frameC g fr) (short_frame g fr 3 (by omega))
  have f0 := hf 0; have f1 := hf 1
  have hs := tot_short (N := 3) (upC (sameC g 0 P Q) n) (Short.up (fun i l hl => by
    simp [sameC] at hl
    rcases hl with rfl | rfl <;> simp) n)
  have hi := tot_short (N := 3) (upC (initC g) g.n1) (Short.up (fun i l hl => by simp [initC] at hl; subst hl; simp) _)
  have hn := tot_short (N := 3) (upC (nextC g) g.n1) (Short.up (fun i l hl => by
    simp [nextC] at hl
    rcases hl with rfl | rfl <;> simp) _)
  rw [frameC_len] at f0 f1
  rw [sameC_len] at hs
  rw [initC_len] at hi
  rw [nextC_len] at hn
  have u1 := tot_unlike g 0 1 n P Q
  have u2 := tot_unlike g 1 2 n P Q
  have u3 := tot_unlike g 0 1 m g.O (fun i => g.O (m + i))
  unfold formC
  split
  · simp only [tot_app]; omega
  · split
    · simp only [tot_app]; omega
    · simp only [tot_app]; omega
/-- a list of clauses of the call's own -/
theorem Cl.mat {w : World} {base c : Nat} {A : Option Addr} {L : List (List Int)} {vs : List (Option Addr × Nat)} (h : Cl w base A c L vs) : MatC w A L (List.zipWith clauseV vs L) := by
  refine ⟨by simp [h.len], own_row1 h.own, fun i v l hv hl => ?_⟩
  have hi : i < L.length := (List.getElem?_eq_some_iff.1 hl).1
  have hiv : i < vs.length := by rw [h.len]; exact hi
  obtain ⟨x, hvi⟩ : ∃ x, vs[i]? = some x := ⟨vs[i], List.getElem?_eq_getElem hiv⟩
  have e : (List.zipWith clauseV vs L)[i]? = some (clauseV x l) := by
    rw [List.getElem?_zipWith, hvi, hl]
  rw [e] at hv
  obtain rfl := Option.some.inj hv
  exact ⟨_, _, rfl, (h.rows i _ l hvi hl).row⟩
theorem cert_and {a b : G} {np : Nat} {P Q : Nat → Int} {St : Nat → List (List Int)} {r0 r1 r2 : Bool} (hA : AlikeP a b) (hP : PairsOk (joint a b) np P Q)
    (h0 : tf (CheckP (formVars (joint a b) a.n3 np 0) (formC (joint a b) a.n3 np P Q 0) (St 0)) = r0) (h1 : tf (CheckP (formVars (joint a b) a.n3 np 1) (formC (joint a b) a.n3 np P Q 1) (St 1)) = r1) (h2 : tf (CheckP (formVars (joint a b) a.n3 np 2) (formC (joint a b) a.n3 np P Q 2) (St 2)) = r2) :
    tf (HoldsP a b np P Q St) = (r0 && r1 && r2) := by
  cases r0
  · exact tf_no (fun h => tf_eq_false.1 h0 (h.2.2 0 (by omega)))
  cases r1
  · exact tf_no (fun h => tf_eq_false.1 h1 (h.2.2 1 (by omega)))
  cases r2
  · exact tf_no (fun h => tf_eq_false.1 h2 (h.2.2 2 (by omega)))
  · refine tf_yes ⟨hA, hP, fun k hk => ?_⟩
    obtain rfl | rfl | rfl : k = 0 ∨ k = 1 ∨ k = 2 := by omega
    · exact tf_eq_true.1 h0
    · exact tf_eq_true.1 h1
    · exact tf_eq_true.1 h2

/-! ### a certificate of a graph without outlets -/
theorem follows_empty {F : List (List Int)} {c : List Int} (h : ([] : List Int) ∈ F) : FollowsP F c := follows_clash Reach.start h (fun l hl => by simp at hl)
end Go.Proofs.Ytkanekacjefcbaa
