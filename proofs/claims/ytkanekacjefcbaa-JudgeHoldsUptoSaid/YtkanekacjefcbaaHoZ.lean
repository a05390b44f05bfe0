/- How a certificate is opened. No condition. -/
import Derived.Test.YtkanekacjefcbaaRfZ
import Derived.Test.YtkanekacjefcbaaHoX
namespace Go.Proofs.Ytkanekacjefcbaa
open Go.RowKit Go.ChangeShapes Go.WideShapes Go.Deep

theorem open_pairsH {N : Nat} {H : Type} {enc : TypeId × Value → H} {w : World} {cs : List Value} (h : Good N enc Try.prog w 28 cs) :
    ∃ (A : Option Addr) (n c : Nat) (X Y : Nat → Int), cs = [.slice A n c] ∧ n ≤ N ∧ RowS w 2 A n (fun k => two (.int .i64 (X k)) (.int .i64 (Y k))) := by
  obtain ⟨A, n, c, f, e, hn, _, hN, _⟩ := good_slice 2 Try.cellsPair (by omega) Try.underlying28 h
  obtain ⟨A', n', c', X, Y, e', _, hr⟩ := open_pairs h
  rw [e] at e'
  obtain ⟨rfl, rfl, rfl⟩ : A = A' ∧ n = n' ∧ c = c' := by simpa using e'
  exact ⟨A, n, c, X, Y, e, by omega, hr⟩
theorem Try.cellsPairsH : Try.prog.cellsOf 28 = 1 := by kernel_rfl
theorem Try.cellsCertH : Try.prog.cellsOf 32 = 4 := by kernel_rfl
theorem open_cert {N : Nat} {H : Type} {enc : TypeId × Value → H} {w : World} {cs : List Value} (h : Good N enc Try.prog w 32 cs) :
    ∃ (PA : Option Addr) (np pc : Nat) (P Q : Nat → Int) (SA : Nat → Option Addr) (sc : Nat → Nat) (St : Nat → List (List Int)) (vst : Nat → List Value), cs = [.slice PA np pc, .slice (SA 0) (St 0).length (sc 0), .slice (SA 1) (St 1).length (sc 1), .slice (SA 2) (St 2).length (sc 2)] ∧
      RowS w 2 PA np (fun k => two (.int .i64 (P k)) (.int .i64 (Q k))) ∧ np ≤ N ∧ (∀ k, MatC w (SA k) (St k) (vst k)) ∧ (∀ k, (St k).length ≤ N) ∧ ∀ k, tot (St k) ≤ N := by
  have hlen := good_len Try.underlying32 h Try.cellsCertH
  obtain ⟨v0, v1, v2, v3, rfl⟩ : ∃ a b c d, cs = [a, b, c, d] := by
    match cs, hlen with
    | [a, b, c, d], _ => exact ⟨a, b, c, d, rfl⟩
  obtain ⟨PA, np, pc, P, Q, e0, hnp, hp⟩ := open_pairsH (good_field Try.underlying32 h 0 _ 1 0 rfl Try.cellsPairsH)
  obtain ⟨S0, s0, F0, f0, e1, m0, l0, t0⟩ := open_clauses (good_field Try.underlying32 h 1 _ 1 1 rfl Try.cellsMatR)
  obtain ⟨S1, s1, F1, f1, e2, m1, l1, t1⟩ := open_clauses (good_field Try.underlying32 h 2 _ 1 2 rfl Try.cellsMatR)
  obtain ⟨S2, s2, F2, f2, e3, m2, l2, t2⟩ := open_clauses (good_field Try.underlying32 h 3 _ 1 3 rfl Try.cellsMatR)
  simp at e0 e1 e2 e3
  subst e0; subst e1; subst e2; subst e3
  refine ⟨PA, np, pc, P, Q, pick3 S0 S1 S2, pick3 s0 s1 s2, pick3 F0 F1 F2, pick3 f0 f1 f2, rfl, hp, hnp, fun k => ?_, fun k => ?_, fun k => ?_⟩
  · match k with
    | 0 => exact m0
    | 1 => exact m1
    | _ + 2 => exact m2
  · match k with
    | 0 => exact l0
    | 1 => exact l1
    | _ + 2 => exact l2
  · match k with
    | 0 => exact t0
    | 1 => exact t1
    | _ + 2 => exact t2
end Go.Proofs.Ytkanekacjefcbaa
