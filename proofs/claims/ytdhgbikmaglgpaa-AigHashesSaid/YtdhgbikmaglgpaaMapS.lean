/- Books of pairs of literals: the key's law, what a book says, a store inside a statement that draws its order. No condition. -/
import Derived.Test.YtdhgbikmaglgpaaHashP
import Derived.Test.YtdhgbikmaglgpaaClose
import Derived.Maps.OwnSet
import Derived.WideKeyPair
namespace Go.Proofs.Ytdhgbikmaglgpaa
open Go.RowKit Go.Maps Go.WideMaps

theorem arrPair : ArrKey Try.prog 59 3 2 := ⟨Try.underlying59, by kernel_rfl, Try.cellsInt, Try.cellsPair⟩
theorem lawPair : Keyed Try.prog 59 := Keyed.of_law arrPair.law
def keyP (a b : Int) : Lit := .string (keyBytes [.int .i64 a, .int .i64 b])
theorem wf_of {a : Int} (h0 : -9223372036854775808 ≤ a) (h1 : a ≤ 9223372036854775807) : (Lit.int .i64 a).wf = true := by
  simp [Lit.wf, IntKind.min, IntKind.max, IntKind.signed, IntKind.bits]; omega
theorem hkeyP {a b : Int} (wa : (Lit.int .i64 a).wf = true) (wb : (Lit.int .i64 b).wf = true) : keyOf Try.prog 59 (.agg #[.int .i64 a, .int .i64 b]) = some (keyP a b) :=
  keyOf_pair arrPair Try.underlying3 ⟨_, rfl⟩ wa wb
theorem keyP_inj {a b a' b' : Int} (wa : (Lit.int .i64 a).wf = true) (wb : (Lit.int .i64 b).wf = true) (wa' : (Lit.int .i64 a').wf = true) (wb' : (Lit.int .i64 b').wf = true) (h : keyP a b = keyP a' b') : a = a' ∧ b = b' := by
  have := lawPair.inj (hkeyP wa wb) (h ▸ hkeyP wa' wb')
  simpa using this
theorem zeroI (w : World) : (zeroValue 3).run Try.prog w = .ok (.int .i64 0) w := by kernel_rfl

/-- the datum D books the literals of the gates -/
structure Books (first : Nat) (s : HS) (D : DataW Unit) : Prop where
  map : Maps.IsMap D
  yes : ∀ a b : Int, (Lit.int .i64 a).wf = true → (Lit.int .i64 b).wf = true → Maps.has D (keyP a b) = true → ∃ i, i < s.m ∧ s.P i = a ∧ s.Q i = b ∧ D.atKey (keyP a b) (.lit (.int .i64 0)) = .lit (.int .i64 (2 * ((first : Int) + i)))
  no : ∀ a b : Int, (Lit.int .i64 a).wf = true → (Lit.int .i64 b).wf = true → Maps.has D (keyP a b) = false → ∀ i, i < s.m → ¬ (s.P i = a ∧ s.Q i = b)
theorem Books.start (first : Nat) : Books first HS.none (.map []) := ⟨Maps.isMap_empty, fun a b _ _ h => (by simp [Maps.has] at h), fun a b _ _ _ i hi => (by cases hi)⟩
theorem Books.push {first : Nat} {s : HS} {D : DataW Unit} {a b : Int} (h : Books first s D) (wa : (Lit.int .i64 a).wf = true) (wb : (Lit.int .i64 b).wf = true) :
    Books first (s.push a b) (D.put (keyP a b) (.lit (.int .i64 (2 * ((first : Int) + s.m))))) := by
  have hk : WideAt.IsKeyLit (keyP a b) := lawPair.key (hkeyP wa wb)
  refine ⟨h.map.put _ _, fun x y wx wy hh => ?_, fun x y wx wy hh i hi => ?_⟩
  · by_cases e : keyP x y = keyP a b
    · obtain ⟨rfl, rfl⟩ := keyP_inj wx wy wa wb e
      exact ⟨s.m, Nat.lt_succ_self _, by simp [HS.push], by simp [HS.push], Maps.atKey_put_same h.map hk _ _⟩
    · rw [Maps.has_put_other e] at hh
      obtain ⟨i, hi, h1, h2, h3⟩ := h.yes x y wx wy hh
      exact ⟨i, Nat.lt_succ_of_lt hi, by simp [HS.push, show i ≠ s.m by omega, h1], by simp [HS.push, show i ≠ s.m by omega, h2], by rw [Maps.atKey_put_other e]; exact h3⟩
  · by_cases e : keyP x y = keyP a b
    · rw [e, Maps.has_put_same h.map hk] at hh; cases hh
    · rw [Maps.has_put_other e] at hh
      have hi' : i < s.m + 1 := hi
      by_cases e1 : i = s.m
      · subst e1
        simp only [HS.push, if_true]
        rintro ⟨rfl, rfl⟩
        exact e rfl
      · simp only [HS.push, if_neg e1]
        exact h.no x y wx wy hh i (by omega)

set_option maxRecDepth 10000 in
/-- 'm[k] = v' at a step of a statement that draws its order -/
theorem step_mapUpdate {P : Program} {w : World} {ops : Array Oper} {o : Oper} {a : Act} {K : Act → World → Prop} {Q : Exit → Act → World → Prop} {E : Prop} (hgd : o.guard = none) (m x v : Operand) (t : TypeId)
    (hop : o.op = Op.mapUpdate t m x v) (k e : TypeId) (K' : Keyed P k) (ht : P.underlying t = some (.map k e)) (R : Value → Option (DataW Unit × List MemPlace)) (b n : Nat) (D : DataW Unit)
    (hm : a.eval m = .map (some b)) (hown : w.ownsMap P k R b n D) (hn : n < maxLen) (key val : Value) (kl : Lit) (hx : a.eval x = key) (hv : a.eval v = val) (hkey : keyOf P k key = some kl)
    (d : DataW Unit) (ps : List MemPlace) (hval : R val = some (d, ps))
    (h : ∀ w', w'.ownsMap P k R b (n + 1) (D.put kl d) → w.grownBy w' (some b) → K (a.put o.dst undef) w') :
    if Region.wanted o (yielded ops a.tmps) = true then Oper.wp P o a w K Q else E := by
  have hw : Region.wanted o (yielded ops a.tmps) = true := by simp [Region.wanted, hgd]
  rw [if_pos hw]
  obtain ⟨w', hrun, r1, r2⟩ := hown.update K' ht hn hkey hval
  unfold Oper.wp
  simp only [execOp, hop, hm, hx, hv, Sem.run_bind, hrun, Result.andThen_ok, Sem.run_pure]
  exact h w' r1 r2

/-- 'v, ok := m[k]' as an equation, at every world with the heap -/
theorem look_pair {w : World} {b n : Nat} {D : DataW Unit} {x y : Int} (h : w.ownsMap Try.prog 59 (plainElem Try.prog 3) b n D) (wx : (Lit.int .i64 x).wf = true) (wy : (Lit.int .i64 y).wf = true) :
    ∃ c : Int, D.atKey (keyP x y) (.lit (.int .i64 0)) = .lit (.int .i64 c) ∧ ∀ W : World, W.heap = w.heap → (Instr.lookup 141 (.map (some b)) (.agg #[.int .i64 x, .int .i64 y]) true).run Try.prog W = .ok (.tuple #[.int .i64 c, .bool (Maps.has D (keyP x y))]) W := by
  have hR : plainElem (H := Unit) Try.prog 3 (.int .i64 0) = some (.lit (.int .i64 0), []) := plainElem_int Try.underlying3 (by decide)
  have key : ∀ W : World, W.heap = w.heap → ∃ c : Int, D.atKey (keyP x y) (.lit (.int .i64 0)) = .lit (.int .i64 c) ∧ (Instr.lookup 141 (.map (some b)) (.agg #[.int .i64 x, .int .i64 y]) true).run Try.prog W = .ok (.tuple #[.int .i64 c, .bool (Maps.has D (keyP x y))]) W := fun W hW => by
    have hW' : W.ownsMap Try.prog 59 (plainElem Try.prog 3) b n D := by unfold World.ownsMap at *; rw [hW]; exact h
    obtain ⟨v, ps, hrun, hv⟩ := hW'.look_ok lawPair Try.underlying141 (zeroI W) hR (hkeyP wx wy)
    obtain ⟨c, rfl, hc, _⟩ := plainElem_int_inv Try.underlying3 hv
    exact ⟨c, congrArg Prod.fst hc, hrun⟩
  obtain ⟨c, hc, _⟩ := key w rfl
  refine ⟨c, hc, fun W hW => ?_⟩
  obtain ⟨c', hc', hr⟩ := key W hW
  rw [hc] at hc'
  obtain rfl : c = c' := by simpa using hc'
  exact hr
end Go.Proofs.Ytdhgbikmaglgpaa
