/- The placer's book of spots: the key's law, what the book says, a look into it, a store. No condition. -/
import Derived.Test.YtlmcbhmaccncbaaDoorPcA
import Derived.Maps.OwnSet
import Derived.WideKeyPair
import Derived.DeepKeys4
namespace Go.Proofs.YtlmcbhmaccncbaaDoor
open Go.RowKit Go.Maps Go.WideMaps

theorem laidOutP : laidOutB Tryd.prog = true := by kernel_rfl
theorem lawSpot : Keyed Tryd.prog 62 := Keyed.of_law (deep_law_laid laidOutP (m := 4) (by decide) (of_decide_eq_true (by kernel_rfl)) (by kernel_rfl) (by kernel_rfl))
def keyP (a b : Int) : Lit := .string (keyBytes [.int .i64 a, .int .i64 b])
theorem wf_of {a : Int} (h0 : -9223372036854775808 ≤ a) (h1 : a ≤ 9223372036854775807) : (Lit.int .i64 a).wf = true := by
  simp [Lit.wf, IntKind.min, IntKind.max, IntKind.signed, IntKind.bits]; omega
theorem hkeyP {a b : Int} (wa : (Lit.int .i64 a).wf = true) (wb : (Lit.int .i64 b).wf = true) : keyOf Tryd.prog 62 (.agg #[.int .i64 a, .int .i64 b]) = some (keyP a b) := by
  have hkt : Tryd.prog.keyType 62 = true := by kernel_rfl
  have hc : Tryd.prog.cellsOf 62 = 2 := by kernel_rfl
  have hci : Tryd.prog.cellsOf 3 = 1 := by kernel_rfl
  obtain ⟨m, hm⟩ : ∃ m, Tryd.prog.types.size = m + 1 := ⟨_, rfl⟩
  unfold keyOf
  simp only [Tryd.underlying62]
  rw [if_pos (by simp [hkt, Value.formed, Tryd.underlying62, hc]), hm]
  unfold Program.keyLits
  simp only [Tryd.underlying62, Value.cells]
  rw [if_pos (by rw [hc]; exact ⟨rfl, by kernel_rfl⟩)]
  simp [hci, Program.keyLits, Tryd.underlying3, wa, wb, keyP]
theorem keyP_inj {a b a' b' : Int} (wa : (Lit.int .i64 a).wf = true) (wb : (Lit.int .i64 b).wf = true) (wa' : (Lit.int .i64 a').wf = true) (wb' : (Lit.int .i64 b').wf = true) (h : keyP a b = keyP a' b') : a = a' ∧ b = b' := by
  have := lawSpot.inj (hkeyP wa wb) (h ▸ hkeyP wa' wb')
  simpa using this
theorem zeroI0 (w : World) : (zeroValue 3).run Tryd.prog w = .ok (.int .i64 0) w := by kernel_rfl

/-- block b is a book that says V c x of the spot (c, x) -/
def Book (w : World) (b n : Nat) (V : Nat → Nat → Int) : Prop :=
  ∃ D : DataW Unit, w.ownsMap Tryd.prog 62 (plainElem Tryd.prog 3) b n D ∧ ∀ c x : Nat, c ≤ 1000 → x ≤ 70368744177664 → D.atKey (keyP c x) (.lit (.int .i64 0)) = .lit (.int .i64 (V c x))
theorem Book.made (w : World) : Book (w.alloc (.map #[] 0)) w.heap.size 0 (fun _ _ => 0) :=
  ⟨.map [], World.ownsMap_made w _ _ _, fun c x _ _ => by simp [DataW.atKey]⟩
theorem Book.kept {w w' : World} {b n : Nat} {V : Nat → Nat → Int} (h : Book w b n V) (e : w'.heap[b]? = w.heap[b]?) : Book w' b n V := by
  obtain ⟨D, h1, h2⟩ := h
  refine ⟨D, ?_, h2⟩
  unfold World.ownsMap at *
  rw [e]; exact h1
theorem Book.congr {w : World} {b n : Nat} {V V' : Nat → Nat → Int} (h : Book w b n V) (e : ∀ c x : Nat, c ≤ 1000 → x ≤ 70368744177664 → V' c x = V c x) : Book w b n V' := by
  obtain ⟨D, h1, h2⟩ := h
  exact ⟨D, h1, fun c x hc hx => by rw [h2 c x hc hx, e c x hc hx]⟩
theorem Book.lt {w : World} {b n : Nat} {V : Nat → Nat → Int} (h : Book w b n V) : b < w.heap.size := by
  obtain ⟨D, h1, _⟩ := h
  exact h1.lt
/-- a look at a spot, as an equation at every world with the heap -/
theorem Book.look {w : World} {b n : Nat} {V : Nat → Nat → Int} (h : Book w b n V) {c x : Nat} (hc : c ≤ 1000) (hx : x ≤ 70368744177664) (W : World) (hW : W.heap = w.heap) :
    (Instr.lookup 54 (.map (some b)) (.agg #[.int .i64 (c : Int), .int .i64 (x : Int)]) false).run Tryd.prog W = .ok (.int .i64 (V c x)) W := by
  obtain ⟨D, h1, h2⟩ := h
  have h1' : W.ownsMap Tryd.prog 62 (plainElem Tryd.prog 3) b n D := by unfold World.ownsMap at *; rw [hW]; exact h1
  obtain ⟨v, hrun, hv, _⟩ := h1'.lookup_int lawSpot Tryd.underlying54 Tryd.underlying3 (zeroI0 W) (hkeyP (a := c) (b := x) (wf_of (by omega) (by omega)) (wf_of (by omega) (by omega)))
  rw [h2 c x hc hx] at hv
  obtain rfl : V c x = v := by simpa using hv
  exact hrun
/-- a store -/
theorem Book.store {w : World} {b n : Nat} {V : Nat → Nat → Int} (h : Book w b n V) (hn : n < maxLen) {c x : Nat} (hc : c ≤ 1000) (hx : x ≤ 70368744177664) {v : Int} (hv : (Lit.int .i64 v).wf = true) :
    ∃ w', (Instr.mapUpdate 54 (.map (some b)) (.agg #[.int .i64 (c : Int), .int .i64 (x : Int)]) (.int .i64 v)).run Tryd.prog w = .ok () w' ∧ Book w' b (n + 1) (fun c' x' => if c' = c ∧ x' = x then v else V c' x') ∧ w.grownBy w' (some b) := by
  obtain ⟨D, h1, h2⟩ := h
  have wc : (Lit.int .i64 (c : Int)).wf = true := wf_of (by omega) (by omega)
  have wx : (Lit.int .i64 (x : Int)).wf = true := wf_of (by omega) (by omega)
  have hk := hkeyP wc wx
  have hkl : WideAt.IsKeyLit (keyP c x) := lawSpot.key hk
  obtain ⟨w', hrun, r1, r2⟩ := h1.update lawSpot Tryd.underlying54 hn hk (plainElem_int Tryd.underlying3 hv)
  refine ⟨w', hrun, ⟨_, r1, fun c' x' hc' hx' => ?_⟩, r2⟩
  have wc' : (Lit.int .i64 (c' : Int)).wf = true := wf_of (by omega) (by omega)
  have wx' : (Lit.int .i64 (x' : Int)).wf = true := wf_of (by omega) (by omega)
  by_cases e : keyP c' x' = keyP c x
  · obtain ⟨e1, e2⟩ := keyP_inj wc' wx' wc wx e
    have e1' : c' = c := by omega
    have e2' : x' = x := by omega
    subst e1'; subst e2'
    rw [Maps.atKey_put_same h1.isMap hkl]; simp only [and_self, if_true]
  · rw [Maps.atKey_put_other e, h2 c' x' hc' hx']; simp only [if_neg (show ¬ (c' = c ∧ x' = x) by rintro ⟨rfl, rfl⟩; exact e rfl)]
end Go.Proofs.YtlmcbhmaccncbaaDoor
