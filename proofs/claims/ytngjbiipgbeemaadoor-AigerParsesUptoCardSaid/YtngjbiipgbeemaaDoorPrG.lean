/- A graph's text, by its lines. Plain Lean. -/
import Derived.Test.YtngjbiipgbeemaaDoorPrP
import Derived.Test.YtngjbiipgbeemaaDoorGraph
namespace Go.Proofs.YtngjbiipgbeemaaDoor
open Go.RowKit

/-- the first line -/
def G.headT (word : List UInt8) (g : G) : List UInt8 := word ++ [32] ++ lineOf [1 + g.ins + g.n1 + g.n2 - 1, g.ins, g.n1, g.n3, g.n2]
def G.latL (g : G) (i : Nat) : List Int := if g.I i = true then [2 * (1 + g.ins + i), g.L i, 1] else [2 * (1 + g.ins + i), g.L i]
def G.andL (g : G) (i : Nat) : List Int := [2 * (1 + g.ins + g.n1 + i), g.X i, g.Y i]
def G.insT (g : G) (k : Nat) : List UInt8 := g.headT [97, 97, 103] ++ cat (fun i => lineOf [2 * (1 + (i : Int))]) k
def G.latT (g : G) (k : Nat) : List UInt8 := g.insT g.ins.toNat ++ cat (fun i => lineOf (g.latL i)) k
def G.outT (g : G) (k : Nat) : List UInt8 := g.latT g.n1 ++ cat (fun i => lineOf [g.O i]) k
def G.text (g : G) (k : Nat) : List UInt8 := g.outT g.n3 ++ cat (fun i => lineOf (g.andL i)) k

theorem lineOf_len {l : List Int} (h : ∀ x ∈ l, -9223372036854775808 ≤ x ∧ x ≤ 9223372036854775807) : (lineOf l).length ≤ l.length * 22 + 1 := by
  have := upTo_len (X := fun k => l.getD k 0) l.length (fun k hk => by
    show _ ≤ l.getD k 0 ∧ l.getD k 0 ≤ _
    have e : l.getD k 0 = l[k] := by rw [List.getD_eq_getElem?_getD, List.getElem?_eq_getElem hk]; rfl
    rw [e]; exact h _ (List.getElem_mem hk))
  simp only [lineOf, List.length_append, List.length_singleton]; omega

/-- all the numbers of the lines are small -/
structure G.Small (g : G) : Prop where
  v : g.Valid
  lat : ∀ i, i < g.n1 → 0 ≤ g.L i ∧ g.L i ≤ 120000
  outs : ∀ i, i < g.n3 → 0 ≤ g.O i ∧ g.O i ≤ 120000
  ands : ∀ i, i < g.n2 → 0 ≤ g.X i ∧ g.X i ≤ 120000 ∧ 0 ≤ g.Y i ∧ g.Y i ≤ 120000
theorem G.Valid.small {g : G} (h : g.Valid) : g.Small := by
  have hn := h.n; have h0 := h.i0
  refine ⟨h, fun i hi => ?_, fun i hi => ?_, fun i hi => ?_⟩
  · have := h.lat i hi; unfold G.LitOk at this; omega
  · have := h.outs i hi; unfold G.LitOk at this; omega
  · have := h.ands i hi; unfold G.AndOk at this; omega

theorem G.head_len {g : G} (h : g.Small) (word : List UInt8) (hw : word.length ≤ 100) : (g.headT word).length ≤ 300 := by
  have := h.v.i0; have := h.v.i1; have := h.v.n; have := h.v.n1; have := h.v.n3
  have := lineOf_len (l := [1 + g.ins + g.n1 + g.n2 - 1, g.ins, g.n1, g.n3, g.n2]) (fun x hx => by simp at hx; rcases hx with rfl | rfl | rfl | rfl | rfl <;> omega)
  simp only [G.headT, List.length_append, List.length_cons, List.length_nil] at *
  omega
theorem G.insT_len {g : G} (h : g.Small) {k : Nat} (hk : k ≤ 60000) : (g.insT k).length ≤ 2000000 := by
  have h1 := G.head_len h [97, 97, 103] (by simp)
  have h2 := cat_len (f := fun i => lineOf [2 * (1 + (i : Int))]) (B := 23) k (fun i hi => by
    have := lineOf_len (l := [2 * (1 + (i : Int))]) (fun x hx => by simp at hx; subst hx; omega)
    simpa using this)
  unfold G.insT; simp only [List.length_append]; omega
theorem G.latL_len {g : G} (h : g.Small) {i : Nat} (hi : i < g.n1) : (lineOf (g.latL i)).length ≤ 67 := by
  have := h.v.i0; have := h.v.i1; have := h.v.n; have := h.v.n1
  have hl := h.lat i hi
  have h1 := lineOf_len (l := g.latL i) (fun x hx => by
    unfold G.latL at hx
    split at hx
    · simp at hx; rcases hx with rfl | rfl | rfl <;> omega
    · simp at hx; rcases hx with rfl | rfl <;> omega)
  have h2 : (g.latL i).length ≤ 3 := by unfold G.latL; split <;> simp
  omega
theorem G.latT_len {g : G} (h : g.Small) {k : Nat} (hk : k ≤ g.n1) : (g.latT k).length ≤ 3000000 := by
  have := h.v.n1; have := h.v.i0; have := h.v.i1
  have h1 := G.insT_len h (k := g.ins.toNat) (by omega)
  have h2 := cat_len (f := fun i => lineOf (g.latL i)) (B := 67) k (fun i hi => G.latL_len h (by omega))
  unfold G.latT; simp only [List.length_append]; omega
theorem G.outT_len {g : G} (h : g.Small) {k : Nat} (hk : k ≤ g.n3) : (g.outT k).length ≤ 5000000 := by
  have := h.v.n3
  have h1 := G.latT_len h (k := g.n1) (Nat.le_refl _)
  have h2 := cat_len (f := fun i => lineOf [g.O i]) (B := 23) k (fun i hi => by
    have := h.outs i (by omega)
    have := lineOf_len (l := [g.O i]) (fun x hx => by simp at hx; subst hx; omega)
    simpa using this)
  unfold G.outT; simp only [List.length_append]; omega
theorem G.text_len {g : G} (h : g.Small) {k : Nat} (hk : k ≤ g.n2) : (g.text k).length ≤ 10000000 := by
  have := h.v.n; have := h.v.i0
  have h1 := G.outT_len h (k := g.n3) (Nat.le_refl _)
  have h2 := cat_len (f := fun i => lineOf (g.andL i)) (B := 67) k (fun i hi => by
    have := h.ands i (by omega)
    have := lineOf_len (l := g.andL i) (fun x hx => by unfold G.andL at hx; simp at hx; rcases hx with rfl | rfl | rfl <;> omega)
    simpa [G.andL] using this)
  unfold G.text; simp only [List.length_append]; omega
end Go.Proofs.YtngjbiipgbeemaaDoor
