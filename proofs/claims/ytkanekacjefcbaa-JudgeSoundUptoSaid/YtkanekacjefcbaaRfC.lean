/- refute.Check, walked. Conditions: the formula and the steps lie in memory and are of the given bulk. -/
import Derived.Test.YtkanekacjefcbaaRfW
namespace Go.Proofs.Ytkanekacjefcbaa
open Go.RowKit Go.Maps Go.ChangeShapes

/-- a slice of clauses -/
structure MatC (w : World) (A : Option Addr) (cs : List (List Int)) (vs : List Value) : Prop where
  len : vs.length = cs.length
  row : Row1 w A cs.length (fun i => vs.getD i undef)
  cl : ∀ (i : Nat) (v : Value) (l : List Int), vs[i]? = some v → cs[i]? = some l → ∃ (A' : Option Addr) (d : Nat), v = .slice A' l.length d ∧ ClRow w A' l
theorem MatC.keeps {w w1 : World} {A : Option Addr} {cs : List (List Int)} {vs : List Value} (h : MatC w A cs vs) (k : Keeps w w1) : MatC w1 A cs vs :=
  ⟨h.len, h.row.keeps k, fun i v l h1 h2 => let ⟨A', d, e, h3⟩ := h.cl i v l h1 h2; ⟨A', d, e, h3.keeps k⟩⟩
/-- clause k, ready for the walk -/
theorem MatC.at_ {w : World} {A : Option Addr} {cs : List (List Int)} {vs : List Value} (h : MatC w A cs vs) {k : Nat} (hk : k < cs.length) :
    ∃ (l : List Int) (A' : Option Addr) (d b o : Nat), cs[k]? = some l ∧ vs[k]? = some (.slice A' l.length d) ∧ A = some ⟨b, o, none⟩ ∧ w.cell? ⟨b, o + k, none⟩ = some (.slice A' l.length d) ∧ ClRow w A' l := by
  have hv : k < vs.length := by rw [h.len]; exact hk
  have e1 : cs[k]? = some cs[k] := List.getElem?_eq_getElem hk
  have e2 : vs[k]? = some vs[k] := List.getElem?_eq_getElem hv
  obtain ⟨A', d, e, h3⟩ := h.cl k _ _ e2 e1
  obtain ⟨b, o, eA, hc⟩ := h.row.at_ hk
  refine ⟨cs[k], A', d, b, o, e1, by rw [e2, e], eA, ?_, h3⟩
  rw [hc, List.getD_eq_getElem?_getD, e2, e]; rfl
def tot (cs : List (List Int)) : Nat := (cs.map List.length).sum
theorem tot_app (a b : List (List Int)) : tot (a ++ b) = tot a + tot b := by simp [tot]
theorem take_next {α : Type} {l : List α} {k : Nat} {x : α} (h : l[k]? = some x) : l.take (k + 1) = l.take k ++ [x] := by
  obtain ⟨hk, e⟩ := List.getElem?_eq_some_iff.1 h
  rw [List.take_succ_eq_append_getElem hk, e]
theorem tot_take {cs : List (List Int)} {k : Nat} {l : List Int} (h : cs[k]? = some l) : tot (cs.take k) + l.length ≤ tot cs := by
  have e : cs = cs.take (k + 1) ++ cs.drop (k + 1) := (List.take_append_drop _ _).symm
  rw [take_next h] at e
  have e2 := congrArg tot e
  rw [tot_app, tot_app] at e2
  have : tot [l] = l.length := by simp [tot]
  omega
theorem tot_mem {cs : List (List Int)} {l : List Int} (h : l ∈ cs) : l.length ≤ tot cs := by
  obtain ⟨k, hk, e⟩ := List.mem_iff_getElem.1 h
  have := tot_take (cs := cs) (k := k) (l := l) (by rw [List.getElem?_eq_getElem hk, e])
  omega
theorem tot_le {cs : List (List Int)} {k : Nat} : tot (cs.take k) ≤ tot cs := by
  have e2 := congrArg tot (List.take_append_drop k cs)
  rw [tot_app] at e2
  omega
/-- a holder in the making -/
theorem Hold.start (w w5 : World) (z : Nat) (vars : Int) (hz : w.heap.size = z) (hb : Below z w w5) (hs : w5.heap.size = z + 1 + 1 + 1) (hbox : Arr w5 (z + 1 + 1) 42 5 (hV vars none 0 0 (z + 1) none 0 0)) (hmap : ∃ W : World, W.heap.size = z + 1 ∧ Below (z + 1 + 1) (W.alloc (.map #[] 0)) w5) :
    Hold w w5 (z + 1 + 1) (z + 1) (z + 1 + 1 + 1) vars [] [] none 0 0 (.map []) none 0 [] (gAll []) 0 := by
  obtain ⟨W, hW, hbW⟩ := hmap
  have hg := Grp.made (No := blockOf none) W
  rw [hW] at hg
  have hg2 : Grp (W.alloc (.map #[] 0)) (z + 1) (z + 1 + 1 + 1) 0 (.map []) 0 (fun _ _ => False) (blockOf none) := by
    obtain ⟨es, clock, h1, h2, h3, h4, h5, h6, h7⟩ := hg.own
    obtain rfl : es = #[] := by
      rw [show (W.alloc (.map #[] 0)).heap[z + 1]? = some (.map #[] 0) by rw [← hW]; exact heap_alloc_new W _] at h1
      injection h1 with h1
      injection h1 with h1 _
      exact h1.symm
    exact ⟨⟨#[], clock, h1, ⟨by simp, h2.stamped, by simp⟩, by simp, by simp, by omega, by simp, by simp⟩, hg.into, hg.shun⟩
  refine ⟨hbox, rfl, World.ownsRow_nil _ _ _ _, fun i v l h => by simp at h, ?_, World.ownsRow_nil _ _ _ _, fun z hz => by simp at hz, fun i c hi => by omega, by rw [hz]; exact hb, ⟨by omega, by omega, by omega, by omega, by omega, by omega⟩⟩
  have hsz : (W.alloc (.map #[] 0)).heap.size = z + 1 + 1 := by simp [hW]
  have h5 := hg2.below (w1 := w5) (by rw [hsz]; exact hbW)
  exact h5.mono (Nat.le_refl _) (fun i l ⟨c, h, _⟩ => by simp at h)
end Go.Proofs.Ytkanekacjefcbaa
