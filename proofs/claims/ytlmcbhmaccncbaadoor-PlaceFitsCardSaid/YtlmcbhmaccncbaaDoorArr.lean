/- Arrays of the call's own, cell by cell. No condition. -/
import Derived.Test.YtlmcbhmaccncbaaDoorOwn
namespace Go.Proofs.YtlmcbhmaccncbaaDoor
open Go.RowKit

/-- block b is an array of n cells of type e -/
def Arr (w : World) (b : Nat) (e : TypeId) (n : Nat) (V : Nat → Value) : Prop := ∃ cur : Array Value, w.heap[b]? = some (.cells cur e (0, 0)) ∧ cur.size = n ∧ ∀ k, k < n → cur[k]? = some (V k)

section
variable {w w1 : World} {b n : Nat} {e : TypeId} {V V' : Nat → Value}
theorem Arr.cell (h : Arr w b e n V) {k : Nat} (hk : k < n) : w.cell? ⟨b, k, none⟩ = some (V k) := by
  obtain ⟨cur, hh, _, hc⟩ := h
  rw [cell_of_row w b k cur e _ hh, hc k hk]
theorem Arr.thaw (h : Arr w b e n V) (k : Nat) : w.frozen? ⟨b, k, none⟩ = false := by
  obtain ⟨cur, hh, _⟩ := h
  simp [World.frozen?, hh]
theorem Arr.lt (h : Arr w b e n V) : b < w.heap.size := by
  obtain ⟨cur, hh, _⟩ := h
  exact (Array.getElem?_eq_some_iff.1 hh).1
theorem Arr.set (h : Arr w b e n V) {k : Nat} {x : Value} (hV : ∀ j, j < n → j ≠ k → V' j = V j) (hx : V' k = x) : Arr (w.setCell ⟨b, k, none⟩ x) b e n V' := by
  obtain ⟨cur, hh, hn, hc⟩ := h
  refine ⟨cur.setIfInBounds k x, by simp [World.setCell, Array.getElem?_modify, hh], by simpa using hn, fun j hj => ?_⟩
  rw [Array.getElem?_setIfInBounds]
  by_cases e : k = j
  · subst e; rw [if_pos rfl, if_pos (by omega), hx]
  · rw [if_neg e, hc j hj, hV j hj (fun h => e h.symm)]
theorem Arr.only {S : Nat → Prop} (h : Arr w b e n V) (k : Only S w w1) (hs : ¬ S b) : Arr w1 b e n V := by
  obtain ⟨cur, hh, r⟩ := h
  exact ⟨cur, (k.block b (Array.getElem?_eq_some_iff.1 hh).1 hs).trans hh, r⟩
theorem Arr.below (h : Arr w b e n V) (k : Below w.heap.size w w1) : Arr w1 b e n V := by
  obtain ⟨cur, hh, r⟩ := h
  exact ⟨cur, (k.block b (Array.getElem?_eq_some_iff.1 hh).1).trans hh, r⟩
theorem Arr.heap (h : Arr w b e n V) (k : w1.heap = w.heap) : Arr w1 b e n V := by unfold Arr at *; rw [k]; exact h
theorem Arr.alloc (h : Arr w b e n V) (o : Obj) : Arr (w.alloc o) b e n V := h.below ((Below.refl _ _).alloc (Nat.le_refl _) o)
theorem Arr.congr (h : Arr w b e n V) (hV : ∀ j, j < n → V' j = V j) : Arr w b e n V' := by
  obtain ⟨cur, hh, hn, hc⟩ := h
  exact ⟨cur, hh, hn, fun j hj => by rw [hc j hj, hV j hj]⟩
theorem Arr.row (h : Arr w b e n V) : Row1 w (some ⟨b, 0, none⟩) n V := fun _ => ⟨b, 0, rfl, fun k hk => by rw [Nat.zero_add]; exact h.cell hk⟩
theorem Arr.made (w : World) (z : Value) (n : Nat) (e : TypeId) : Arr (w.alloc (.cells (madeCells #[z] n) e)) w.heap.size e n (fun _ => z) :=
  ⟨_, heap_alloc_new w _, by simp [madeCells], fun k hk => made_get z n k hk⟩
end

theorem Arr.new (w : World) (cs : Array Value) (e : TypeId) : Arr (w.alloc (.cells cs e)) w.heap.size e cs.size (fun j => cs.getD j undef) :=
  ⟨_, heap_alloc_new w _, rfl, fun k hk => by simp [hk]⟩
end Go.Proofs.YtlmcbhmaccncbaaDoor
