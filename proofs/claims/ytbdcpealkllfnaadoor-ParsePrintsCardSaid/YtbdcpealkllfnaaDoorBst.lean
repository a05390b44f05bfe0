/- Strings as lists of bytes; boxes of one, two, four cells; rows read at a place. No condition. -/
import Derived.Test.YtbdcpealkllfnaaDoorOwn
import Derived.Test.YtbdcpealkllfnaaDoorStep
import Derived.Lib.TrimUEq
import Derived.Lib.QuoteLoop
import Derived.Lib.IndexBytes
import Derived.RangeFuncOwn
import Derived.Below
import Derived.Shelf.Abstract
import Derived.Deep.DeepCutAuto
import Derived.Test.YtbdcpealkllfnaaDoorDrawn2
import Derived.Test.YtbdcpealkllfnaaDoorApS
namespace Go.Proofs.YtbdcpealkllfnaaDoor
open Go.RowKit Go.Shelf Go.Deep

/-- bytes as a string -/
def bstr (l : List UInt8) : ByteArray := ⟨l.toArray⟩
theorem bstr_list (l : List UInt8) : (bstr l).data.toList = l := rfl
theorem bstr_size (l : List UInt8) : (bstr l).size = l.length := by rw [Lib.size_eq]; rfl
theorem bstr_of (s : ByteArray) : bstr s.data.toList = s := by obtain ⟨⟨l⟩⟩ := s; rfl
theorem bstr_take (l : List UInt8) (k : Nat) : (bstr l).extract 0 k = bstr (l.take k) := by
 rw [← bstr_of ((bstr l).extract 0 k), Lib.extract_data, bstr_list, List.drop_zero, Nat.sub_zero]
theorem bstr_drop (l : List UInt8) (k : Nat) : (bstr l).extract k l.length = bstr (l.drop k) := by
 rw [← bstr_of ((bstr l).extract k l.length), ← bstr_size l, Lib.extract_to_end, bstr_list]
theorem set_box {w : World} {b : Nat} {x : Value} {t : TypeId} (h : w.heap[b]? = some (.cells #[x] t)) (v : Value) : (w.setCell ⟨b, 0, none⟩ v).heap[b]? = some (.cells #[v] t) := by
 simp [World.setCell, Array.getElem?_modify, h]
theorem bstr_toList (l : List UInt8) : (bstr l).toList = l := by rw [ByteArray.toList_eq]; rfl
theorem bstr_ext (l : List UInt8) (a b : Nat) : (bstr l).extract a b = bstr ((l.drop a).take (b - a)) := by
 rw [← bstr_of ((bstr l).extract a b), Lib.extract_data, bstr_list]
theorem own_cells {w : World} {base : Nat} {e : TypeId} {sz n c : Nat} {A : Option Addr} {xs : List Value} (h : w.ownsRow base e sz (.slice A n c) n xs) : ∀ k, blockOf A k → ∃ o : Obj, w.heap[k]? = some o ∧ o.isCells = true := by
 intro k ⟨a, ha, hk⟩
 subst ha; subst hk
 rcases h.2 with ⟨h0, _⟩ | ⟨g, cap, cur', hv, hg, hh, _⟩
 ·
  cases h0
 ·
  injection hv with e1
  injection e1 with e1
  subst e1
  exact ⟨_, hh, rfl⟩
theorem set4_0 {w : World} {b : Nat} {x0 x1 x2 x3 : Value} {t : TypeId} (h : w.heap[b]? = some (.cells #[x0, x1, x2, x3] t)) (v : Value) : (w.setCell ⟨b, 0, none⟩ v).heap[b]? = some (.cells #[v, x1, x2, x3] t) := by simp [World.setCell, Array.getElem?_modify, h]
theorem set4_1 {w : World} {b : Nat} {x0 x1 x2 x3 : Value} {t : TypeId} (h : w.heap[b]? = some (.cells #[x0, x1, x2, x3] t)) (v : Value) : (w.setCell ⟨b, 1, none⟩ v).heap[b]? = some (.cells #[x0, v, x2, x3] t) := by simp [World.setCell, Array.getElem?_modify, h]
theorem set4_2 {w : World} {b : Nat} {x0 x1 x2 x3 : Value} {t : TypeId} (h : w.heap[b]? = some (.cells #[x0, x1, x2, x3] t)) (v : Value) : (w.setCell ⟨b, 2, none⟩ v).heap[b]? = some (.cells #[x0, x1, v, x3] t) := by simp [World.setCell, Array.getElem?_modify, h]
theorem set4_3 {w : World} {b : Nat} {x0 x1 x2 x3 : Value} {t : TypeId} (h : w.heap[b]? = some (.cells #[x0, x1, x2, x3] t)) (v : Value) : (w.setCell ⟨b, 3, none⟩ v).heap[b]? = some (.cells #[x0, x1, x2, v] t) := by simp [World.setCell, Array.getElem?_modify, h]
theorem set2_0 {w : World} {b : Nat} {x0 x1 : Value} {t : TypeId} (h : w.heap[b]? = some (.cells #[x0, x1] t)) (v : Value) : (w.setCell ⟨b, 0, none⟩ v).heap[b]? = some (.cells #[v, x1] t) := by simp [World.setCell, Array.getElem?_modify, h]
theorem set2_1 {w : World} {b : Nat} {x0 x1 : Value} {t : TypeId} (h : w.heap[b]? = some (.cells #[x0, x1] t)) (v : Value) : (w.setCell ⟨b, 1, none⟩ v).heap[b]? = some (.cells #[x0, v] t) := by simp [World.setCell, Array.getElem?_modify, h]
theorem box2 {W : World} {b : Nat} {x0 x1 : Value} {t : TypeId} (h : W.heap[b]? = some (.cells #[x0, x1] t)) : (W.cell? ⟨b, 0, none⟩ = some x0 ∧ W.cell? ⟨b, 1, none⟩ = some x1) ∧ ∀ j, W.frozen? ⟨b, j, none⟩ = false := by
 refine ⟨⟨?_, ?_⟩, fun j => by simp [World.frozen?, h]⟩
 all_goals (rw [cell_of_row W b _ _ _ _ h]; rfl)
theorem box4 {W : World} {b : Nat} {x0 x1 x2 x3 : Value} {t : TypeId} (h : W.heap[b]? = some (.cells #[x0, x1, x2, x3] t)) : (W.cell? ⟨b, 0, none⟩ = some x0 ∧ W.cell? ⟨b, 1, none⟩ = some x1 ∧ W.cell? ⟨b, 2, none⟩ = some x2 ∧ W.cell? ⟨b, 3, none⟩ = some x3) ∧ ∀ j, W.frozen? ⟨b, j, none⟩ = false := by
 refine ⟨⟨?_, ?_, ?_, ?_⟩, fun j => by simp [World.frozen?, h]⟩
 all_goals (rw [cell_of_row W b _ _ _ _ h]; rfl)
theorem box1 {W : World} {b : Nat} {x0 : Value} {t : TypeId} (h : W.heap[b]? = some (.cells #[x0] t)) : W.cell? ⟨b, 0, none⟩ = some x0 ∧ ∀ j, W.frozen? ⟨b, j, none⟩ = false := by
 refine ⟨?_, fun j => by simp [World.frozen?, h]⟩
 rw [cell_of_row W b _ _ _ _ h]; rfl
theorem Only.heap {S : Nat → Prop} {A B : World} {b : Nat} {o : Obj} (k : Only S A B) (h : A.heap[b]? = some o) (hn : ¬ S b) : B.heap[b]? = some o := (k.block b (Array.getElem?_eq_some_iff.1 h).1 hn).trans h
theorem heap_below {w w1 : World} {b : Nat} {o : Obj} (hb : Below w.heap.size w w1) (h : w.heap[b]? = some o) : w1.heap[b]? = some o := (hb.block b (Array.getElem?_eq_some_iff.1 h).1).trans h
theorem ne_type {w : World} {b b' : Nat} {cur cur' : Array Value} {e e' : TypeId} (h : w.heap[b]? = some (.cells cur e)) (h' : w.heap[b']? = some (.cells cur' e')) (hne : e ≠ e') : b ≠ b' := fun hb => by
 subst hb
 rw [h] at h'
 injection h' with h'
 injection h' with _ h' _
 exact hne h'
def st2 (W : World) (b : Nat) (x0 x1 : Value) : World := (W.setCell ⟨b, 0, none⟩ x0).setCell ⟨b, 1, none⟩ x1
theorem fold2s (W : World) (b : Nat) (x0 x1 : Value) : (W.setCell ⟨b, 0, none⟩ x0).setCell ⟨b, 1, none⟩ x1 = st2 W b x0 x1 := rfl
theorem st2_only (W : World) (b : Nat) (x0 x1 : Value) : Only (fun k => k = b) W (st2 W b x0 x1) := ((Only.refl (fun k => k = b) W).setCell (p := ⟨b, 0, none⟩) (fun _ => rfl) x0).setCell (p := ⟨b, 1, none⟩) (fun _ => rfl) x1
theorem st2_heap {W : World} {b : Nat} {y0 y1 : Value} {t : TypeId} (h : W.heap[b]? = some (.cells #[y0, y1] t)) (x0 x1 : Value) : (st2 W b x0 x1).heap[b]? = some (.cells #[x0, x1] t) := set2_1 (set2_0 h _) _
theorem own_no {w : World} {base : Nat} {e : TypeId} {sz n c : Nat} {A : Option Addr} {xs : List Value} (h : w.ownsRow base e sz (.slice A n c) n xs) {b : Nat} (hb : b < base) : ¬ blockOf A b := fun hs => by have := own_base h b hs; omega
theorem Only.drewCell {S : Nat → Prop} {A B : World} (k : Only S A B) : Only S A B.drew := k.drew
theorem row1_at {w : World} {A : Option Addr} {n : Nat} {f : Nat → Value} (h : Row1 w A n f) {k : Nat} (hk : k < n) : ∃ b off, A = some ⟨b, off, none⟩ ∧ w.cell? ⟨b, off + k, none⟩ = some (f k) := by
 obtain ⟨b, off, e, hc⟩ := h (by omega)
 exact ⟨b, off, e, hc k hk⟩
theorem bstr_toL (l : List UInt8) : (bstr l).toList = l := by rw [ByteArray.toList_eq]; rfl
theorem drop_at {x : List UInt8} {i : Nat} {b : UInt8} (h : x[i]? = some b) : x.drop i = b :: x.drop (i + 1) := by
 obtain ⟨hl, rfl⟩ := List.getElem?_eq_some_iff.1 h
 exact List.drop_eq_getElem_cons hl
theorem bstr_more {W : List UInt8} {s : ByteArray} {i : Nat} {b : UInt8} (h : s.data.toList[i]? = some b) : bstr W ++ s.extract i (i + 1) = bstr (W ++ [b]) := by
 rw [← bstr_of (bstr W ++ s.extract i (i + 1))]
 refine congrArg bstr ?_
 rw [ByteArray.data_append, Array.toList_append, Lib.extract_data, bstr_list]
 refine congrArg (W ++ ·) ?_
 rw [drop_at h, Nat.add_sub_cancel_left]; rfl
end Go.Proofs.YtbdcpealkllfnaaDoor
