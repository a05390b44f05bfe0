/- Rows of bytes of the call's own, written to in place; what a writer of bits may change. No condition. -/
import Derived.Test.YtbnjbclkmjjkhaaDoorBtP
import Derived.Test.YtbnjbclkmjjkhaaDoorArr
namespace Go.Proofs.YtbnjbclkmjjkhaaDoor
open Go.RowKit

/-- a slice of bytes of the call's own -/
def Byt (base : Nat) (w : World) (A : Option Addr) (c : Nat) (l : List UInt8) : Prop := OwnB base w A l.length c (Lib.byteCells l)
theorem Byt.alloc {base : Nat} {w : World} {A : Option Addr} {c : Nat} {l : List UInt8} (h : Byt base w A c l) (o : Obj) : Byt base (w.alloc o) A c l := OwnB.alloc h o
theorem Byt.below {base : Nat} {w w1 : World} {A : Option Addr} {c : Nat} {l : List UInt8} (h : Byt base w A c l) (k : Below w.heap.size w w1) : Byt base w1 A c l := OwnB.below h k
theorem Byt.heap {base : Nat} {w w1 : World} {A : Option Addr} {c : Nat} {l : List UInt8} (h : Byt base w A c l) (k : w1.heap = w.heap) : Byt base w1 A c l := by unfold Byt OwnB at *; rw [k]; exact h
theorem Byt.list {base : Nat} {w : World} {A : Option Addr} {c : Nat} {l l' : List UInt8} (h : Byt base w A c l) (e : l = l') : Byt base w A c l' := e ▸ h
/-- byte i -/
theorem Byt.at_ {base : Nat} {w : World} {A : Option Addr} {c : Nat} {l : List UInt8} (h : Byt base w A c l) {i : Nat} {x : UInt8} (hx : l[i]? = some x) :
    ∃ g cur lo hi, A = some ⟨g, 0, none⟩ ∧ base ≤ g ∧ w.heap[g]? = some (.cells cur 5 (lo, hi)) ∧ w.cell? ⟨g, i, none⟩ = some (.int .u8 (x.toNat : Int)) ∧ w.frozen? ⟨g, i, none⟩ = false := by
  have hi : i < l.length := (List.getElem?_eq_some_iff.1 hx).1
  rcases h.2 with ⟨_, h0, _⟩ | ⟨g, cur, lo, hi', rfl, hb, hg, hm, hnc, _, hcs, ht⟩
  · omega
  · refine ⟨g, cur, lo, hi', rfl, hb, hg, ?_, ?_⟩
    · rw [cell_of_row w g i cur _ _ hg]
      have e : (Lib.byteCells l)[i]? = cur[i]? := by rw [← ht, List.getElem?_take, if_pos hi]; simp
      rw [← e]
      simp [Lib.byteCells, hx]
    · simp only [World.frozen?, hg, Bool.and_eq_false_iff, decide_eq_false_iff_not]
      rcases hm with hm | hm
      · right; omega
      · left; omega
theorem Byt.set {base : Nat} {w : World} {g : Nat} {c : Nat} {l : List UInt8} (h : Byt base w (some ⟨g, 0, none⟩) c l) (i : Nat) (x : UInt8) (v : Int) (hv : v = (x.toNat : Int)) : Byt base (w.setCell ⟨g, i, none⟩ (.int .u8 v)) (some ⟨g, 0, none⟩) c (l.set i x) := by
  subst hv
  refine ⟨by simp [Lib.byteCells], ?_⟩
  rcases h.2 with ⟨h0, _⟩ | ⟨g', cur, lo, hi', e, hb, hg, hm, hnc, hcm, hcs, ht⟩
  · cases h0
  · injection e with e; injection e with e; subst e
    refine .inr ⟨g, cur.setIfInBounds i (.int .u8 (x.toNat : Int)), lo, hi', rfl, hb, by simp [World.setCell, Array.getElem?_modify, hg], by simpa using hm, by simpa using hnc, hcm, by simpa using hcs, ?_⟩
    rw [List.length_set, Array.toList_setIfInBounds, List.take_set, ht]
    simp [Lib.byteCells, List.map_set]
theorem Byt.only {S : Nat → Prop} {base : Nat} {w w1 : World} {A : Option Addr} {c : Nat} {l : List UInt8} (h : Byt base w A c l) (k : Only S w w1) (hs : ∀ b, blockOf A b → ¬ S b) : Byt base w1 A c l := OwnB.only h k hs
theorem Byt.typed {base : Nat} {w : World} {A : Option Addr} {c : Nat} {l : List UInt8} (h : Byt base w A c l) : ∀ k, blockOf A k → base ≤ k ∧ ∃ cur z, w.heap[k]? = some (.cells cur 5 z) := fun k hk => by
  obtain ⟨a, rfl, rfl⟩ := hk
  rcases h.2 with ⟨h0, _⟩ | ⟨g, cur, lo, hi, h0, hb, hg, _⟩
  · cases h0
  · injection h0 with h0; subst h0
    exact ⟨hb, cur, _, hg⟩
theorem Byt.made (base : Nat) (w : World) (l : List UInt8) (hb : base ≤ w.heap.size) (hl : l.length ≤ 1000000000) : Byt base (w.alloc (.cells (Lib.byteCells l).toArray 5)) (some ⟨w.heap.size, 0, none⟩) l.length l :=
  ⟨by simp [Lib.byteCells], .inr ⟨w.heap.size, _, 0, 0, rfl, hb, heap_alloc_new w _, .inl rfl, Nat.le_refl _, by simp only [maxLen]; omega, by simp [Lib.byteCells], by
    rw [show (Lib.byteCells l).toArray.toList = Lib.byteCells l from rfl] ; exact List.take_of_length_le (by simp [Lib.byteCells])⟩⟩

/-- block bp, or a block of bytes from block base on -/
def PutS (base bp : Nat) (w : World) (k : Nat) : Prop := k = bp ∨ (base ≤ k ∧ ∃ cur z, w.heap[k]? = some (.cells cur 5 z))
theorem puts_then {base bp : Nat} {w w1 w2 : World} (h : Only (PutS base bp w) w w1) (k : Only (PutS base bp w1) w1 w2) : Only (PutS base bp w) w w2 :=
  h.then_ k (fun i hi hs => by
    rcases hs with rfl | ⟨hb, cur, z, hc⟩
    · exact .inl rfl
    · refine Classical.byContradiction fun hn => hn (.inr ⟨hb, cur, z, ?_⟩)
      rw [← h.block i hi hn]; exact hc)
theorem puts_blk {base bp : Nat} {w w1 : World} {A : Option Addr} {c : Nat} {l : List UInt8} (h : Byt base w A c l) (k : Only (blockOf A) w w1) : Only (PutS base bp w) w w1 := k.mono (fun i _ hi => .inr (h.typed i hi))
theorem puts_box {base bp : Nat} {w : World} (j : Nat) (v : Value) : Only (PutS base bp w) w (w.setCell ⟨bp, j, none⟩ v) := (Only.refl _ w).setCell (fun _ => .inl rfl) v
theorem puts_cell {base bp : Nat} {w : World} {g c : Nat} {l : List UInt8} (h : Byt base w (some ⟨g, 0, none⟩) c l) (j : Nat) (v : Value) : Only (PutS base bp w) w (w.setCell ⟨g, j, none⟩ v) :=
  (Only.refl _ w).setCell (fun _ => .inr (h.typed g ⟨_, rfl, rfl⟩)) v
theorem puts_drew {base bp : Nat} {w w1 : World} (h : Only (PutS base bp w) w w1) : Only (PutS base bp w) w w1.drew := h.drew

/-- the writer of bits of stream: its bytes, the room in the last one -/
def penV (A : Option Addr) (n c : Nat) (room : Nat) : Nat → Value
  | 0 => .slice A n c
  | _ => .int .i64 room
structure Pen (base : Nat) (w : World) (bp : Nat) (L : List Bool) (A : Option Addr) (c : Nat) : Prop where
  box : Arr w bp 101 2 (penV A (nby L) c (8 * nby L - L.length))
  row : Byt base w A c (packB L)
theorem Pen.apart {base : Nat} {w : World} {bp : Nat} {L : List Bool} {A : Option Addr} {c : Nat} (h : Pen base w bp L A c) : ¬ blockOf A bp := fun hb => by
  obtain ⟨_, cur, z, hc⟩ := h.row.typed bp hb
  obtain ⟨cur', hh, _⟩ := h.box
  rw [hc] at hh
  injection hh with hh
  injection hh with _ h2
  exact absurd h2 (by decide)
end Go.Proofs.YtbnjbclkmjjkhaaDoor
