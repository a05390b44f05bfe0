/- Bits and bytes in plain Lean: a list of bits packed into bytes, the highest first; one bit more; the bits of a number; the check sum. No condition. Rows of bytes of the call's own, written to in place; what a writer of bits may change. No condition. -/
import Derived.Test.YtbnjbclkmjjkhaaDoorMrk
import Derived.Test.YtbnjbclkmjjkhaaDoorArr
namespace Go.Proofs.YtbnjbclkmjjkhaaDoor

def bitv (L : List Bool) (i : Nat) : Nat := if L.getD i false = true then 1 else 0
theorem bitv_le (L : List Bool) (i : Nat) : bitv L i ≤ 1 := by unfold bitv; split <;> omega
theorem bitv_far {L : List Bool} {i : Nat} (h : L.length ≤ i) : bitv L i = 0 := by simp [bitv, List.getD_eq_getElem?_getD, List.getElem?_eq_none h]
theorem bitv_old {L : List Bool} {b : Bool} {i : Nat} (h : i ≠ L.length) : bitv (L ++ [b]) i = bitv L i := by
  by_cases h1 : i < L.length
  · simp [bitv, List.getD_eq_getElem?_getD, List.getElem?_append_left h1]
  · rw [bitv_far (by simp; omega), bitv_far (by omega)]
theorem bitv_new {L : List Bool} {b : Bool} : bitv (L ++ [b]) L.length = if b = true then 1 else 0 := by simp [bitv, List.getD_eq_getElem?_getD]
/-- byte q of a list of bits -/
def byteN (L : List Bool) (q : Nat) : Nat := 128 * bitv L (8 * q) + 64 * bitv L (8 * q + 1) + 32 * bitv L (8 * q + 2) + 16 * bitv L (8 * q + 3) + 8 * bitv L (8 * q + 4) + 4 * bitv L (8 * q + 5) + 2 * bitv L (8 * q + 6) + bitv L (8 * q + 7)
theorem byteN_lt (L : List Bool) (q : Nat) : byteN L q < 256 := by
  have h0 := bitv_le L (8 * q); have h1 := bitv_le L (8 * q + 1); have h2 := bitv_le L (8 * q + 2); have h3 := bitv_le L (8 * q + 3)
  have h4 := bitv_le L (8 * q + 4); have h5 := bitv_le L (8 * q + 5); have h6 := bitv_le L (8 * q + 6); have h7 := bitv_le L (8 * q + 7)
  unfold byteN; omega
theorem byteN_far {L : List Bool} {q : Nat} (h : L.length ≤ 8 * q) : byteN L q = 0 := by
  unfold byteN
  rw [bitv_far (i := 8 * q) (by omega), bitv_far (i := 8 * q + 1) (by omega), bitv_far (i := 8 * q + 2) (by omega), bitv_far (i := 8 * q + 3) (by omega), bitv_far (i := 8 * q + 4) (by omega), bitv_far (i := 8 * q + 5) (by omega), bitv_far (i := 8 * q + 6) (by omega), bitv_far (i := 8 * q + 7) (by omega)]
theorem byteN_old {L : List Bool} {b : Bool} {q : Nat} (h : q ≠ L.length / 8) : byteN (L ++ [b]) q = byteN L q := by
  unfold byteN
  rw [bitv_old (i := 8 * q) (by omega), bitv_old (i := 8 * q + 1) (by omega), bitv_old (i := 8 * q + 2) (by omega), bitv_old (i := 8 * q + 3) (by omega), bitv_old (i := 8 * q + 4) (by omega), bitv_old (i := 8 * q + 5) (by omega), bitv_old (i := 8 * q + 6) (by omega), bitv_old (i := 8 * q + 7) (by omega)]
theorem byteN_new (L : List Bool) (b : Bool) : byteN (L ++ [b]) (L.length / 8) = byteN L (L.length / 8) + (if b = true then 1 else 0) * 2 ^ (7 - L.length % 8) ∧ byteN L (L.length / 8) % 2 ^ (8 - L.length % 8) = 0 := by
  have hn := bitv_new (L := L) (b := b)
  generalize hq : L.length / 8 = q
  have hlt : L.length % 8 < 8 := Nat.mod_lt _ (by omega)
  have h7 : ∀ i, L.length ≤ i → bitv L i = 0 := fun i h => bitv_far h
  have h8 : ∀ i, i ≠ L.length → bitv (L ++ [b]) i = bitv L i := fun i h => bitv_old h
  generalize hx : (if b = true then 1 else 0 : Nat) = x at *
  generalize hr : L.length % 8 = r at *
  have hl : L.length = 8 * q + r := by omega
  rw [hl] at hn h7 h8
  unfold byteN
  obtain rfl | rfl | rfl | rfl | rfl | rfl | rfl | rfl : r = 0 ∨ r = 1 ∨ r = 2 ∨ r = 3 ∨ r = 4 ∨ r = 5 ∨ r = 6 ∨ r = 7 := by omega
  all_goals
    (try simp only [Nat.add_zero] at hn h7 h8
     have g0 := bitv_le L (8 * q); have g1 := bitv_le L (8 * q + 1); have g2 := bitv_le L (8 * q + 2); have g3 := bitv_le L (8 * q + 3)
     have g4 := bitv_le L (8 * q + 4); have g5 := bitv_le L (8 * q + 5); have g6 := bitv_le L (8 * q + 6); have g7 := bitv_le L (8 * q + 7))
  · rw [hn, h8 _ (by omega), h8 _ (by omega), h8 _ (by omega), h8 _ (by omega), h8 _ (by omega), h8 _ (by omega), h8 _ (by omega)]
    rw [h7 (8 * q) (by omega), h7 (8 * q + 1) (by omega), h7 (8 * q + 2) (by omega), h7 (8 * q + 3) (by omega), h7 (8 * q + 4) (by omega), h7 (8 * q + 5) (by omega), h7 (8 * q + 6) (by omega), h7 (8 * q + 7) (by omega)]
    simp; omega
  · rw [hn, h8 (8 * q) (by omega), h8 (8 * q + 2) (by omega), h8 (8 * q + 3) (by omega), h8 (8 * q + 4) (by omega), h8 (8 * q + 5) (by omega), h8 (8 * q + 6) (by omega), h8 (8 * q + 7) (by omega)]
    rw [h7 (8 * q + 1) (by omega), h7 (8 * q + 2) (by omega), h7 (8 * q + 3) (by omega), h7 (8 * q + 4) (by omega), h7 (8 * q + 5) (by omega), h7 (8 * q + 6) (by omega), h7 (8 * q + 7) (by omega)]
    simp; omega
  · rw [hn, h8 (8 * q) (by omega), h8 (8 * q + 1) (by omega), h8 (8 * q + 3) (by omega), h8 (8 * q + 4) (by omega), h8 (8 * q + 5) (by omega), h8 (8 * q + 6) (by omega), h8 (8 * q + 7) (by omega)]
    rw [h7 (8 * q + 2) (by omega), h7 (8 * q + 3) (by omega), h7 (8 * q + 4) (by omega), h7 (8 * q + 5) (by omega), h7 (8 * q + 6) (by omega), h7 (8 * q + 7) (by omega)]
    simp; omega
  · rw [hn, h8 (8 * q) (by omega), h8 (8 * q + 1) (by omega), h8 (8 * q + 2) (by omega), h8 (8 * q + 4) (by omega), h8 (8 * q + 5) (by omega), h8 (8 * q + 6) (by omega), h8 (8 * q + 7) (by omega)]
    rw [h7 (8 * q + 3) (by omega), h7 (8 * q + 4) (by omega), h7 (8 * q + 5) (by omega), h7 (8 * q + 6) (by omega), h7 (8 * q + 7) (by omega)]
    simp; omega
  · rw [hn, h8 (8 * q) (by omega), h8 (8 * q + 1) (by omega), h8 (8 * q + 2) (by omega), h8 (8 * q + 3) (by omega), h8 (8 * q + 5) (by omega), h8 (8 * q + 6) (by omega), h8 (8 * q + 7) (by omega)]
    rw [h7 (8 * q + 4) (by omega), h7 (8 * q + 5) (by omega), h7 (8 * q + 6) (by omega), h7 (8 * q + 7) (by omega)]
    simp; omega
  · rw [hn, h8 (8 * q) (by omega), h8 (8 * q + 1) (by omega), h8 (8 * q + 2) (by omega), h8 (8 * q + 3) (by omega), h8 (8 * q + 4) (by omega), h8 (8 * q + 6) (by omega), h8 (8 * q + 7) (by omega)]
    rw [h7 (8 * q + 5) (by omega), h7 (8 * q + 6) (by omega), h7 (8 * q + 7) (by omega)]
    simp; omega
  · rw [hn, h8 (8 * q) (by omega), h8 (8 * q + 1) (by omega), h8 (8 * q + 2) (by omega), h8 (8 * q + 3) (by omega), h8 (8 * q + 4) (by omega), h8 (8 * q + 5) (by omega), h8 (8 * q + 7) (by omega)]
    rw [h7 (8 * q + 6) (by omega), h7 (8 * q + 7) (by omega)]
    simp; omega
  · rw [hn, h8 (8 * q) (by omega), h8 (8 * q + 1) (by omega), h8 (8 * q + 2) (by omega), h8 (8 * q + 3) (by omega), h8 (8 * q + 4) (by omega), h8 (8 * q + 5) (by omega), h8 (8 * q + 6) (by omega)]
    rw [h7 (8 * q + 7) (by omega)]
    simp; omega

/-! ### Bytes -/
def rowQ (L : List Bool) (m : Nat) : List UInt8 := (List.range m).map fun q => UInt8.ofNat (byteN L q)
def nby (L : List Bool) : Nat := (L.length + 7) / 8
def packB (L : List Bool) : List UInt8 := rowQ L (nby L)
theorem rowQ_len (L : List Bool) (m : Nat) : (rowQ L m).length = m := by simp [rowQ]
theorem packB_len (L : List Bool) : (packB L).length = nby L := rowQ_len _ _
theorem packB_new {L : List Bool} (h : L.length % 8 = 0) : rowQ L (L.length / 8 + 1) = packB L ++ [0] := by
  unfold packB nby rowQ
  rw [show (L.length + 7) / 8 = L.length / 8 by omega, List.range_succ, List.map_append, List.map_cons, List.map_nil, byteN_far (L := L) (by omega)]
  rfl
theorem packB_more {L : List Bool} (h : L.length % 8 ≠ 0) : rowQ L (L.length / 8 + 1) = packB L := by
  unfold packB nby
  rw [show (L.length + 7) / 8 = L.length / 8 + 1 by omega]
theorem packB_snoc (L : List Bool) (b : Bool) : packB (L ++ [b]) = (rowQ L (L.length / 8 + 1)).set (L.length / 8) (UInt8.ofNat (byteN L (L.length / 8) + (if b = true then 1 else 0) * 2 ^ (7 - L.length % 8))) := by
  unfold packB nby
  rw [show ((L ++ [b]).length + 7) / 8 = L.length / 8 + 1 by simp; omega]
  apply List.ext_getElem
  · simp [rowQ]
  · intro i h1 h2
    rw [List.getElem_set]
    by_cases e : L.length / 8 = i
    · subst e
      simp only [rowQ, List.getElem_map, List.getElem_range]
      rw [(byteN_new L b).1]; simp
    · rw [if_neg e]
      simp only [rowQ, List.getElem_map, List.getElem_range]
      rw [byteN_old (Ne.symm e)]
theorem packB_false (L : List Bool) : packB (L ++ [false]) = rowQ L (L.length / 8 + 1) := by
  rw [packB_snoc]
  apply List.ext_getElem
  · simp
  · intro i h1 h2
    rw [List.getElem_set]
    by_cases e : L.length / 8 = i
    · subst e; simp [rowQ]
    · rw [if_neg e]
theorem rowQ_last (L : List Bool) : (rowQ L (L.length / 8 + 1))[L.length / 8]? = some (UInt8.ofNat (byteN L (L.length / 8))) := by simp [rowQ]

/-- the bits of a number, the highest first -/
def bitsOf (v n : Nat) : List Bool := (List.range n).map fun k => decide (v / 2 ^ (n - 1 - k) % 2 = 1)
theorem bitsOf_len (v n : Nat) : (bitsOf v n).length = n := by simp [bitsOf]
theorem bitsOf_take (v n k : Nat) (h : k < n) : (bitsOf v n).take (k + 1) = (bitsOf v n).take k ++ [decide (v / 2 ^ (n - 1 - k) % 2 = 1)] := by
  rw [List.take_succ_eq_append_getElem (by rw [bitsOf_len]; exact h)]
  simp [bitsOf]

theorem or_pow : ∀ r : Fin 8, ∀ x : Fin 256, x.val % 2 ^ (r.val + 1) = 0 → bits BinOp.or .u8 (x.val : Int) ((2 ^ r.val : Nat) : Int) = ((x.val + 2 ^ r.val : Nat) : Int) := by decide +kernel
theorem or_zero : ∀ x : Fin 256, bits BinOp.or .u8 (x.val : Int) 0 = (x.val : Int) := by decide +kernel

/-! ### The check sum -/
def step1 (c : Nat) : Nat := if c % 2 = 1 then (c / 2) ^^^ 3988292384 else c / 2
def stepN : Nat → Nat → Nat
  | 0, c => c
  | k + 1, c => step1 (stepN k c)
def crcV (l : List UInt8) : Nat → Nat
  | 0 => 4294967295
  | k + 1 => stepN 8 (crcV l k ^^^ (l.getD k 0).toNat)
def crcF (l : List UInt8) : Nat := crcV l l.length ^^^ 4294967295
def be4 (c : Nat) : List UInt8 := [UInt8.ofNat (c / 16777216), UInt8.ofNat (c / 65536), UInt8.ofNat (c / 256), UInt8.ofNat c]
theorem step1_lt {c : Nat} (h : c < 4294967296) : step1 c < 4294967296 := by
  unfold step1
  split
  · exact Nat.xor_lt_two_pow (n := 32) (by omega) (by omega)
  · omega
theorem stepN_lt {c : Nat} (h : c < 4294967296) : ∀ k, stepN k c < 4294967296
  | 0 => h
  | k + 1 => step1_lt (stepN_lt h k)
theorem crcV_lt (l : List UInt8) : ∀ k, crcV l k < 4294967296
  | 0 => by unfold crcV; omega
  | k + 1 => by
    have h1 := crcV_lt l k
    have h2 : (l.getD k 0).toNat < 256 := (l.getD k 0).toNat_lt
    exact stepN_lt (Nat.xor_lt_two_pow (n := 32) h1 (by omega)) 8
theorem crcF_lt (l : List UInt8) : crcF l < 4294967296 := Nat.xor_lt_two_pow (n := 32) (crcV_lt _ _) (by omega)
end Go.Proofs.YtbnjbclkmjjkhaaDoor
namespace Go.Proofs.YtbnjbclkmjjkhaaDoor
open Go.RowKit

/-- a slice of bytes of the call's own -/
def Byt (base : Nat) (w : World) (A : Option Addr) (c : Nat) (l : List UInt8) : Prop := OwnB base w A l.length c (Lib.byteCells l)
theorem Byt.alloc {base : Nat} {w : World} {A : Option Addr} {c : Nat} {l : List UInt8} (h : Byt base w A c l) (o : Obj) : Byt base (w.alloc o) A c l := OwnB.alloc h o
theorem Byt.below {base : Nat} {w w1 : World} {A : Option Addr} {c : Nat} {l : List UInt8} (h : Byt base w A c l) (k : Below w.heap.size w w1) : Byt base w1 A c l := OwnB.below h k
theorem Byt.heap {base : Nat} {w w1 : World} {A : Option Addr} {c : Nat} {l : List UInt8} (h : Byt base w A c l) (k : w1.heap = w.heap) : Byt base w1 A c l := by unfold Byt OwnB at *; rw [k]; exact h
theorem Byt.list {base : Nat} {w : World} {A : Option Addr} {c : Nat} {l l' : List UInt8} (h : Byt base w A c l) (e : l = l') : Byt base w A c l' := e ▸ h
/-- byte i -/
theorem Byt.at_ {base : Nat} {w : World} {A : Option Addr} {c : Nat} {l : List UInt8} (h : Byt base w A c l) {i : Nat} {x : UInt8} (hx : l[i]? = some x) :
    ∃ g cur lo hi, A = some ⟨g, 0, none⟩ ∧ base ≤ g ∧ w.heap[g]? = some (.cells cur 5 (lo, hi)) ∧ w.cell? ⟨g, i, none⟩ = some (.int .u8 (x.toNat : Int)) ∧ w.frozen? ⟨g, i, none⟩ = false := by
  have hi : i < l.length := (List.getElem?_eq_some_iff.1 hx).1
  rcases h.2 with ⟨_, h0, _⟩ | ⟨g, cur, lo, hi', rfl, hb, hg, hm, hnc, _, hcs, ht⟩
  · omega
  · refine ⟨g, cur, lo, hi', rfl, hb, hg, ?_, ?_⟩
    · rw [cell_of_row w g i cur _ _ hg]
      have e : (Lib.byteCells l)[i]? = cur[i]? := by rw [← ht, List.getElem?_take, if_pos hi]; simp
      rw [← e]
      simp [Lib.byteCells, hx]
    · simp only [World.frozen?, hg, Bool.and_eq_false_iff, decide_eq_false_iff_not]
      rcases hm with hm | hm
      · right; omega
      · left; omega
theorem Byt.set {base : Nat} {w : World} {g : Nat} {c : Nat} {l : List UInt8} (h : Byt base w (some ⟨g, 0, none⟩) c l) (i : Nat) (x : UInt8) (v : Int) (hv : v = (x.toNat : Int)) : Byt base (w.setCell ⟨g, i, none⟩ (.int .u8 v)) (some ⟨g, 0, none⟩) c (l.set i x) := by
  subst hv
  refine ⟨by simp [Lib.byteCells], ?_⟩
  rcases h.2 with ⟨h0, _⟩ | ⟨g', cur, lo, hi', e, hb, hg, hm, hnc, hcm, hcs, ht⟩
  · cases h0
  · injection e with e; injection e with e; subst e
    refine .inr ⟨g, cur.setIfInBounds i (.int .u8 (x.toNat : Int)), lo, hi', rfl, hb, by simp [World.setCell, Array.getElem?_modify, hg], by simpa using hm, by simpa using hnc, hcm, by simpa using hcs, ?_⟩
    rw [List.length_set, Array.toList_setIfInBounds, List.take_set, ht]
    simp [Lib.byteCells, List.map_set]
theorem Byt.only {S : Nat → Prop} {base : Nat} {w w1 : World} {A : Option Addr} {c : Nat} {l : List UInt8} (h : Byt base w A c l) (k : Only S w w1) (hs : ∀ b, blockOf A b → ¬ S b) : Byt base w1 A c l := OwnB.only h k hs
theorem Byt.typed {base : Nat} {w : World} {A : Option Addr} {c : Nat} {l : List UInt8} (h : Byt base w A c l) : ∀ k, blockOf A k → base ≤ k ∧ ∃ cur z, w.heap[k]? = some (.cells cur 5 z) := fun k hk => by
  obtain ⟨a, rfl, rfl⟩ := hk
  rcases h.2 with ⟨h0, _⟩ | ⟨g, cur, lo, hi, h0, hb, hg, _⟩
  · cases h0
  · injection h0 with h0; subst h0
    exact ⟨hb, cur, _, hg⟩
theorem Byt.made (base : Nat) (w : World) (l : List UInt8) (hb : base ≤ w.heap.size) (hl : l.length ≤ 1000000000) : Byt base (w.alloc (.cells (Lib.byteCells l).toArray 5)) (some ⟨w.heap.size, 0, none⟩) l.length l :=
  ⟨by simp [Lib.byteCells], .inr ⟨w.heap.size, _, 0, 0, rfl, hb, heap_alloc_new w _, .inl rfl, Nat.le_refl _, by simp only [maxLen]; omega, by simp [Lib.byteCells], by
    rw [show (Lib.byteCells l).toArray.toList = Lib.byteCells l from rfl] ; exact List.take_of_length_le (by simp [Lib.byteCells])⟩⟩

/-- block bp, or a block of bytes from block base on -/
def PutS (base bp : Nat) (w : World) (k : Nat) : Prop := k = bp ∨ (base ≤ k ∧ ∃ cur z, w.heap[k]? = some (.cells cur 5 z))
theorem puts_then {base bp : Nat} {w w1 w2 : World} (h : Only (PutS base bp w) w w1) (k : Only (PutS base bp w1) w1 w2) : Only (PutS base bp w) w w2 :=
  h.then_ k (fun i hi hs => by
    rcases hs with rfl | ⟨hb, cur, z, hc⟩
    · exact .inl rfl
    · refine Classical.byContradiction fun hn => hn (.inr ⟨hb, cur, z, ?_⟩)
      rw [← h.block i hi hn]; exact hc)
theorem puts_blk {base bp : Nat} {w w1 : World} {A : Option Addr} {c : Nat} {l : List UInt8} (h : Byt base w A c l) (k : Only (blockOf A) w w1) : Only (PutS base bp w) w w1 := k.mono (fun i _ hi => .inr (h.typed i hi))
theorem puts_box {base bp : Nat} {w : World} (j : Nat) (v : Value) : Only (PutS base bp w) w (w.setCell ⟨bp, j, none⟩ v) := (Only.refl _ w).setCell (fun _ => .inl rfl) v
theorem puts_cell {base bp : Nat} {w : World} {g c : Nat} {l : List UInt8} (h : Byt base w (some ⟨g, 0, none⟩) c l) (j : Nat) (v : Value) : Only (PutS base bp w) w (w.setCell ⟨g, j, none⟩ v) :=
  (Only.refl _ w).setCell (fun _ => .inr (h.typed g ⟨_, rfl, rfl⟩)) v
theorem puts_drew {base bp : Nat} {w w1 : World} (h : Only (PutS base bp w) w w1) : Only (PutS base bp w) w w1.drew := h.drew

/-- the writer of bits of stream: its bytes, the room in the last one -/
def penV (A : Option Addr) (n c : Nat) (room : Nat) : Nat → Value
  | 0 => .slice A n c
  | _ => .int .i64 room
structure Pen (base : Nat) (w : World) (bp : Nat) (L : List Bool) (A : Option Addr) (c : Nat) : Prop where
  box : Arr w bp 101 2 (penV A (nby L) c (8 * nby L - L.length))
  row : Byt base w A c (packB L)
theorem Pen.apart {base : Nat} {w : World} {bp : Nat} {L : List Bool} {A : Option Addr} {c : Nat} (h : Pen base w bp L A c) : ¬ blockOf A bp := fun hb => by
  obtain ⟨_, cur, z, hc⟩ := h.row.typed bp hb
  obtain ⟨cur', hh, _⟩ := h.box
  rw [hc] at hh
  injection hh with hh
  injection hh with _ h2
  exact absurd h2 (by decide)
end Go.Proofs.YtbnjbclkmjjkhaaDoor
