/- Bytes that lie in memory: a part of them as a string, the place of a byte; the unpacker's box. Condition: the bytes lie in memory. -/
import Derived.Test.YtngjbiipgbeemaaDoorAuP
import Derived.Test.YtngjbiipgbeemaaDoorLnC
namespace Go.Proofs.YtngjbiipgbeemaaDoor
open Go.RowKit Go.Shelf Go.Deep

def MemB (w : World) (bA oA : Nat) (l : List UInt8) : Prop := ∀ k, k < l.length → w.cell? ⟨bA, oA + k, none⟩ = some (.int .u8 ((l.getD k 0).toNat : Int))
theorem MemB.keeps {w w1 : World} {bA oA : Nat} {l : List UInt8} (h : MemB w bA oA l) (k : Keeps w w1) : MemB w1 bA oA l := fun j hj => k _ _ (h j hj)
theorem MemB.below {w w1 : World} {bA oA : Nat} {l : List UInt8} (h : MemB w bA oA l) (k : Below w.heap.size w w1) : MemB w1 bA oA l := h.keeps (Keeps.of_below k)
theorem MemB.only {w w1 : World} {bA oA : Nat} {l : List UInt8} {S : Nat → Prop} (h : MemB w bA oA l) (k : Only S w w1) (hn : ¬ S bA) : MemB w1 bA oA l := fun j hj => k.cell (h j hj) hn
theorem MemB.drew {w : World} {bA oA : Nat} {l : List UInt8} (h : MemB w bA oA l) : MemB w.drew bA oA l := h.below ((Below.refl _ w).drew)
/-- the unpacker -/
def UpAt (w : World) (bu : Nat) (bA oA n c p : Nat) : Prop := w.heap[bu]? = some (.cells #[.slice (some ⟨bA, oA, none⟩) n c, .int .i64 (p : Int)] 78)
/-- the index of the line's end -/
theorem ix_take : ∀ m : List UInt8, Lib.indexByte m 10 = if (m.takeWhile (· != 10)).length < m.length then ((m.takeWhile (· != 10)).length : Int) else -1
  | [] => by simp [Lib.indexByte]
  | b :: r => by
    unfold Lib.indexByte
    by_cases e : b = 10
    · subst e
      simp
    · rw [if_neg (by simpa using e), ix_take r]
      have hb : (b != 10) = true := by simpa using e
      rw [List.takeWhile_cons, if_pos hb]
      simp only [List.length_cons]
      by_cases h : (r.takeWhile (· != 10)).length < r.length
      · rw [if_pos h, if_neg (by simp <;> omega), if_pos (by omega)]
        push_cast
        try rfl
      · rw [if_neg h, if_pos (by simp), if_neg (by omega)]
/-- how many bytes stand ahead of the line's end -/
def lnK (l : List UInt8) (p : Nat) : Nat := ((l.drop p).takeWhile (· != 10)).length
theorem lnB_k {l : List UInt8} {p : Nat} (h : p + lnK l p < l.length) : lnB l p = some ((l.drop p).take (lnK l p), p + lnK l p + 1) := if_pos h
theorem lnB_no {l : List UInt8} {p : Nat} (h : ¬ p + lnK l p < l.length) : lnB l p = none := if_neg h
theorem ix_k (l : List UInt8) {p : Nat} (hp : p ≤ l.length) : Lib.indexByte (l.drop p) 10 = if p + lnK l p < l.length then (lnK l p : Int) else -1 := by
  rw [ix_take, List.length_drop]
  unfold lnK
  by_cases h : p + ((l.drop p).takeWhile (· != 10)).length < l.length
  · rw [if_pos h, if_pos (by omega)]
  · rw [if_neg h, if_neg (by omega)]
theorem bytes_back (m : List UInt8) : Lib.bytesOf (m.map (fun b => (b.toNat : Int))) = m := by
  unfold Lib.bytesOf
  rw [List.map_map]
  refine (List.map_congr_left (g := id) (fun b _ => ?_)).trans (List.map_id _)
  simp
theorem ix_any (w : World) (bA oA c : Nat) (l : List UInt8) (p : Nat) (hM : MemB w bA oA l) (hp : p ≤ l.length) (hc : l.length ≤ c) :
    Calls Tryd.prog 46 #[.slice (if c = p then some ⟨bA, oA, none⟩ else some ⟨bA, oA + p, none⟩) (l.length - p) (c - p), .int .u8 10] w fun e w' => e = .returned (.int .i64 (if p + lnK l p < l.length then (lnK l p : Int) else -1)) ∧ w' = w := by
  by_cases e : c = p
  · rw [if_pos e]
    refine (Tryd.bytes_IndexByte bA oA (l.length - p) (c - p) [] 10 w (by simp; omega) (fun i hi => by omega)).mono ?_
    rintro e w' ⟨rfl, rfl⟩
    rw [if_neg (by omega)]
    exact ⟨rfl, rfl⟩
  · rw [if_neg e]
    refine (Tryd.bytes_IndexByte bA (oA + p) (l.length - p) (c - p) ((l.drop p).map (fun b => (b.toNat : Int))) 10 w (by simp) (fun i hi => ?_)).mono ?_
    · have h := hM (p + i) (by omega)
      rw [← Nat.add_assoc] at h
      rw [h, List.getD_eq_getElem?_getD, List.getD_eq_getElem?_getD, List.getElem?_map, List.getElem?_drop, List.getElem?_eq_getElem (by omega)]
      rfl
    · rintro e w' ⟨rfl, rfl⟩
      rw [bytes_back, show (10 : Int).toNat.toUInt8 = 10 from rfl, ix_k l hp]
      exact ⟨rfl, rfl⟩
theorem conv_any (w : World) (bA oA c : Nat) (l : List UInt8) (p n : Nat) (hM : MemB w bA oA l) (hp : p + n ≤ l.length) :
    (convert 30 9 (.slice (some ⟨bA, oA + p, none⟩) n c)).run Tryd.prog w = .ok (.string (bstr ((l.drop p).take n))) w := by
  have h := run_convert_bytes_back (P := Tryd.prog) w 30 9 5 ⟨bA, oA + p, none⟩ c ((l.drop p).take n) Tryd.underlying30 Tryd.underlying5 Tryd.underlying9 (fun j hj => by
    rw [List.length_take, List.length_drop] at hj
    have h := hM (p + j) (by omega)
    rw [← Nat.add_assoc] at h
    rw [show (⟨bA, oA + p, none⟩ : Addr).add j = ⟨bA, oA + p + j, none⟩ by simp [Addr.add], h, List.getD_eq_getElem?_getD, List.getElem?_eq_getElem (by omega), List.getElem_take, List.getElem_drop]
    rfl)
  rw [List.length_take, List.length_drop, Nat.min_eq_left (by omega)] at h
  exact h
/-- the bytes from a place on, as a string -/
theorem conv_tail (w : World) (bA oA c : Nat) (l : List UInt8) (p : Nat) (hM : MemB w bA oA l) (hp : p ≤ l.length) (hc : l.length ≤ c) :
    (convert 30 9 (.slice (if c = p then some ⟨bA, oA, none⟩ else some ⟨bA, oA + p, none⟩) (l.length - p) (c - p))).run Tryd.prog w = .ok (.string (bstr (l.drop p))) w := by
  by_cases e : c = p
  · rw [if_pos e]
    have h := conv_any w bA oA (c - p) l 0 0 hM (by omega)
    rw [List.drop_eq_nil_of_le (show l.length ≤ p by omega), show l.length - p = 0 by omega]
    exact h
  · rw [if_neg e]
    have h := conv_any w bA oA (c - p) l p (l.length - p) hM (by omega)
    rw [h]
    rw [List.take_of_length_le (by rw [List.length_drop]; omega)]
end Go.Proofs.YtngjbiipgbeemaaDoor
