/- bytes.HasPrefix and bytes.Equal of rows of bytes in memory. No condition. -/
import Derived.Test.YtbnjbclkmjjkhaaDoorDkU
import Derived.Test.YtbnjbclkmjjkhaaDoorShelfS
import Derived.Lib.SlBytesConst
namespace Go.Proofs.YtbnjbclkmjjkhaaDoor
open Go.RowKit Go.Shelf

def ints (l : List UInt8) : List Int := l.map fun b => (b.toNat : Int)
theorem bytes_ints (l : List UInt8) : Lib.bytesOf (ints l) = l := by
  simp only [Lib.bytesOf, ints, List.map_map]
  refine (List.map_congr_left (fun b _ => ?_)).trans (List.map_id l)
  simp
theorem Mem.ints {w : World} {A : Option Addr} {l : List UInt8} (h : Mem w A l) : Lib.BytesIn w A l.length (ints l) := fun hn => by
  obtain ⟨b, o, e, hc⟩ := h hn
  refine ⟨b, o, e, fun i hi => ?_⟩
  rw [hc i hi]
  simp [Go.Proofs.YtbnjbclkmjjkhaaDoor.ints, List.getD_eq_getElem?_getD, hi]
theorem prefix_any (A D : Option Addr) (l m : List UInt8) (c d : Nat) (w : World) (hl : Mem w A l) (hm : Mem w D m) (hc : l.length ≤ c) :
    Calls Tryd.prog 20 #[.slice A l.length c, .slice D m.length d] w fun e w' => e = .returned (.bool (Lib.hasPrefix l m)) ∧ w' = w := by
  have h := Go.Proofs.Tryd.bytes_HasPrefix_all A D l.length c m.length d (ints l) (ints m) w (by simp [ints]) (by simp [ints]) hc hl.ints hm.ints
  rwa [bytes_ints, bytes_ints] at h
theorem equal_any (A D : Option Addr) (l m : List UInt8) (c d : Nat) (w : World) (hl : Mem w A l) (hm : Mem w D m) :
    Calls Tryd.prog 21 #[.slice A l.length c, .slice D m.length d] w fun e w' => e = .returned (.bool (l == m)) ∧ w' = w := by
  have h := Go.Proofs.Tryd.bytes_Equal_all A D l.length c m.length d (ints l) (ints m) w (by simp [ints]) (by simp [ints]) hl.ints hm.ints
  rwa [bytes_ints, bytes_ints] at h
theorem equaln_any (A D : Option Addr) (l m : List UInt8) (n c d : Nat) (w : World) (hn : n = l.length) (hl : Mem w A l) (hm : Mem w D m) :
    Calls Tryd.prog 21 #[.slice A n c, .slice D m.length d] w fun e w' => (∃ q, e = .returned (.bool q) ∧ Hid (q = true ↔ l = m)) ∧ w' = w := by
  subst hn
  exact (equal_any A D l m c d w hl hm).mono fun e w' ⟨h, hw⟩ => ⟨⟨_, h, Lib.hid (by simp)⟩, hw⟩
theorem prefix4_any (A D : Option Addr) (l : List UInt8) (c : Nat) (w : World) (hl : Mem w A l) (hm : Mem w D [71, 87, 66, 49]) (hc : l.length ≤ c) :
    Calls Tryd.prog 20 #[.slice A l.length c, .slice D 4 4] w fun e w' => e = .returned (.bool (Lib.hasPrefix l [71, 87, 66, 49])) ∧ w' = w := prefix_any A D l [71, 87, 66, 49] c 4 w hl hm hc
theorem prefix_yes {l : List UInt8} (h : l.take 4 = [71, 87, 66, 49]) : Lib.hasPrefix l [71, 87, 66, 49] = true := by
  unfold Lib.hasPrefix
  rw [List.isPrefixOf_iff_prefix, ← h]
  exact List.take_prefix _ _
theorem prefix_no {l : List UInt8} (h : l.take 4 ≠ [71, 87, 66, 49]) : Lib.hasPrefix l [71, 87, 66, 49] = false := by
  rw [Bool.eq_false_iff]
  intro hp
  unfold Lib.hasPrefix at hp
  rw [List.isPrefixOf_iff_prefix] at hp
  exact h (List.prefix_iff_eq_take.1 hp).symm
theorem mem_body {w : World} {A : Option Addr} {l : List UInt8} (h : Mem w A l) : Mem w A (body l) := fun hn => by
  rw [body_len] at hn
  obtain ⟨b, o, e, hc⟩ := h (by omega)
  refine ⟨b, o, e, fun k hk => ?_⟩
  rw [body_len] at hk
  rw [hc k (by omega)]
  simp only [body, List.getD_eq_getElem?_getD, List.getElem?_take, if_pos hk]
/-- the four bytes of the head are laid -/
theorem magic_lay (v : World) : ∃ w4, (convert 22 22 (.slice (some ⟨v.heap.size, 0, none⟩) 4 4)).run Tryd.prog ((v.alloc (.cells #[.int .u8 71, .int .u8 87, .int .u8 66, .int .u8 49] 5)).drew) = .ok (.slice (some ⟨v.heap.size, 0, none⟩) 4 4) w4 ∧
    Below v.heap.size v w4 ∧ Mem w4 (some ⟨v.heap.size, 0, none⟩) [71, 87, 66, 49] ∧ w4.heap.size = v.heap.size + 1 := by
  refine ⟨_, Go.Lib.run_convert_bytes_const (P := Tryd.prog) v.drew 22 5 #[.int .u8 71, .int .u8 87, .int .u8 66, .int .u8 49] 4 4 Tryd.underlying22 Tryd.underlying5, ((Below.refl _ v).drew).alloc (by simp) _, fun _ => ⟨v.heap.size, 0, rfl, fun k hk => ?_⟩, by simp⟩
  rw [show v.heap.size = v.drew.heap.size from rfl, cell_of_row _ _ _ _ _ _ (heap_alloc_new v.drew _)]
  have hk : k < 4 := hk
  obtain rfl | rfl | rfl | rfl : k = 0 ∨ k = 1 ∨ k = 2 ∨ k = 3 := by omega
  all_goals rfl
end Go.Proofs.YtbnjbclkmjjkhaaDoor
