/- strings.IndexRune of whatever rune beyond ASCII in blank, tab, line's end: none; strings.IndexAny of these three: whatever the bytes. Condition: the text is shorter than 4294967281 bytes. -/
import Derived.Test.YtlfjchlkooemdaaDoorIxR
namespace Go.Proofs.YtlfjchlkooemdaaDoor
open Go.RowKit Go.Shelf

set_option maxRecDepth 100000 in
set_option maxHeartbeats 4000000 in
theorem indexRune_err (w : World) :
    Calls Tryd.prog 32 #[.string ⟨#[32, 9, 10]⟩, .int .i32 65533] w fun e w' => e = .returned (.int .i64 (-1)) ∧ Below w.heap.size w w' := by
  obtain ⟨s, hs⟩ : ∃ s : ByteArray, s = ⟨#[32, 9, 10]⟩ := ⟨_, rfl⟩
  have hsz : s.size = 3 := by rw [hs]; rfl
  rw [← hs]
  have HS := Lib.hid hs; have HSZ := Lib.hid hsz
  clear hs hsz
  go_enter Tryd.func32, Tryd.ntmps32
  go_wp2_with fail
  go_loopg [5, 6] 3 (fun g _ _ wx => ∃ i : Nat, i + g = 3 ∧ wx = w.iter s i)
  case atStart => exact ⟨0, by omega, rfl⟩
  case round =>
    obtain ⟨i, hig, rfl⟩ := hrel
    have hbi : Below w.heap.size w (w.iter s i) := (Below.refl _ _).alloc (Nat.le_refl _) _
    cases gk with
    | zero =>
      obtain rfl : i = 3 := by omega
      have hnx := fun ty => run_next_end (P := Tryd.prog) w s 3 ty (by have := HSZ.out; omega)
      go_wp2_with fail
      go_ret
      exact ⟨rfl, hbi⟩
    | succ g =>
      have hi : i < s.size := by have := HSZ.out; omega
      have hx : (s[i]'hi).toNat < 33 := by
        have h := HS.out
        subst h
        obtain rfl | rfl | rfl : i = 0 ∨ i = 1 ∨ i = 2 := by omega
        · exact (show (32 : UInt8).toNat < 33 by decide)
        · exact (show (9 : UInt8).toNat < 33 by decide)
        · exact (show (10 : UInt8).toNat < 33 by decide)
      have hnx := fun ty => run_next_ascii (P := Tryd.prog) w s i ty hi (by omega)
      obtain ⟨x, hxe⟩ : ∃ x : Nat, (s[i]'hi).toNat = x := ⟨_, rfl⟩
      rw [hxe] at hx
      rw [hxe] at hnx
      have hne : ((x : Int) == 65533) = false := by rw [beq_eq_false_iff_ne]; omega
      clear hxe
      go_wp2_with fail
      go_roundg g
      case measure => omega
      case rel => exact ⟨i + 1, by omega, rfl⟩
/-- .. of whatever rune beyond ASCII -/
theorem indexRune_high (r : Nat) (w : World) (h0 : 128 ≤ r) (hv : Utf8.valid (r : Int) = true) :
    Calls Tryd.prog 32 #[.string ⟨#[32, 9, 10]⟩, .int .i32 (r : Int)] w fun e w' => e = .returned (.int .i64 (-1)) ∧ Below w.heap.size w w' := by
  by_cases e : r = 65533
  · subst e; exact indexRune_err w
  by_cases h2 : r < 2048
  · exact indexRune_two r w (by omega) (by omega)
  by_cases h3 : r < 65536
  · exact indexRune_three r w (by omega) (by omega) hv (by omega)
  · exact indexRune_four r w (by omega) hv
end Go.Proofs.YtlfjchlkooemdaaDoor
