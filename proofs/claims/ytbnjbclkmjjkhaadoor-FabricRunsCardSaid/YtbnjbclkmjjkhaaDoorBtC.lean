/- The reference's crc and sums, the program's sealed, walked. Condition: the bytes lie in memory. -/
import Derived.Test.YtbnjbclkmjjkhaaDoorBtR
import Derived.Laws.BitsAllLaws
namespace Go.Proofs.YtbnjbclkmjjkhaaDoor
open Go.RowKit

def Mem (w : World) (A : Option Addr) (l : List UInt8) : Prop := Row1 w A l.length (fun k => .int .u8 ((l.getD k 0).toNat : Int))
theorem Byt.mem {base : Nat} {w : World} {A : Option Addr} {c : Nat} {l : List UInt8} (h : Byt base w A c l) : Mem w A l := fun hn => by
  obtain ⟨b, off, e, hc⟩ := h.row hn
  refine ⟨b, off, e, fun k hk => ?_⟩
  rw [hc k hk]
  simp [Lib.byteCells, List.getD_eq_getElem?_getD, hk]

theorem xor32 {a b : Nat} (ha : a < 4294967296) (hb : b < 4294967296) : bits .xor .u32 (a : Int) (b : Int) = ((a ^^^ b : Nat) : Int) := u32_xor_nat a b ha hb

set_option maxRecDepth 100000 in
set_option maxHeartbeats 4000000 in
theorem crc_any (l : List UInt8) (A : Option Addr) (c : Nat) (w : World) (hm : Mem w A l) (hl : l.length ≤ 140737488355328) :
    Calls Tryd.prog 32 #[.slice A l.length c] w fun e w' => e = .returned (.int .u32 (crcF l : Nat)) ∧ w = w' := by
  have HM := Lib.hid hm
  clear hm
  go_enter Tryd.func32, Tryd.ntmps32
  go_wp2_with fail
  go_loop [3, 4] (fun vc vi => ∃ (i X : Nat), i ≤ l.length ∧ vi = .int .i64 i ∧ vc = .int .u32 X ∧ Hid (X = crcV l i)) (fun _ vi => l.length - (intOf vi).toNat)
  case atStart => exact ⟨0, _, by omega, rfl, rfl, Lib.hid rfl⟩
  case round =>
    obtain ⟨i, X, hi, rfl, rfl, HX⟩ := hrel
    have hX : X < 4294967296 := by rw [HX.out]; exact crcV_lt l i
    by_cases hlt : i < l.length
    · obtain ⟨ba, oa, rfl, x0⟩ := HM.out.at_ hlt
      have hb : (l.getD i 0).toNat < 256 := (l.getD i 0).toNat_lt
      have HS : Hid (crcV l (i + 1) = stepN 8 (X ^^^ (l.getD i 0).toNat)) := Lib.hid (by rw [HX.out]; rfl)
      generalize (l.getD i 0).toNat = b at *
      go_wp2_with fail
      go_loop [3, 5] (fun vc vk => ∃ (k z : Nat), k ≤ 8 ∧ vk = .int .i64 k ∧ vc = .int .u32 z ∧ Hid (z = stepN k (X ^^^ b))) (fun _ vk => 8 - (intOf vk).toNat)
      case atStart => exact ⟨0, _, by omega, rfl, congrArg (Value.int .u32) (by first | exact xor32 hX (by omega) | (rw [show IntKind.u32.wrap (b : Int) = b by rw [IntKind.wrap_u32]; omega]; exact xor32 hX (by omega))), Lib.hid rfl⟩
      case round =>
        obtain ⟨k, z, hk, rfl, rfl, HZ⟩ := hrel
        have hz : z < 4294967296 := by rw [HZ.out]; exact stepN_lt (Nat.xor_lt_two_pow (n := 32) hX (by omega)) k
        by_cases hlk : k < 8
        · by_cases h1 : z % 2 = 1
          · have ht : ((z : Int) % 2 == 1) = true := by rw [show (z : Int) % 2 = 1 by omega]; rfl
            have HZ1 : Hid (((z / 2) ^^^ 3988292384) = stepN (k + 1) (X ^^^ b)) := Lib.hid (by show _ = step1 (stepN k (X ^^^ b)); rw [← HZ.out, step1, if_pos h1])
            have HXR : Hid (bits .xor .u32 ((z : Int) / 2) 3988292384 = (((z / 2) ^^^ 3988292384 : Nat) : Int)) := Lib.hid (by have := xor32 (a := z / 2) (b := 3988292384) (by omega) (by omega); rw [← this]; congr 1)
            have HZB := Lib.hid hz; have HXB := Lib.hid hX
            clear h1 hz hX
            go_wp2_with fail
            go_round
            case rel => exact ⟨k + 1, _, by omega, by go_num, congrArg (Value.int .u32) HXR.out, HZ1⟩
            case measure => simp [intOf]; omega
          · have ht : ((z : Int) % 2 == 1) = false := by rw [show (z : Int) % 2 = 0 by omega]; rfl
            have HZ1 : Hid ((z / 2) = stepN (k + 1) (X ^^^ b)) := Lib.hid (by show _ = step1 (stepN k (X ^^^ b)); rw [← HZ.out, step1, if_neg h1])
            have HZB := Lib.hid hz; have HXB := Lib.hid hX
            clear h1 hz hX
            go_wp2_with fail
            go_round
            case rel => exact ⟨k + 1, z / 2, by omega, by go_num, congrArg (Value.int .u32) (by omega), HZ1⟩
            case measure => simp [intOf]; omega
        · obtain rfl : k = 8 := by omega
          go_wp2_with fail
          go_round
          case rel => exact ⟨i + 1, z, by omega, by go_num, rfl, Lib.hid (by rw [HZ.out, HS.out])⟩
          case measure => simp [intOf]; omega
    · obtain rfl : i = l.length := by omega
      go_wp2_with fail
      go_ret
      exact ⟨ret_int (by rw [show (4294967295 : Int) = ((4294967295 : Nat) : Int) from rfl, xor32 hX (by omega), HX.out]; rfl), rfl⟩

theorem u8_of_nat (x : Nat) : IntKind.u8.wrap (x : Int) = ((UInt8.ofNat x).toNat : Int) := by
  rw [IntKind.wrap_u8, UInt8.toNat_ofNat']; omega
theorem be4_cells (x : Nat) : (Lib.byteCells (be4 x)).toArray = #[.int .u8 (IntKind.u8.wrap ((x : Int) / 16777216)), .int .u8 (IntKind.u8.wrap ((x : Int) / 65536)), .int .u8 (IntKind.u8.wrap ((x : Int) / 256)), .int .u8 (IntKind.u8.wrap (x : Int))] := by
  rw [show (x : Int) / 16777216 = ((x / 16777216 : Nat) : Int) by omega, show (x : Int) / 65536 = ((x / 65536 : Nat) : Int) by omega, show (x : Int) / 256 = ((x / 256 : Nat) : Int) by omega, u8_of_nat, u8_of_nat, u8_of_nat, u8_of_nat]
  rfl

set_option maxRecDepth 100000 in
set_option maxHeartbeats 4000000 in
theorem sums_any (l : List UInt8) (A : Option Addr) (c : Nat) (w : World) (hm : Mem w A l) (hl : l.length ≤ 140737488355328) :
    Calls Tryd.prog 16 #[.slice A l.length c] w fun e w' => e = .returned (.slice (some ⟨w.heap.size, 0, none⟩) 4 4) ∧ w' = w.alloc (.cells (Lib.byteCells (be4 (crcF l))).toArray 5) := by
  have HM := Lib.hid hm; have HL := Lib.hid hl
  clear hm hl
  go_enter Tryd.func16, Tryd.ntmps16
  go_wp2_with fail
  refine (crc_any l A c w HM.out HL.out).mono ?_
  rintro e w' ⟨rfl, rfl⟩
  obtain ⟨x, hx⟩ : ∃ x, crcF l = x := ⟨_, rfl⟩
  rw [hx]
  have HX := Lib.hid hx
  clear hx
  go_wp2_with fail
  go_ret
  exact ⟨rfl, by rw [HX.out, be4_cells]; simp [IntKind.wrap_u8]⟩

theorem and1 {z : Nat} (hz : z < 4294967296) : bits .and .u32 (z : Int) 1 = ((z % 2 : Nat) : Int) := by
  have h1 := bits_mask .u32 32 (by decide) (fun n h0 h1 => by rw [IntKind.wrap_u32]; omega) 1 (by decide) (z : Int) (by omega) (by omega)
  rw [show (2 : Int) ^ 1 - 1 = 1 from rfl] at h1
  rw [h1]; omega

set_option maxRecDepth 100000 in
set_option maxHeartbeats 4000000 in
theorem sealed_any (base : Nat) (l : List UInt8) (A : Option Addr) (c : Nat) (w : World) (hm : Byt base w A c l) (hl : l.length ≤ 1000000000) (hb : base ≤ w.heap.size) :
    Calls Tryd.prog 22 #[.slice A l.length c] w fun e w' => (∃ A' c', e = .returned (.slice A' (l.length + 4) c') ∧ Byt base w' A' c' (l ++ be4 (crcF l))) ∧ Only (blockOf A) w w' := by
  have HM := Lib.hid hm.mem; have HB := Lib.hid hm
  clear hm
  go_enter Tryd.func22, Tryd.ntmps22
  go_wp2_with fail
  go_loop [3, 8] (fun vc vi => ∃ (i X : Nat), i ≤ l.length ∧ vi = .int .i64 i ∧ vc = .int .u32 X ∧ Hid (X = crcV l i)) (fun _ vi => l.length - (intOf vi).toNat)
  case atStart => exact ⟨0, _, by omega, rfl, rfl, Lib.hid rfl⟩
  case round =>
    obtain ⟨i, X, hi, rfl, rfl, HX⟩ := hrel
    have HXB : Hid (X < 4294967296) := Lib.hid (by rw [HX.out]; exact crcV_lt l i)
    by_cases hlt : i < l.length
    · obtain ⟨ba, oa, hA, x0⟩ := HM.out.at_ hlt
      subst hA
      have hb : (l.getD i 0).toNat < 256 := (l.getD i 0).toNat_lt
      have HS : Hid (crcV l (i + 1) = stepN 8 (X ^^^ (l.getD i 0).toNat)) := Lib.hid (by rw [HX.out]; rfl)
      generalize (l.getD i 0).toNat = b at *
      go_wp2_with fail
      go_loop [3, 16] (fun vc vk => ∃ (k z : Nat), k ≤ 8 ∧ vk = .int .i64 k ∧ vc = .int .u32 z ∧ Hid (z = stepN k (X ^^^ b))) (fun _ vk => 8 - (intOf vk).toNat)
      case atStart => exact ⟨0, _, by omega, rfl, congrArg (Value.int .u32) (by first | exact xor32 HXB.out (by omega) | (rw [show IntKind.u32.wrap (b : Int) = b by rw [IntKind.wrap_u32]; omega]; exact xor32 HXB.out (by omega))), Lib.hid rfl⟩
      case round =>
        obtain ⟨k, z, hk, rfl, rfl, HZ⟩ := hrel
        have HZB : Hid (z < 4294967296) := Lib.hid (by rw [HZ.out]; exact stepN_lt (Nat.xor_lt_two_pow (n := 32) HXB.out (by omega)) k)
        by_cases hlk : k < 8
        · by_cases h1 : z % 2 = 1
          · have ht : (bits .and .u32 (z : Int) 1 == 1) = true := by rw [and1 HZB.out, h1]; rfl
            have HZ1 : Hid (((z / 2) ^^^ 3988292384) = stepN (k + 1) (X ^^^ b)) := Lib.hid (by show _ = step1 (stepN k (X ^^^ b)); rw [← HZ.out, step1, if_pos h1])
            have HXR : Hid (bits .xor .u32 ((z : Int) / 2) 3988292384 = (((z / 2) ^^^ 3988292384 : Nat) : Int)) := Lib.hid (by have := xor32 (a := z / 2) (b := 3988292384) (by have := HZB.out; omega) (by omega); rw [← this]; congr 1)
            clear h1
            go_wp2_with fail
            go_round
            case rel => exact ⟨k + 1, _, by omega, by go_num, congrArg (Value.int .u32) HXR.out, HZ1⟩
            case measure => simp [intOf]; omega
          · have ht : (bits .and .u32 (z : Int) 1 == 1) = false := by rw [and1 HZB.out, show z % 2 = 0 by omega]; rfl
            have HZ1 : Hid ((z / 2) = stepN (k + 1) (X ^^^ b)) := Lib.hid (by show _ = step1 (stepN k (X ^^^ b)); rw [← HZ.out, step1, if_neg h1])
            clear h1
            go_wp2_with fail
            go_round
            case rel => exact ⟨k + 1, z / 2, by omega, by go_num, congrArg (Value.int .u32) (by omega), HZ1⟩
            case measure => simp [intOf]; omega
        · obtain rfl : k = 8 := by omega
          go_wp2_with fail
          go_round
          case rel => exact ⟨i + 1, z, by omega, by go_num, rfl, Lib.hid (by rw [HZ.out, HS.out])⟩
          case measure => simp [intOf]; omega
    · obtain rfl : i = l.length := by omega
      go_upto_region 14 with (fail)
      have hxf : bits BinOp.xor IntKind.u32 (if IntKind.u32.signed = true then -1 else IntKind.u32.max) (X : Int) = ((crcF l : Nat) : Int) := by
        rw [show (if IntKind.u32.signed = true then -1 else IntKind.u32.max) = ((4294967295 : Nat) : Int) from rfl, xor32 (by omega) HXB.out, Nat.xor_comm, HX.out]; rfl
      rw [hxf]
      clear hxf
      obtain ⟨x, hx⟩ : ∃ x, crcF l = x := ⟨_, rfl⟩
      rw [hx]
      have HXE := Lib.hid hx
      clear hx
      go_wp2_with (at_builtin; refine wp_append_b rfl (.tmp 30) (.tmp 42) (by rfl) base A l.length c (Lib.byteCells l) (by rfl) (OwnB.alloc HB.out _) _ 4 4 _ (by rfl) (src_news w #[.int .u8 (IntKind.u8.wrap ((x : Int) / 16777216)), .int .u8 (IntKind.u8.wrap ((x : Int) / 65536)), .int .u8 (IntKind.u8.wrap ((x : Int) / 256)), .int .u8 (IntKind.u8.wrap (x : Int))] _ 1 4 rfl (by simp [Value.oneCell'])) (by omega) (by simp; omega) ?_; intro A2 c2 w2 ho hko hbo; have HO2 := Lib.hid ho; have HKO := Lib.hid hko; clear ho hko hbo)
      go_ret
      refine ⟨⟨A2, c2, rfl, ?_⟩, ?_⟩
      · have h := HO2.out
        rw [HXE.out]
        unfold Byt
        rw [Lib.byteCells_append, List.length_append, show (be4 x).length = 4 from rfl]
        have e := congrArg Array.toList (be4_cells x)
        simp only [] at e
        rw [show Lib.byteCells (be4 x) = [.int .u8 (IntKind.u8.wrap ((x : Int) / 16777216)), .int .u8 (IntKind.u8.wrap ((x : Int) / 65536)), .int .u8 (IntKind.u8.wrap ((x : Int) / 256)), .int .u8 (IntKind.u8.wrap (x : Int))] from e]
        exact h
      · exact ((Only.refl (blockOf A) w).alloc _).then_ HKO.out (fun i _ h => h)
end Go.Proofs.YtbnjbclkmjjkhaaDoor
