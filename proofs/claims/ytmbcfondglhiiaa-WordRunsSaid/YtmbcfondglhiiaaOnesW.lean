/- bits.OnesCount64 of a number below 2^32, walked. No condition but that bound. -/
import Derived.Test.YtmbcfondglhiiaaWOnes
import Derived.Test.YtmbcfondglhiiaaNetW
import Derived.Deep.DeepCutAuto
namespace Go.Proofs.Ytmbcfondglhiiaa
open Go.RowKit

theorem wrap_nat {n : Nat} (h : n < 18446744073709551616) : IntKind.u64.wrap (n : Int) = n := by rw [IntKind.wrap_u64]; omega
theorem oc1_int {x : Nat} (hx : x < 4294967296) : IntKind.u64.wrap (bits .and .u64 ((x : Int) / 2) 6148914691236517205 + bits .and .u64 (x : Int) 6148914691236517205) = (oc1 x : Nat) := by
  obtain ⟨a, b, c, d, _, _, _, _, _, h, _⟩ := oc123 x hx
  rw [show (x : Int) / 2 = ((x / 2 : Nat) : Int) by omega, show (6148914691236517205 : Int) = ((6148914691236517205 : Nat) : Int) from rfl, bits_and_u64_nat _ _ (by omega) (by omega), bits_and_u64_nat _ _ (by omega) (by omega), ← Int.natCast_add]
  exact wrap_nat (show oc1 x < _ by omega)
theorem oc2_int {x : Nat} (hx : x < 4294967296) (h : oc2 x < 4294967296) : IntKind.u64.wrap (bits .and .u64 ((x : Int) / 4) 3689348814741910323 + bits .and .u64 (x : Int) 3689348814741910323) = (oc2 x : Nat) := by
  rw [show (x : Int) / 4 = ((x / 4 : Nat) : Int) by omega, show (3689348814741910323 : Int) = ((3689348814741910323 : Nat) : Int) from rfl, bits_and_u64_nat _ _ (by omega) (by omega), bits_and_u64_nat _ _ (by omega) (by omega), ← Int.natCast_add]
  exact wrap_nat (show oc2 x < _ by omega)
theorem oc3_int {x : Nat} (hx : x < 4294967296) : bits .and .u64 ((x : Int) / 16 + (x : Int)) 1085102592571150095 = (oc3 x : Nat) := by
  rw [show (x : Int) / 16 + (x : Int) = ((x / 16 + x : Nat) : Int) by omega, show (1085102592571150095 : Int) = ((1085102592571150095 : Nat) : Int) from rfl, bits_and_u64_nat _ _ (by omega) (by omega)]
  rfl
theorem oc4_int (x : Nat) : (x : Int) + (x : Int) / 256 = (oc4 x : Nat) := by
  unfold oc4; omega
theorem oc5_int (x : Nat) : (x : Int) + (x : Int) / 65536 = (oc5 x : Nat) := by
  unfold oc5; omega
theorem popc_le (x : Nat) (hx : x < 4294967296) : popc x < 128 := by
  obtain ⟨_, _, _, h⟩ := oc_last x hx
  omega
theorem and127 {x : Nat} (hx : x < 4294967296) : bits .and .i64 (x : Int) 127 = ((x % 128 : Nat) : Int) := by
  have := bits_mask .i64 63 (by decide) (fun n h0 h1 => by rw [IntKind.wrap_i64]; omega) 7 (by decide) (x : Int) (by omega) (by omega)
  rw [show (2 : Int) ^ 7 - 1 = 127 from rfl] at this
  rw [this]
  omega

set_option maxHeartbeats 2000000 in
theorem ones_any (x : Nat) (hx : x < 4294967296) (w : World) : Calls Try.prog 36 #[.int .u64 x] w fun e w' => e = .returned (.int .i64 (popc x : Nat)) ∧ w = w' := by
  have E1 := oc1_int hx
  obtain ⟨h1, h2⟩ : oc1 x < 4294967296 ∧ oc2 (oc1 x) < 4294967296 := by
    obtain ⟨_, _, _, _, _, _, _, _, _, h1, h2, _⟩ := oc123 x hx
    exact ⟨h1, h2⟩
  obtain ⟨h3, h4, h5, h6⟩ := oc_last x hx
  have HR : Hid (oc5 (oc4 (oc3 (oc2 (oc1 x)))) % 128 = popc x) := h6
  have E2 := oc2_int h1 h2
  have E3 := oc3_int h2
  have E4 := oc4_int (oc3 (oc2 (oc1 x)))
  have E5 := oc5_int (oc4 (oc3 (oc2 (oc1 x))))
  have HX := Lib.hid hx
  clear h6
  have H1 := Lib.hid E1; have H2 := Lib.hid E2; have H3 := Lib.hid E3; have H4 := Lib.hid E4; have H5 := Lib.hid E5
  clear E1 E2 E3 E4 E5
  generalize oc1 x = x1 at *
  generalize oc2 x1 = x2 at *
  generalize oc3 x2 = x3 at *
  generalize oc4 x3 = x4 at *
  generalize oc5 x4 = x5 at *
  go_enter Try.func36, Try.ntmps36
  go_upto_region 2 with (fail)
  rw [H1.out]
  go_upto_region 3 with (fail)
  rw [H2.out]
  go_upto_region 4 with (fail)
  rw [H3.out]
  go_upto_region 5 with (fail)
  rw [H4.out]
  go_upto_region 6 with (fail)
  rw [H5.out]
  have HV : Hid (bits .and .i64 ((x5 : Int) + (x5 : Int) / 4294967296) 127 = (popc x : Nat)) := Lib.hid (by
    rw [show (x5 : Int) + (x5 : Int) / 4294967296 = (x5 : Int) by omega, and127 h5, HR.out])
  go_wp2
  go_ret
  exact ⟨congrArg (fun x => Ending.returned (Value.int .i64 x)) HV.out, rfl⟩
end Go.Proofs.Ytmbcfondglhiiaa
