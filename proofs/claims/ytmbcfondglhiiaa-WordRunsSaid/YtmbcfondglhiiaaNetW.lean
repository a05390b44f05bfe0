/- The small functions on both sides, walked: widths, masks, how many arguments a kind wants. No condition. -/
import Derived.Test.YtmbcfondglhiiaaNet
import Derived.Deep.QuietTactic
import Derived.BigQuiet
namespace Go.Proofs.Ytmbcfondglhiiaa
open Go.RowKit

def wideB (x : Int) : Bool := decide (1 ≤ x) && decide (x ≤ 32)
theorem wide_any (x : Int) (w : World) : Calls Try.prog 9 #[.int .i64 x] w fun e w' => e = .returned (.bool (wideB x)) ∧ w = w' := by
  go_enter Try.func9, Try.ntmps9
  go_wp2
  all_goals (go_ret; simp_all [wideB]; try omega)
theorem width_any (x : Int) (w : World) : Calls Try.prog 12 #[.int .i64 x] w fun e w' => e = .returned (.bool (wideB x)) ∧ w = w' := by
  go_enter Try.func12, Try.ntmps12
  go_wp2
  all_goals (go_ret; simp_all [wideB]; try omega)
def maskN (x : Int) : Int := IntKind.u64.wrap (IntKind.u64.wrap (2 ^ min (IntKind.u64.wrap x).toNat 64) - 1)
theorem mask_any (x : Int) (w : World) : Calls Try.prog 13 #[.int .i64 x] w fun e w' => e = .returned (.int .u64 (maskN x)) ∧ w = w' := by
  go_enter Try.func13, Try.ntmps13
  go_wp2
  go_ret
  exact ⟨rfl, rfl⟩
theorem maskN_eq {x : Int} (h : wideB x = true) : maskN x = 2 ^ x.toNat - 1 := by
  simp only [wideB, Bool.and_eq_true, decide_eq_true_eq] at h
  obtain ⟨n, rfl⟩ : ∃ n : Nat, x = n := ⟨x.toNat, by omega⟩
  have hn : n ≤ 32 := by omega
  have hp : (2 : Int) ^ n ≤ 2 ^ 32 := by exact_mod_cast Nat.pow_le_pow_right (by omega) hn
  have hp0 : (1 : Int) ≤ 2 ^ n := by exact_mod_cast Nat.one_le_two_pow
  have hw : ∀ y : Int, 0 ≤ y → y < 18446744073709551616 → IntKind.u64.wrap y = y := fun y h0 h1 => by
    rw [IntKind.wrap_u64]; omega
  unfold maskN
  have e1 : IntKind.u64.wrap (2 ^ n) = 2 ^ n := hw _ (by omega) (by omega)
  have e2 : IntKind.u64.wrap (2 ^ n - 1) = 2 ^ n - 1 := hw _ (by omega) (by omega)
  rw [hw (n : Int) (by omega) (by omega), show min ((n : Int).toNat) 64 = n by omega, e1, e2, Int.toNat_natCast]

def wantN (x : Int) : Int :=
  if x = 1 ∨ x = 30 ∨ x = 31 then 0
  else if x = 5 ∨ x = 6 ∨ x = 8 ∨ x = 9 ∨ x = 10 ∨ x = 11 ∨ x = 32 then 1
  else if x = 12 ∨ x = 13 ∨ x = 14 ∨ x = 15 ∨ x = 16 ∨ x = 17 ∨ x = 18 ∨ x = 19 ∨ x = 20 ∨ x = 21 then 2
  else if x = 22 then 3 else if x = 7 then -1 else -2
theorem want_any (x : Int) (w : World) : Calls Try.prog 20 #[.int .i64 x] w fun e w' => e = .returned (.int .i64 (wantN x)) ∧ w = w' := by
  go_enter Try.func20, Try.ntmps20
  go_wp2
  all_goals (go_ret; simp_all [wantN])
end Go.Proofs.Ytmbcfondglhiiaa
