/- What an operation on words is worth, in plain Lean, and that it fits its width. No condition. -/
import Derived.Test.YtmbcfondglhiiaaWOnes
namespace Go.Proofs.Ytmbcfondglhiiaa
open Go.RowKit

def truthV (b : Bool) : Int := if b = true then 1 else 0
/-- words joined, the first the highest -/
def catV (a wd : Nat → Int) : Nat → Int
  | 0 => 0
  | k + 1 => catV a wd k * 2 ^ (wd k).toNat + a k
def sumW (wd : Nat → Int) : Nat → Int
  | 0 => 0
  | k + 1 => sumW wd k + wd k
/-- an operation of kind K, to W bits, with number U, on words a of widths wd -/
def opV (K W U : Int) (a wd : Nat → Int) (n : Nat) : Int :=
  if K = 1 then U % 2 ^ W.toNat
  else if K = 5 then a 0 / 2 ^ U.toNat % 2 ^ W.toNat
  else if K = 6 then a 0 % 2 ^ W.toNat
  else if K = 7 then catV a wd n % 2 ^ W.toNat
  else if K = 8 then (18446744073709551615 - a 0) % 2 ^ W.toNat
  else if K = 9 then truthV (a 0 == 2 ^ (wd 0).toNat - 1)
  else if K = 10 then truthV (a 0 != 0)
  else if K = 11 then ((popc (a 0).toNat % 2 : Nat) : Int)
  else if K = 12 then bits .and .u64 (a 0) (a 1)
  else if K = 13 then bits .or .u64 (a 0) (a 1)
  else if K = 14 then bits .xor .u64 (a 0) (a 1)
  else if K = 15 then (a 0 + a 1) % 2 ^ W.toNat
  else if K = 16 then (a 0 - a 1) % 2 ^ W.toNat
  else if K = 17 then a 0 * a 1 % 2 ^ W.toNat
  else if K = 18 then (if W ≤ a 1 then 0 else a 0 * 2 ^ (a 1).toNat % 2 ^ W.toNat)
  else if K = 19 then (if W ≤ a 1 then 0 else a 0 / 2 ^ (a 1).toNat)
  else if K = 20 then truthV (a 0 == a 1)
  else if K = 21 then truthV (decide (a 0 < a 1))
  else (if a 0 ≠ 0 then a 1 else a 2)

theorem wraps_u64 (n : Int) (h₀ : 0 ≤ n) (h₁ : n < 2 ^ 64) : IntKind.u64.wrap n = n := by rw [IntKind.wrap_u64]; omega
theorem pow_dvd64 {n : Nat} (h : n ≤ 64) : (2 : Int) ^ n ∣ 18446744073709551616 := by
  have e : (18446744073709551616 : Int) = 2 ^ n * 2 ^ (64 - n) := by rw [← Int.pow_add, show n + (64 - n) = 64 by omega]; rfl
  exact ⟨_, e⟩
theorem pow_le32 {n : Nat} (h : n ≤ 32) : (2 : Int) ^ n ≤ 4294967296 := by
  have : (2 : Int) ^ n ≤ 2 ^ 32 := by exact_mod_cast Nat.pow_le_pow_right (by omega) h
  simpa using this
theorem pow_pos2 (n : Nat) : (1 : Int) ≤ 2 ^ n := by exact_mod_cast Nat.one_le_two_pow
/-- cut to n bits -/
theorem and_top {x : Int} {n : Nat} (h0 : 0 ≤ x) (h1 : x ≤ 18446744073709551615) (hn : n ≤ 32) : bits .and .u64 x (2 ^ n - 1) = x % 2 ^ n :=
  bits_mask .u64 64 (Nat.le_refl _) wraps_u64 n (by omega) x h0 (by omega)
/-- .. whatever has been wrapped -/
theorem and_top_wrap (x : Int) {n : Nat} (hn : n ≤ 32) : bits .and .u64 (IntKind.u64.wrap x) (2 ^ n - 1) = x % 2 ^ n := by
  have hw := IntKind.wrap_u64 x
  rw [and_top (by omega) (by omega) hn, hw]
  exact Int.emod_emod_of_dvd _ (pow_dvd64 (by omega))
theorem mod_lt2 (x : Int) (n : Nat) : 0 ≤ x % 2 ^ n ∧ x % 2 ^ n < 2 ^ n := ⟨Int.emod_nonneg _ (by have := pow_pos2 n; omega), Int.emod_lt_of_pos _ (by have := pow_pos2 n; omega)⟩
theorem mod_id {x : Int} {n : Nat} (h0 : 0 ≤ x) (h1 : x < 2 ^ n) : x % 2 ^ n = x := Int.emod_eq_of_lt h0 h1

theorem bits_lt {x y : Int} {n : Nat} (hn : n ≤ 32) (hx : 0 ≤ x ∧ x < 2 ^ n) (hy : 0 ≤ y ∧ y < 2 ^ n) :
    (0 ≤ bits .and .u64 x y ∧ bits .and .u64 x y < 2 ^ n) ∧ (0 ≤ bits .or .u64 x y ∧ bits .or .u64 x y < 2 ^ n) ∧ (0 ≤ bits .xor .u64 x y ∧ bits .xor .u64 x y < 2 ^ n) := by
  have hp := pow_le32 hn
  obtain ⟨a, rfl⟩ := Int.eq_ofNat_of_zero_le hx.1
  obtain ⟨b, rfl⟩ := Int.eq_ofNat_of_zero_le hy.1
  have ha : a < 2 ^ n := by exact_mod_cast hx.2
  have hb : b < 2 ^ n := by exact_mod_cast hy.2
  have a64 : a < 18446744073709551616 := by omega
  have b64 : b < 18446744073709551616 := by omega
  rw [bits_and_u64_nat a b a64 b64, bits_or_u64_nat a b a64 b64, bits_xor_u64_nat a b a64 b64]
  refine ⟨⟨by omega, by exact_mod_cast Nat.and_lt_two_pow a hb⟩, ⟨by omega, by exact_mod_cast Nat.or_lt_two_pow ha hb⟩, ⟨by omega, by exact_mod_cast Nat.xor_lt_two_pow ha hb⟩⟩

theorem truthV_lt (b : Bool) {n : Nat} (hn : 1 ≤ n) : 0 ≤ truthV b ∧ truthV b < 2 ^ n := by
  have : (2 : Int) ^ 1 ≤ 2 ^ n := by exact_mod_cast Nat.pow_le_pow_right (by omega) hn
  unfold truthV
  split <;> omega

/-- the joined words fit the sum of their widths -/
theorem catV_lt {a wd : Nat → Int} {n : Nat} (hw : ∀ j, j < n → 0 ≤ wd j) (ha : ∀ j, j < n → 0 ≤ a j ∧ a j < 2 ^ (wd j).toNat) : ∀ k, k ≤ n → 0 ≤ sumW wd k ∧ 0 ≤ catV a wd k ∧ catV a wd k < 2 ^ (sumW wd k).toNat
  | 0, _ => by simp [catV, sumW]
  | k + 1, hk => by
    obtain ⟨h1, h2, h3⟩ := catV_lt hw ha k (by omega)
    obtain ⟨a0, a1⟩ := ha k (by omega)
    have hw' := hw k (by omega)
    have e : (sumW wd k + wd k).toNat = (sumW wd k).toNat + (wd k).toNat := by omega
    have hp := pow_pos2 (wd k).toNat
    refine ⟨by simp only [sumW]; omega, ?_, ?_⟩
    · simp only [catV]
      have := Int.mul_nonneg h2 (by omega : (0 : Int) ≤ 2 ^ (wd k).toNat)
      omega
    · simp only [catV, sumW]
      rw [e, Int.pow_add]
      have h4 : (catV a wd k + 1) * 2 ^ (wd k).toNat ≤ 2 ^ (sumW wd k).toNat * 2 ^ (wd k).toNat := Int.mul_le_mul_of_nonneg_right (by omega) (by omega)
      rw [Int.add_mul] at h4
      omega
theorem sumW_le {wd : Nat → Int} {n : Nat} (hw : ∀ j, j < n → 0 ≤ wd j) : ∀ k, k ≤ n → ∀ j, j ≤ k → sumW wd j ≤ sumW wd k
  | 0, _, j, hj => by obtain rfl : j = 0 := by omega
                      exact Int.le_refl _
  | k + 1, hk, j, hj => by
    by_cases e : j = k + 1
    · subst e; exact Int.le_refl _
    · have := sumW_le hw k (by omega) j (by omega)
      have := hw k (by omega)
      simp only [sumW]
      omega
/-- one step of the joining -/
theorem cat_step {v x : Int} {m n : Nat} (hv : 0 ≤ v ∧ v < 2 ^ m) (hx : 0 ≤ x ∧ x < 2 ^ n) (h : m + n ≤ 32) : bits .or .u64 (IntKind.u64.wrap (v * 2 ^ n)) x = v * 2 ^ n + x := by
  have hp := pow_pos2 n
  have h0 := Int.mul_nonneg hv.1 (by omega : (0 : Int) ≤ 2 ^ n)
  have h1 : v * 2 ^ n ≤ 2 ^ m * 2 ^ n := Int.mul_le_mul_of_nonneg_right (by omega) (by omega)
  rw [← Int.pow_add] at h1
  have h2 := pow_le32 h
  have h3 := pow_le32 (n := n) (by omega)
  rw [wraps_u64 _ h0 (by omega)]
  exact bits_join .u64 64 (Nat.le_refl _) wraps_u64 n _ _ h0 (Int.mul_emod_left _ _) (by omega) hx.1 hx.2 (by omega)

theorem mul_pow_mod {x : Int} {s n : Nat} (h : n ≤ s) : x * 2 ^ s % 2 ^ n = 0 := by
  have e : (2 : Int) ^ s = 2 ^ n * 2 ^ (s - n) := by rw [← Int.pow_add, show n + (s - n) = s by omega]
  rw [e, ← Int.mul_assoc, Int.mul_right_comm]
  exact Int.mul_emod_left _ _
theorem div_pow_zero {x : Int} {s n : Nat} (h0 : 0 ≤ x) (h1 : x < 2 ^ n) (h : n ≤ s) : x / 2 ^ s = 0 := by
  have : (2 : Int) ^ n ≤ 2 ^ s := by exact_mod_cast Nat.pow_le_pow_right (by omega) h
  exact Int.ediv_eq_zero_of_lt h0 (by omega)
end Go.Proofs.Ytmbcfondglhiiaa
