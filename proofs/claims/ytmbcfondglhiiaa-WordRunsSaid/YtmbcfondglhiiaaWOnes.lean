/- bits.OnesCount64 of a number below 2^32, walked: its parity. No condition but that bound. -/
import Derived.Test.YtmbcfondglhiiaaNet
import Derived.Laws.Bits64b
namespace Go.Proofs.Ytmbcfondglhiiaa
open Go.RowKit

/-- how many bits of a number are one -/
def popc (x : Nat) : Nat := if h : x = 0 then 0 else x % 2 + popc (x / 2)
termination_by x
theorem popc_zero : popc 0 = 0 := by unfold popc; simp
theorem popc_eq (x : Nat) : popc x = x % 2 + popc (x / 2) := by
  by_cases h : x = 0
  · subst h; simp [popc_zero]
  · rw [popc]; simp [h]

theorem and_byte (a c r s : Nat) (hr : r < 256) (hs : s < 256) : (256 * a + r) &&& (256 * c + s) = 256 * (a &&& c) + (r &&& s) := by
  have hrs : r &&& s < 2 ^ 8 := Nat.and_lt_two_pow r (by omega)
  apply Nat.eq_of_testBit_eq
  intro j
  rw [Nat.testBit_and, show (256 : Nat) = 2 ^ 8 from rfl, Nat.testBit_two_pow_mul_add _ (by omega), Nat.testBit_two_pow_mul_add _ (by omega), Nat.testBit_two_pow_mul_add _ hrs]
  by_cases h : j < 8
  · simp [h]
  · simp [h]

def f1 (r : Nat) : Nat := (r / 2 &&& 85) + (r &&& 85)
def f2 (r : Nat) : Nat := (r / 4 &&& 51) + (r &&& 51)
def f3 (r : Nat) : Nat := (r / 16 + r) &&& 15
theorem byte1 : ∀ r : Fin 256, ∀ b : Fin 2, (128 * b.val + r.val / 2) &&& 85 = (r.val / 2 &&& 85) := by decide +kernel
theorem byte2 : ∀ r : Fin 256, ∀ b : Fin 4, (64 * b.val + r.val / 4) &&& 51 = (r.val / 4 &&& 51) := by decide +kernel
theorem byte3 : ∀ r : Fin 256, ∀ b : Fin 16, (16 * b.val + r.val / 16 + r.val) &&& 15 = ((r.val / 16 + r.val) &&& 15) := by decide +kernel
theorem byte_le : ∀ r : Fin 256, f1 r.val < 256 ∧ f2 (f1 r.val) ≤ 68 ∧ f2 (f1 r.val) % 16 ≤ 4 ∧ f3 (f2 (f1 r.val)) ≤ 8 := by decide +kernel
theorem byte_pop : ∀ r : Fin 256, f3 (f2 (f1 r.val)) = r.val % 2 + r.val / 2 % 2 + r.val / 4 % 2 + r.val / 8 % 2 + r.val / 16 % 2 + r.val / 32 % 2 + r.val / 64 % 2 + r.val / 128 % 2 := by decide +kernel

theorem oc1_step (a r m : Nat) (hr : r < 256) : ((256 * a + r) / 2 &&& (256 * m + 85)) + ((256 * a + r) &&& (256 * m + 85)) = 256 * ((a / 2 &&& m) + (a &&& m)) + f1 r := by
  have e : (256 * a + r) / 2 = 256 * (a / 2) + (128 * (a % 2) + r / 2) := by omega
  rw [e, and_byte _ _ _ _ (by omega) (by omega), and_byte _ _ _ _ hr (by omega), byte1 ⟨r, hr⟩ ⟨a % 2, by omega⟩]
  unfold f1; simp only; omega
theorem oc2_step (a r m : Nat) (hr : r < 256) : ((256 * a + r) / 4 &&& (256 * m + 51)) + ((256 * a + r) &&& (256 * m + 51)) = 256 * ((a / 4 &&& m) + (a &&& m)) + f2 r := by
  have e : (256 * a + r) / 4 = 256 * (a / 4) + (64 * (a % 4) + r / 4) := by omega
  rw [e, and_byte _ _ _ _ (by omega) (by omega), and_byte _ _ _ _ hr (by omega), byte2 ⟨r, hr⟩ ⟨a % 4, by omega⟩]
  unfold f2; simp only; omega
theorem oc3_step (a r m : Nat) (hr : r ≤ 68) (ha : a % 16 ≤ 4) : ((256 * a + r) / 16 + (256 * a + r)) &&& (256 * m + 15) = 256 * ((a / 16 + a) &&& m) + f3 r := by
  have e : (256 * a + r) / 16 + (256 * a + r) = 256 * (a / 16 + a) + (16 * (a % 16) + r / 16 + r) := by omega
  rw [e, and_byte _ _ _ _ (by omega) (by omega), byte3 ⟨r, by omega⟩ ⟨a % 16, by omega⟩]
  rfl

def oc1 (x : Nat) : Nat := (x / 2 &&& 6148914691236517205) + (x &&& 6148914691236517205)
def oc2 (x : Nat) : Nat := (x / 4 &&& 3689348814741910323) + (x &&& 3689348814741910323)
def oc3 (x : Nat) : Nat := (x / 16 + x) &&& 1085102592571150095
def bytes4 (a b c d : Nat) : Nat := 256 * (256 * (256 * d + c) + b) + a
theorem oc1_bytes {a b c d : Nat} (ha : a < 256) (hb : b < 256) (hc : c < 256) (hd : d < 256) : oc1 (bytes4 a b c d) = bytes4 (f1 a) (f1 b) (f1 c) (f1 d) := by
  unfold oc1 bytes4
  rw [show 6148914691236517205 = 256 * 24019198012642645 + 85 from rfl, oc1_step _ _ _ ha, show 24019198012642645 = 256 * 93824992236885 + 85 from rfl, oc1_step _ _ _ hb,
    show 93824992236885 = 256 * 366503875925 + 85 from rfl, oc1_step _ _ _ hc]
  have h := oc1_step 0 d 1431655765 hd
  simp only [Nat.mul_zero, Nat.zero_add, Nat.zero_div, Nat.zero_and] at h
  rw [show (366503875925 : Nat) = 256 * 1431655765 + 85 from rfl, h]
theorem oc2_bytes {a b c d : Nat} (ha : a < 256) (hb : b < 256) (hc : c < 256) (hd : d < 256) : oc2 (bytes4 a b c d) = bytes4 (f2 a) (f2 b) (f2 c) (f2 d) := by
  unfold oc2 bytes4
  rw [show 3689348814741910323 = 256 * 14411518807585587 + 51 from rfl, oc2_step _ _ _ ha, show 14411518807585587 = 256 * 56294995342131 + 51 from rfl, oc2_step _ _ _ hb,
    show 56294995342131 = 256 * 219902325555 + 51 from rfl, oc2_step _ _ _ hc]
  have h := oc2_step 0 d 858993459 hd
  simp only [Nat.mul_zero, Nat.zero_add, Nat.zero_div, Nat.zero_and] at h
  rw [show (219902325555 : Nat) = 256 * 858993459 + 51 from rfl, h]
theorem oc3_bytes {a b c d : Nat} (ha : a ≤ 68) (hb : b ≤ 68) (hc : c ≤ 68) (hd : d ≤ 68) (hb' : b % 16 ≤ 4) (hc' : c % 16 ≤ 4) (hd' : d % 16 ≤ 4) : oc3 (bytes4 a b c d) = bytes4 (f3 a) (f3 b) (f3 c) (f3 d) := by
  unfold oc3 bytes4
  rw [show 1085102592571150095 = 256 * 4238682002231055 + 15 from rfl, oc3_step _ _ _ ha (by omega), show 4238682002231055 = 256 * 16557351571215 + 15 from rfl, oc3_step _ _ _ hb (by omega),
    show 16557351571215 = 256 * 64677154575 + 15 from rfl, oc3_step _ _ _ hc (by omega)]
  have h := oc3_step 0 d 252645135 hd (by omega)
  simp only [Nat.mul_zero, Nat.zero_add, Nat.zero_div, Nat.zero_and] at h
  rw [show (64677154575 : Nat) = 256 * 252645135 + 15 from rfl, h]

def b8 (r : Nat) : Nat := f3 (f2 (f1 r))
theorem b8_le {r : Nat} (h : r < 256) : b8 r ≤ 8 := (byte_le ⟨r, h⟩).2.2.2
theorem oc123 (x : Nat) (hx : x < 4294967296) : ∃ a b c d, a < 256 ∧ b < 256 ∧ c < 256 ∧ d < 256 ∧ x = bytes4 a b c d ∧ oc1 x < 4294967296 ∧ oc2 (oc1 x) < 4294967296 ∧ oc3 (oc2 (oc1 x)) = bytes4 (b8 a) (b8 b) (b8 c) (b8 d) := by
  refine ⟨x % 256, x / 256 % 256, x / 65536 % 256, x / 16777216, by omega, by omega, by omega, by omega, by unfold bytes4; omega, ?_⟩
  have e : x = bytes4 (x % 256) (x / 256 % 256) (x / 65536 % 256) (x / 16777216) := by unfold bytes4; omega
  obtain ⟨a1, a2, a3, _⟩ := byte_le ⟨x % 256, by omega⟩
  obtain ⟨b1, b2, b3, _⟩ := byte_le ⟨x / 256 % 256, by omega⟩
  obtain ⟨c1, c2, c3, _⟩ := byte_le ⟨x / 65536 % 256, by omega⟩
  obtain ⟨d1, d2, d3, _⟩ := byte_le ⟨x / 16777216, by omega⟩
  simp only at a1 a2 a3 b1 b2 b3 c1 c2 c3 d1 d2 d3
  have h1 : oc1 x = _ := (congrArg oc1 e).trans (oc1_bytes (by omega) (by omega) (by omega) (by omega))
  have h2 : oc2 (oc1 x) = _ := (congrArg oc2 h1).trans (oc2_bytes a1 b1 c1 d1)
  have h3 : oc3 (oc2 (oc1 x)) = _ := (congrArg oc3 h2).trans (oc3_bytes a2 b2 c2 d2 b3 c3 d3)
  refine ⟨?_, ?_, h3⟩
  · rw [h1]; unfold bytes4; omega
  · rw [h2]; unfold bytes4; omega

def oc4 (x : Nat) : Nat := x + x / 256
def oc5 (x : Nat) : Nat := x + x / 65536
theorem popc_byte (q r : Nat) (hr : r < 256) : popc (256 * q + r) = b8 r + popc q := by
  rw [show b8 r = _ from byte_pop ⟨r, hr⟩]
  rw [popc_eq, popc_eq ((256 * q + r) / 2), popc_eq ((256 * q + r) / 2 / 2), popc_eq ((256 * q + r) / 2 / 2 / 2), popc_eq ((256 * q + r) / 2 / 2 / 2 / 2), popc_eq ((256 * q + r) / 2 / 2 / 2 / 2 / 2),
    popc_eq ((256 * q + r) / 2 / 2 / 2 / 2 / 2 / 2), popc_eq ((256 * q + r) / 2 / 2 / 2 / 2 / 2 / 2 / 2), show (256 * q + r) / 2 / 2 / 2 / 2 / 2 / 2 / 2 / 2 = q by omega]
  simp only
  omega
theorem popc_bytes {a b c d : Nat} (ha : a < 256) (hb : b < 256) (hc : c < 256) (hd : d < 256) : popc (bytes4 a b c d) = b8 a + b8 b + b8 c + b8 d := by
  have h0 := popc_byte 0 d hd
  simp only [Nat.mul_zero, Nat.zero_add, popc_zero] at h0
  unfold bytes4
  rw [popc_byte _ _ ha, popc_byte _ _ hb, popc_byte _ _ hc, h0]
  omega
/-- the last steps -/
theorem oc_last (x : Nat) (hx : x < 4294967296) : oc3 (oc2 (oc1 x)) < 4294967296 ∧ oc4 (oc3 (oc2 (oc1 x))) < 4294967296 ∧ oc5 (oc4 (oc3 (oc2 (oc1 x)))) < 4294967296 ∧ oc5 (oc4 (oc3 (oc2 (oc1 x)))) % 128 = popc x := by
  obtain ⟨a, b, c, d, ha, hb, hc, hd, e, _, _, h⟩ := oc123 x hx
  have la := b8_le ha; have lb := b8_le hb; have lc := b8_le hc; have ld := b8_le hd
  have hp : popc x = _ := (congrArg popc e).trans (popc_bytes ha hb hc hd)
  rw [h, hp]
  generalize b8 a = A at *
  generalize b8 b = B at *
  generalize b8 c = C at *
  generalize b8 d = D at *
  unfold oc5 oc4 bytes4
  have e1 : (256 * (256 * (256 * D + C) + B) + A) / 256 = 256 * (256 * D + C) + B := by omega
  rw [e1]
  have e2 : (256 * (256 * (256 * D + C) + B) + A + (256 * (256 * D + C) + B)) / 65536 = 256 * D + (C + D) := by omega
  rw [e2]
  refine ⟨by omega, by omega, by omega, ?_⟩
  have e3 : 256 * (256 * (256 * D + C) + B) + A + (256 * (256 * D + C) + B) + (256 * D + (C + D)) = 128 * (131072 * D + 512 * C + 2 * B + 512 * D + 2 * C + 2 * D) + (A + B + C + D) := by omega
  rw [e3, Nat.mul_add_mod]
  exact Nat.mod_eq_of_lt (by omega)
end Go.Proofs.Ytmbcfondglhiiaa
