/- The reference's told in the Door seat (ToldRef without the tables). Conditions: the row lies in memory and has at most four elements, the table is not negative. -/
import Derived.Test.YtlmcbhmaccncbaaDoorRws
import Derived.IntWalk
namespace Go.Proofs.YtlmcbhmaccncbaaDoor
open Go.RowKit

/-- which bit the signals point at -/
def rowB (X : Nat → Bool) : Nat → Nat
  | 0 => 0
  | n + 1 => rowB X n + if X n then 2 ^ n else 0
theorem rowB_lt (X : Nat → Bool) : ∀ n, rowB X n < 2 ^ n
  | 0 => by simp [rowB]
  | n + 1 => by
    have h := rowB_lt X n
    have e : 2 ^ (n + 1) = 2 ^ n + 2 ^ n := by rw [Nat.pow_succ]; omega
    simp only [rowB]
    split <;> omega
/-- a bit of a table -/
def bitAt (t : Int) (r : Nat) : Bool := t / 2 ^ r % 2 == 1
set_option maxHeartbeats 400000 in
theorem told_any (t : Int) (A : Option Addr) (n c : Nat) (X : Nat → Bool) (w : World) (h : Bits w A n X) (hn : n ≤ 4) (h0 : 0 ≤ t) :
    Calls Tryd.prog 26 #[.int .i64 t, .slice A n c] w fun e w' => e = .returned (.bool (bitAt t (rowB X n))) ∧ w = w' := by
  go_enter Tryd.func26, Tryd.ntmps26
  go_wp2_with fail
  go_loop [5, 6] (fun v i => ∃ k : Nat, k ≤ n ∧ i = .int .i64 k ∧ v = .int .i64 (rowB X k)) (fun _ i => n - (intOf i).toNat)
  case atStart => exact ⟨0, by omega, rfl, rfl⟩
  case round =>
    obtain ⟨k, hk, rfl, rfl⟩ := hrel
    have hr := rowB_lt X k
    have hp : 2 ^ k ≤ 2 ^ 4 := Nat.pow_le_pow_right (by omega) (by omega)
    by_cases hlt : k < n
    · obtain ⟨b, o, rfl, x0⟩ := h.at_ hlt
      cases hx : X k
      · rw [hx] at x0
        have hE : rowB X (k + 1) = rowB X k := by simp [rowB, hx]
        have HE := Lib.hid hE; clear hE hp hr hx
        go_wp2_with fail
        go_round
        case rel => exact ⟨k + 1, by omega, by go_num, by rw [HE.out]⟩
        case measure => simp [intOf]; omega
      · rw [hx] at x0
        have hE : rowB X (k + 1) = rowB X k + 2 ^ k := by simp [rowB, hx]
        have HE := Lib.hid hE; clear hE hx
        go_wp2_with fail
        have hpk : (2 : Int) ^ k = ((2 ^ k : Nat) : Int) := by simp
        have hp8 : 2 ^ k ≤ 16 := by simpa using hp
        have e0 : ∀ x : Nat, x ≤ 32 → wrap64 (x : Int) = x := fun x hx => IntWalk.wrap64_in (x : Int) (by omega)
        have e1 : wrap64 ((2 : Int) ^ k) = 2 ^ k := by rw [hpk]; exact e0 _ (by omega)
        have e2 : wrap64 ((rowB X k : Int) + (2 : Int) ^ k) = ((rowB X (k + 1) : Nat) : Int) := by
          rw [HE.out, hpk, ← Int.natCast_add]
          exact e0 _ (by omega)
        rw [e1, e2]
        exact ⟨⟨k + 1, by omega, by go_num, rfl⟩, by simp [intOf]; omega⟩
    · obtain rfl : k = n := by omega
      go_wp2_with fail
      have hq : 0 ≤ t / 2 ^ rowB X k := Int.ediv_nonneg h0 (Int.le_of_lt (Int.pow_pos (by omega)))
      go_ret
      refine ⟨ret_bool ?_, rfl⟩
      unfold bitAt
      rw [Int.tmod_eq_emod_of_nonneg hq]
end Go.Proofs.YtlmcbhmaccncbaaDoor
