/- The reference's bits, walked: how many bits a selector has. Condition: it chooses among 1 to 1002. -/
import Derived.Test.YtbnjbclkmjjkhaaDoorFdP
import Derived.Test.YtbnjbclkmjjkhaaDoorBtC
namespace Go.Proofs.YtbnjbclkmjjkhaaDoor
open Go.RowKit

theorem wid_tab : ∀ N : Fin 1003, ∀ k : Fin 11, 1 ≤ N.val → (2 ^ k.val < N.val ↔ k.val < Lib.bitLen (N.val - 1)) := by decide +kernel
theorem wid_test {n : Int} (h0 : 1 ≤ n) (h1 : n ≤ 1002) {k : Nat} (hk : k ≤ 10) : ((2 : Int) ^ k < n ↔ (k : Int) < wid n) := by
  have h := wid_tab ⟨n.toNat, by omega⟩ ⟨k, by omega⟩ (by simp only; omega)
  simp only at h
  have e : (n - 1).toNat = n.toNat - 1 := by omega
  unfold wid
  rw [e]
  have h2 : (2 : Int) ^ k = ((2 ^ k : Nat) : Int) := by push_cast; rfl
  rw [h2]
  omega

set_option maxRecDepth 100000 in
set_option maxHeartbeats 4000000 in
theorem bits_any (n : Int) (w : World) (h0 : 1 ≤ n) (h1 : n ≤ 1002) :
    Calls Tryd.prog 14 #[.int .i64 n] w fun e w' => e = .returned (.int .i64 (wid n)) ∧ w = w' := by
  have hw := wid_le h0 h1
  go_enter Tryd.func14, Tryd.ntmps14
  go_wp2_with fail
  go_loop [3] (fun vk => ∃ k : Nat, (k : Int) ≤ wid n ∧ vk = .int .i64 k) (fun vk => (wid n - intOf vk).toNat)
  case atStart => exact ⟨0, by simpa using hw.1, rfl⟩
  case round =>
    obtain ⟨k, hk, rfl⟩ := hrel
    have ht := wid_test h0 h1 (k := k) (by omega)
    have hk10 : k ≤ 10 := by omega
    have hwr : wrap64 ((2 : Int) ^ k) = 2 ^ k := by
      obtain rfl | rfl | rfl | rfl | rfl | rfl | rfl | rfl | rfl | rfl | rfl : k = 0 ∨ k = 1 ∨ k = 2 ∨ k = 3 ∨ k = 4 ∨ k = 5 ∨ k = 6 ∨ k = 7 ∨ k = 8 ∨ k = 9 ∨ k = 10 := by omega
      all_goals (unfold wrap64; decide)
    by_cases hlt : (k : Int) < wid n
    · have hd : decide (wrap64 ((2 : Int) ^ k) < n) = true := by rw [hwr]; exact decide_eq_true (ht.2 hlt)
      clear ht hwr
      go_wp2_with fail
      go_round
      case rel => exact ⟨k + 1, by omega, by go_num⟩
      case measure => simp [intOf]; omega
    · have hd : decide (wrap64 ((2 : Int) ^ k) < n) = false := by rw [hwr]; exact decide_eq_false (fun h => hlt (ht.1 h))
      have HK : Hid ((k : Int) = wid n) := Lib.hid (by omega)
      clear ht hwr
      go_wp2_with fail
      go_ret
      exact ⟨ret_int HK.out, rfl⟩
end Go.Proofs.YtbnjbclkmjjkhaaDoor
