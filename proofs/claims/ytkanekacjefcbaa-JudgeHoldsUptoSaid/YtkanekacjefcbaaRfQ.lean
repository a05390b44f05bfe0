/- The reference's Held.open and Follows, walked. Conditions: what they read lies in memory; the numbers are literals. -/
import Derived.Test.YtkanekacjefcbaaRfR
import Derived.Test.YtkanekacjefcbaaRfF
namespace Go.Proofs.Ytkanekacjefcbaa
open Go.RowKit

set_option maxHeartbeats 2000000 in
theorem openR_any (bh bs V : Nat) (S : Int → Bool) (A : Option Addr) (d : Nat) (c : List Int) (w : World) (h : Side w bh bs V S) (hc : ClRow w A c) (hl : LitsOk V c) (hV : V ≤ 100000) (hlen : c.length ≤ 1000000000) :
    Calls Try.prog 32 #[.pointer (some ⟨bh, 0, none⟩), .slice A c.length d] w fun e w' => e = .returned (.tuple #[.int .i64 (openR S c 0 0).1, .int .i64 (openR S c 0 0).2]) ∧ w = w' := by
  have HL := Lib.hid (litsOk_iff.1 hl)
  have HS := Lib.hid h
  have HG := Lib.hid (openR_ge S)
  clear hl h
  go_enter Try.func32, Try.ntmps32
  go_wp2
  go_loop [6, 7, 8] (fun nv xv ix => ∃ (k n : Nat) (x : Int), k ≤ c.length ∧ n ≤ k ∧ ix = .int .i64 k ∧ nv = .int .i64 n ∧ xv = .int .i64 x ∧ Hid (openR S c 0 0 = openR S (c.drop k) n x)) (fun _ _ ix => c.length - (intOf ix).toNat)
  case atStart => exact ⟨0, 0, 0, by omega, by omega, rfl, rfl, rfl, Lib.hid rfl⟩
  case round =>
    obtain ⟨k, n, x, hk, hnk, rfl, rfl, rfl, HK⟩ := hrel
    by_cases hlt : k < c.length
    · have hki : (k : Int) < c.length := by omega
      obtain ⟨ba, oa, hA, x0⟩ := hc.at_ hlt
      have hly := HL.out k hlt
      have HD : Hid (openR S (c.drop k) n x = if S (-(c.getD k 0)) = true ∨ (0 < n ∧ c.getD k 0 = x) then openR S (c.drop (k + 1)) n x else openR S (c.drop (k + 1)) (n + 1) (c.getD k 0)) := Lib.hid (by rw [drop_getD hlt]; rfl)
      generalize c.getD k 0 = y at *
      have hlo : LitOk1 V (-y) := by obtain ⟨a, b, d⟩ := hly; exact ⟨by omega, by omega, by omega⟩
      have HLO := Lib.hid hlo; clear hlo
      obtain ⟨hy0, hy1, hy2⟩ := hly
      subst hA
      go_wp2_with fail
      refine (is_any bh bs V S (-y) _ HS.out HLO.out hV).mono ?_
      rintro e w1 ⟨rfl, rfl⟩
      by_cases hS : S (-y) = true
      · rw [hS]
        have HN : Hid (openR S c 0 0 = openR S (c.drop (k + 1)) n x) := Lib.hid (by rw [HK.out, HD.out, if_pos (.inl hS)])
        clear hS
        go_wp2_with fail
        go_round
        case rel => exact ⟨k + 1, n, x, by omega, by omega, by go_num, rfl, rfl, HN⟩
        case measure => simp [intOf]; omega
      · have hSf : S (-y) = false := by simpa using hS
        rw [hSf]
        by_cases hn : 0 < n
        · have hni : (0 : Int) < n := by omega
          by_cases hyx : y = x
          · have HN : Hid (openR S c 0 0 = openR S (c.drop (k + 1)) n x) := Lib.hid (by rw [HK.out, HD.out, if_pos (.inr ⟨hn, hyx⟩)])
            have hq : (y == x) = true := by simpa using hyx
            clear hS hSf hyx
            go_wp2_with fail
            go_round
            case rel => exact ⟨k + 1, n, x, by omega, by omega, by go_num, rfl, rfl, HN⟩
            case measure => simp [intOf]; omega
          · have HN : Hid (openR S c 0 0 = openR S (c.drop (k + 1)) (n + 1) y) := Lib.hid (by rw [HK.out, HD.out, if_neg (by simp [hS, hyx])])
            have hq : (y == x) = false := by simpa using hyx
            clear hS hSf hyx
            go_wp2_with fail
            go_round
            case rel => exact ⟨k + 1, n + 1, y, by omega, by omega, by go_num, by go_num, rfl, HN⟩
            case measure => simp [intOf]; omega
        · have hn0 : n = 0 := by omega
          have HN : Hid (openR S c 0 0 = openR S (c.drop (k + 1)) (n + 1) y) := Lib.hid (by rw [HK.out, HD.out, if_neg (by simp [hS, hn0])])
          have hni : ¬ (0 : Int) < n := by omega
          clear hS hSf hn0
          go_wp2_with fail
          go_round
          case rel => exact ⟨k + 1, n + 1, y, by omega, by omega, by go_num, by go_num, rfl, HN⟩
          case measure => simp [intOf]; omega
    · obtain rfl : k = c.length := by omega
      have HN : Hid (openR S c 0 0 = (n, x)) := Lib.hid (by rw [HK.out, List.drop_length]; rfl)
      go_wp2
      go_ret2
      exact ⟨by rw [HN.out]; rfl, rfl⟩
end Go.Proofs.Ytkanekacjefcbaa
