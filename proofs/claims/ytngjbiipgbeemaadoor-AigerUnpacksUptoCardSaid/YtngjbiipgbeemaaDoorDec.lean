/- The reference's decimal, whole, literal, walked: the number's decimal numeral. No condition. -/
import Derived.Test.YtngjbiipgbeemaaDoorPrG
namespace Go.Proofs.YtngjbiipgbeemaaDoor
open Go.RowKit

theorem conv1 (w : World) (c : Int) (b : UInt8) (h : c = (b.toNat : Int)) :
    (convert 30 9 (.slice (some ⟨w.heap.size, 0, none⟩) 1 1)).run Tryd.prog (w.alloc (.cells #[.int .u8 c] 5)) = .ok (.string (str [b])) (w.alloc (.cells #[.int .u8 c] 5)) := by
  subst h
  refine run_convert_bytes_back (P := Tryd.prog) _ 30 9 5 ⟨w.heap.size, 0, none⟩ 1 [b] Tryd.underlying30 Tryd.underlying5 Tryd.underlying9 fun j hj => ?_
  obtain rfl : j = 0 := by simpa using hj
  simp [Addr.add, World.cell?_alloc_new]
theorem ofNat_dig (m : Nat) (h : m < 10) : (48 + (m : Int)) = ((UInt8.ofNat (48 + m)).toNat : Int) := by
  rw [UInt8.toNat_ofNat']
  rw [Nat.mod_eq_of_lt (by omega)]
  omega

set_option maxRecDepth 100000 in
set_option maxHeartbeats 1000000 in
theorem decimal_any (n : Nat) (w : World) (hn : n < 18446744073709551616) :
    Calls Tryd.prog 30 #[.int .u64 n] w fun e w' => e = .returned (.string (str (Lib.decDigits n))) ∧ Below w.heap.size w w' := by
  go_enter Tryd.func30, Tryd.ntmps30
  go_wp2
  go_loopw [0, 3] (fun v s wr => ∃ (m : Nat) (l : List UInt8), v = .int .u64 m ∧ s = .string (str l) ∧ Hid (Lib.decDigits m ++ l = Lib.decDigits n ∧ Below w.heap.size w wr ∧ m ≤ n ∧ l.length ≤ 20)) (fun v _ _ => (intOf v).toNat)
  case atStart => exact ⟨n, [], rfl, rfl, by simp, Below.refl _ _, Nat.le_refl _, by simp⟩
  case round =>
    obtain ⟨m, l, rfl, rfl, HM⟩ := hrel
    have h1 : (m : Int) ≤ 18446744073709551615 := by have := HM.out.2.2.1; omega
    by_cases h : m < 10
    · have hd : (48 + (m : Int)) = ((UInt8.ofNat (48 + m)).toNat : Int) := ofNat_dig m h
      have HE := Lib.hid (dec_last h)
      generalize UInt8.ofNat (48 + m) = b at hd HE
      have hcv := conv1 wr (48 + (m : Int)) _ hd
      clear hd
      have hcat := run_cat (P := Tryd.prog) [b] l (by have := HM.out.2.2.2; simp; omega)
      go_wp2
      go_ret
      refine ⟨?_, (HM.out.2.1).alloc (by have := HM.out.2.1.size; omega) _⟩
      exact ret_str (show [b] ++ l = _ by rw [← HE.out]; exact HM.out.1)
    · have hd := ofNat_dig (m % 10) (by omega)
      have HE := Lib.hid (dec_step h)
      generalize UInt8.ofNat (48 + m % 10) = b at hd HE
      have hcv := conv1 wr (48 + (m : Int) % 10) b (by omega)
      clear hd
      have hcat := run_cat (P := Tryd.prog) [b] l (by have := HM.out.2.2.2; simp; omega)
      go_wp2
      go_roundw
      case rel =>
        refine ⟨m / 10, [b] ++ l, by simp, rfl, ?_, ?_, by have := HM.out.2.2.1; omega, ?_⟩
        · rw [← HM.out.1, HE.out, List.append_assoc]
        · exact (HM.out.2.1).alloc (by have := HM.out.2.1.size; omega) _
        · have := HM.out.1
          have h2 := dec_len20 n hn
          rw [← this, HE.out] at h2
          simp at h2 ⊢; omega
      case measure => simp [intOf]; omega

theorem whole_any (n : Int) (w : World) (h0 : 0 ≤ n) (h1 : n ≤ 9223372036854775807) :
    Calls Tryd.prog 15 #[.int .i64 n] w fun e w' => e = .returned (.string (str (Lib.itoa n))) ∧ Below w.heap.size w w' := by
  obtain ⟨m, rfl⟩ := Int.eq_ofNat_of_zero_le h0
  go_enter Tryd.func15, Tryd.ntmps15
  go_wp2_with (go_at_call 30; refine (decimal_any m _ (by omega)).mono ?_; rintro e w' ⟨rfl, hb⟩)
  go_ret
  exact ⟨ret_str (Lib.itoa_nonneg m).symm, hb⟩
end Go.Proofs.YtngjbiipgbeemaaDoor
