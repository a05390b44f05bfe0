/- The reference's letter, digit, value, among, word, walked. Condition: the list of strings lies in memory. -/
import Derived.Test.YtbdcpealkllfnaaDoorBst
import Derived.Test.YtbdcpealkllfnaaDoorDrawn2
import Derived.Deep.QuietTactic
import Derived.BigQuiet
namespace Go.Proofs.YtbdcpealkllfnaaDoor
open Go.RowKit Go.Deep

def digB (b : Nat) : Bool := decide (48 ≤ b ∧ b ≤ 57)
def letB (b : Nat) : Bool := decide ((97 ≤ b ∧ b ≤ 122) ∨ (65 ≤ b ∧ b ≤ 90) ∨ b = 95)
theorem digit_any (b : Nat) (w : World) (hb : b < 256) : Calls Tryd.prog 30 #[.int .u8 (b : Int)] w fun e w' => e = .returned (.bool (digB b)) ∧ w' = w := by
 by_cases h1 : 48 ≤ b
 ·
  by_cases h2 : b ≤ 57
  ·
   rw [show digB b = true from decide_eq_true ⟨h1, h2⟩]
   have q1 : (48 : Int) ≤ (b : Int) := by omega
   have q2 : (b : Int) ≤ 57 := by omega
   go_enter Tryd.func30, Tryd.ntmps30
   go_wp2_with fail
   go_ret
   exact ⟨rfl, rfl⟩
  ·
   rw [show digB b = false from decide_eq_false (fun h => h2 h.2)]
   have q1 : (48 : Int) ≤ (b : Int) := by omega
   have q2 : ¬ (b : Int) ≤ 57 := by omega
   go_enter Tryd.func30, Tryd.ntmps30
   go_wp2_with fail
   go_ret
   exact ⟨rfl, rfl⟩
 ·
  rw [show digB b = false from decide_eq_false (fun h => h1 h.1)]
  have q1 : ¬ (48 : Int) ≤ (b : Int) := by omega
  go_enter Tryd.func30, Tryd.ntmps30
  go_wp2_with fail
  go_ret
  exact ⟨rfl, rfl⟩
theorem letter_any (b : Nat) (w : World) (hb : b < 256) : Calls Tryd.prog 32 #[.int .u8 (b : Int)] w fun e w' => e = .returned (.bool (letB b)) ∧ w' = w := by
 obtain ⟨L, hL⟩ : ∃ L, L = letB b := ⟨_, rfl⟩
 have HL : Hid (L = letB b) := Lib.hid hL
 rw [← hL]
 clear hL
 have q0 : (97 ≤ b ∧ b ≤ 122) ∨ (97 ≤ b ∧ ¬ b ≤ 122) ∨ (¬ 97 ≤ b ∧ 65 ≤ b ∧ b ≤ 90) ∨ (¬ 97 ≤ b ∧ 65 ≤ b ∧ ¬ b ≤ 90) ∨ (¬ 97 ≤ b ∧ ¬ 65 ≤ b) := by omega
 have fin : ∀ x : Bool, x = letB b → x = L := fun x h => h.trans HL.out.symm
 rcases q0 with ⟨h1, h2⟩ | ⟨h1, h2⟩ | ⟨h1, h2, h3⟩ | ⟨h1, h2, h3⟩ | ⟨h1, h2⟩
 ·
  obtain rfl := fin true (by unfold letB; exact (decide_eq_true (.inl ⟨h1, h2⟩)).symm)
  have q1 : (97 : Int) ≤ (b : Int) := by omega
  have q2 : (b : Int) ≤ 122 := by omega
  clear fin h1 h2
  go_enter Tryd.func32, Tryd.ntmps32
  go_wp2_with fail
  go_ret
  exact ⟨rfl, rfl⟩
 ·
  obtain rfl := fin false (by unfold letB; exact (decide_eq_false (by omega)).symm)
  have q1 : (97 : Int) ≤ (b : Int) := by omega
  have q2 : ¬ (b : Int) ≤ 122 := by omega
  have q3 : (65 : Int) ≤ (b : Int) := by omega
  have q4 : ¬ (b : Int) ≤ 90 := by omega
  have q5 : ((b : Int) == 95) = false := by rw [beq_eq_false_iff_ne]; omega
  clear fin h1 h2
  go_enter Tryd.func32, Tryd.ntmps32
  go_wp2_with fail
  go_ret
  exact ⟨rfl, rfl⟩
 ·
  obtain rfl := fin true (by unfold letB; exact (decide_eq_true (.inr (.inl ⟨h2, h3⟩))).symm)
  have q1 : ¬ (97 : Int) ≤ (b : Int) := by omega
  have q3 : (65 : Int) ≤ (b : Int) := by omega
  have q4 : (b : Int) ≤ 90 := by omega
  clear fin h1 h2 h3
  go_enter Tryd.func32, Tryd.ntmps32
  go_wp2_with fail
  go_ret
  exact ⟨rfl, rfl⟩
 ·
  by_cases h5 : b = 95
  ·
   obtain rfl := fin true (by unfold letB; exact (decide_eq_true (.inr (.inr h5))).symm)
   have q1 : ¬ (97 : Int) ≤ (b : Int) := by omega
   have q3 : (65 : Int) ≤ (b : Int) := by omega
   have q4 : ¬ (b : Int) ≤ 90 := by omega
   have q5 : ((b : Int) == 95) = true := by rw [beq_iff_eq]; omega
   clear fin h1 h2 h3 h5
   go_enter Tryd.func32, Tryd.ntmps32
   go_wp2_with fail
   go_ret
   exact ⟨rfl, rfl⟩
  ·
   obtain rfl := fin false (by unfold letB; exact (decide_eq_false (by omega)).symm)
   have q1 : ¬ (97 : Int) ≤ (b : Int) := by omega
   have q3 : (65 : Int) ≤ (b : Int) := by omega
   have q4 : ¬ (b : Int) ≤ 90 := by omega
   have q5 : ((b : Int) == 95) = false := by rw [beq_eq_false_iff_ne]; omega
   clear fin h1 h2 h3 h5
   go_enter Tryd.func32, Tryd.ntmps32
   go_wp2_with fail
   go_ret
   exact ⟨rfl, rfl⟩
 ·
  obtain rfl := fin false (by unfold letB; exact (decide_eq_false (by omega)).symm)
  have q1 : ¬ (97 : Int) ≤ (b : Int) := by omega
  have q3 : ¬ (65 : Int) ≤ (b : Int) := by omega
  have q5 : ((b : Int) == 95) = false := by rw [beq_eq_false_iff_ne]; omega
  clear fin h1 h2
  go_enter Tryd.func32, Tryd.ntmps32
  go_wp2_with fail
  go_ret
  exact ⟨rfl, rfl⟩
/-- a digit's value; 99: it is none -/
def valB (b : Nat) : Nat := if 48 ≤ b ∧ b ≤ 57 then b - 48 else if 97 ≤ b ∧ b ≤ 102 then b - 97 + 10 else if 65 ≤ b ∧ b ≤ 70 then b - 65 + 10 else 99
theorem valB_le (b : Nat) : valB b ≤ 99 := by unfold valB; split; omega; split; omega; split <;> omega
theorem value_any (b : Nat) (w : World) (hb : b < 256) : Calls Tryd.prog 68 #[.int .u8 (b : Int)] w fun e w' => e = .returned (.int .u64 (valB b : Nat)) ∧ w' = w := by
 have hd := fun w1 => digit_any b w1 hb
 have HD := Lib.hid hd
 clear hd
 obtain ⟨v, hv⟩ : ∃ v, v = valB b := ⟨_, rfl⟩
 rw [← hv]
 by_cases h1 : 48 ≤ b ∧ b ≤ 57
 ·
  have e : (b : Int) - 48 = (v : Int) := by rw [hv]; unfold valB; rw [if_pos h1]; omega
  have hd := HD.out w
  rw [show digB b = true from decide_eq_true h1] at hd
  have hvb : v ≤ 99 := by rw [hv]; exact valB_le b
  clear hv h1 HD
  go_enter Tryd.func68, Tryd.ntmps68
  go_wp2_with fail
  refine hd.mono ?_
  rintro e' w1 ⟨rfl, rfl⟩
  clear hd
  go_wp2_with fail
  go_ret
  exact ⟨rfl, rfl⟩
 ·
  have hd := HD.out w
  rw [show digB b = false from decide_eq_false h1] at hd
  by_cases h2 : 97 ≤ b ∧ b ≤ 102
  ·
   have e : (b : Int) - 97 + 10 = (v : Int) := by rw [hv]; unfold valB; rw [if_neg h1, if_pos h2]; omega
   have q1 : (97 : Int) ≤ (b : Int) := by omega
   have q2 : (b : Int) ≤ 102 := by omega
   clear hv h1 HD h2
   go_enter Tryd.func68, Tryd.ntmps68
   go_wp2_with fail
   refine hd.mono ?_
   rintro e' w1 ⟨rfl, rfl⟩
   clear hd
   go_wp2_with fail
   go_ret
   exact ⟨rfl, rfl⟩
  ·
   by_cases h3 : 65 ≤ b ∧ b ≤ 70
   ·
    have e : (b : Int) - 65 + 10 = (v : Int) := by rw [hv]; unfold valB; rw [if_neg h1, if_neg h2, if_pos h3]; omega
    have q1 : ¬ (97 : Int) ≤ (b : Int) := by omega
    have q3 : (65 : Int) ≤ (b : Int) := by omega
    have q4 : (b : Int) ≤ 70 := by omega
    clear hv h1 HD h2 h3
    go_enter Tryd.func68, Tryd.ntmps68
    go_wp2_with fail
    refine hd.mono ?_
    rintro e' w1 ⟨rfl, rfl⟩
    clear hd
    go_wp2_with fail
    go_ret
    exact ⟨rfl, rfl⟩
   ·
    obtain rfl : v = 99 := by rw [hv]; unfold valB; rw [if_neg h1, if_neg h2, if_neg h3]
    rw [show ((99 : Nat) : Int) = 99 from rfl]
    have q0 : ((97 : Int) ≤ (b : Int) ∧ ¬ (b : Int) ≤ 102) ∨ ¬ (97 : Int) ≤ (b : Int) := by omega
    have q1 : ((65 : Int) ≤ (b : Int) ∧ ¬ (b : Int) ≤ 70) ∨ ¬ (65 : Int) ≤ (b : Int) := by omega
    clear hv h1 HD h2 h3
    rcases q0 with ⟨q2, q3⟩ | q2
    all_goals rcases q1 with ⟨q4, q5⟩ | q4
    all_goals
     go_enter Tryd.func68, Tryd.ntmps68
     go_wp2_with fail
     refine hd.mono ?_
     rintro e' w1 ⟨rfl, rfl⟩
     clear hd
     go_wp2_with fail
     try go_ret
     try exact ⟨rfl, rfl⟩
/-- strings that lie in memory -/
def StrsAt (w : World) (A : Option Addr) (n : Nat) : Prop := 0 < n → ∃ b off, A = some ⟨b, off, none⟩ ∧ ∀ k, k < n → ∃ s : ByteArray, w.cell? ⟨b, off + k, none⟩ = some (.string s)
theorem among_any (t : ByteArray) (A : Option Addr) (n c : Nat) (w : World) (h : StrsAt w A n) (hn : n ≤ 1000000) : Calls Tryd.prog 34 #[.string t, .slice A n c] w fun e w' => (∃ x, e = .returned (.bool x)) ∧ w' = w := by
 have H := Lib.hid h
 clear h
 go_enter Tryd.func34, Tryd.ntmps34
 go_wp2_with fail
 go_loopw [5] (fun vi wr => ∃ i : Nat, i ≤ n ∧ vi = .int .i64 i ∧ wr = w) (fun vi _ => n - (intOf vi).toNat)
 case atStart => exact ⟨0, by omega, rfl, rfl⟩
 case round =>
  obtain ⟨i, hi, rfl, rfl⟩ := hrel
  by_cases hlt : i < n
  ·
   obtain ⟨b, off, rfl, hc⟩ := H.out (by omega)
   obtain ⟨s, hs⟩ := hc i hlt
   clear hc
   go_wp2_with fail
   ·
    go_ret
    exact ⟨⟨_, rfl⟩, rfl⟩
   ·
    exact ⟨⟨i + 1, by omega, by go_num, trivial⟩, by simp [intOf]; omega⟩
  ·
   obtain rfl : i = n := by omega
   go_wp2_with fail
   go_ret
   exact ⟨⟨_, rfl⟩, rfl⟩
end Go.Proofs.YtbdcpealkllfnaaDoor
