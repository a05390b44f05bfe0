/- The reference's Operate, walked: what an operation on words is worth. Conditions: the words and widths lie in memory and fit. -/
import Derived.Test.YtmbcfondglhiiaaWordN
import Derived.Deep.QuietTactic
import Derived.BigQuiet
namespace Go.Proofs.Ytmbcfondglhiiaa
open Go.RowKit

theorem truth_any (b : Bool) (w : World) : Calls Try.prog 38 #[.bool b] w fun e w' => e = .returned (.int .u64 (truthV b)) ∧ w = w' := by
  go_enter Try.func38, Try.ntmps38
  cases b
  · go_wp2
    go_ret
    exact ⟨rfl, rfl⟩
  · go_wp2
    go_ret
    exact ⟨rfl, rfl⟩
theorem wide_of {W : Int} (h : 1 ≤ W ∧ W ≤ 32) : wideB W = true := by simp [wideB, h.1, h.2]
theorem fits32 {W x : Int} (h : 1 ≤ W ∧ W ≤ 32) (hx : FitsW W x) : 0 ≤ x ∧ x < 4294967296 := by
  have := pow_le32 (n := W.toNat) (by omega)
  unfold FitsW at hx
  omega
theorem xor_max {x : Int} (h0 : 0 ≤ x) (h1 : x ≤ 18446744073709551615) : bits .xor .u64 IntKind.u64.max x = 18446744073709551615 - x := by
  obtain ⟨n, rfl⟩ := Int.eq_ofNat_of_zero_le h0
  have hn : n < 18446744073709551616 := by omega
  rw [show IntKind.u64.max = ((18446744073709551615 : Nat) : Int) from rfl, bits_xor_u64_nat _ n (by omega) hn]
  have e : 18446744073709551615 ^^^ n = 2 ^ 64 - (n + 1) := by
    apply Nat.eq_of_testBit_eq
    intro i
    rw [Nat.testBit_xor, Nat.testBit_two_pow_sub_succ hn, show (18446744073709551615 : Nat) = 2 ^ 64 - (0 + 1) from rfl, Nat.testBit_two_pow_sub_succ (by omega)]
    by_cases hi : i < 64
    · simp [hi]
    · have : n.testBit i = false := Nat.testBit_lt_two_pow (Nat.lt_of_lt_of_le hn (by
        have := Nat.pow_le_pow_right (n := 2) (by omega) (show 64 ≤ i by omega)
        omega))
      simp [hi, this]
  rw [e]
  omega
theorem shr_min {x u : Nat} (hx : (x : Int) < 4294967296) : (x : Int) / 2 ^ min u 64 = x / 2 ^ u := by
  by_cases h : u ≤ 64
  · rw [Nat.min_eq_left h]
  · rw [Nat.min_eq_right (by omega), div_pow_zero (n := 32) (by omega) (by omega) (by omega), div_pow_zero (n := 32) (by omega) (by omega) (by omega)]
theorem xor_step {s y : Nat} (hs : s ≤ 1) (hy : (y : Int) < 4294967296) : bits .xor .u64 (s : Int) (bits .and .u64 (y : Int) 1) = (((s + y) % 2 : Nat) : Int) := by
  have e : bits .and .u64 (y : Int) 1 = ((y % 2 : Nat) : Int) := by
    have := and_top (x := (y : Int)) (n := 1) (by omega) (by omega) (by omega)
    rw [show (2 : Int) ^ 1 - 1 = 1 from rfl] at this
    rw [this]
    omega
  rw [e, bits_xor_u64_nat _ _ (by omega) (by omega)]
  obtain rfl | rfl : s = 0 ∨ s = 1 := by omega
  · rcases Nat.mod_two_eq_zero_or_one y with h | h
    · rw [h, show (0 + y) % 2 = 0 by omega]; rfl
    · rw [h, show (0 + y) % 2 = 1 by omega]; rfl
  · rcases Nat.mod_two_eq_zero_or_one y with h | h
    · rw [h, show (1 + y) % 2 = 1 by omega]; rfl
    · rw [h, show (1 + y) % 2 = 0 by omega]; rfl
theorem opV15 (W U : Int) (a wd : Nat → Int) (n : Nat) : opV 15 W U a wd n = (a 0 + a 1) % 2 ^ W.toNat := by simp [opV]
theorem opV16 (W U : Int) (a wd : Nat → Int) (n : Nat) : opV 16 W U a wd n = (a 0 - a 1) % 2 ^ W.toNat := by simp [opV]
theorem opV17 (W U : Int) (a wd : Nat → Int) (n : Nat) : opV 17 W U a wd n = a 0 * a 1 % 2 ^ W.toNat := by simp [opV]
/-- as drawn on -/
theorem drawnN_bel (w : World) (q : Nat) : Below w.heap.size w (w.drewN q) := ⟨rfl, rfl, rfl, Nat.le_refl _, fun _ _ => rfl⟩

set_option maxHeartbeats 2000000 in
set_option maxRecDepth 100000 in
theorem op1 (W U : Int) (Aa Aw : Option Addr) (ca cw : Nat) (a wd : Nat → Int) (w : World) (_ha : Row1 w Aa 0 (fun j => .int .u64 (a j))) (_hwd : Row1 w Aw 0 (fun j => .int .i64 (wd j))) (h : OpFit 1 W U a wd 0) (hu : U ≤ 18446744073709551615) :
    Calls Try.prog 37 #[.int .i64 1, .int .i64 W, .int .u64 U, .slice Aa 0 ca, .slice Aw 0 cw] w fun e w' => e = .returned (.int .u64 (opV 1 W U a wd 0)) ∧ Below w.heap.size w w' := by
  have hW := h.wide
  have hwB := wide_of hW
  have hu0 := h.num
  go_enter Try.func37, Try.ntmps37
  go_wp2_with fail
  refine (mask_any _ _).mono ?_
  rintro e w1 ⟨rfl, rfl⟩
  rw [maskN_eq hwB]
  generalize hT : (2 : Int) ^ W.toNat - 1 = T
  have HT := Lib.hid hT; clear hT hwB
  go_wp2_with fail
  go_ret
  refine ⟨?_, Below.refl _ _⟩
  refine congrArg (fun x => Ending.returned (Value.int .u64 x)) ?_
  rw [← HT.out]
  exact and_top hu0 hu (by omega)

set_option maxHeartbeats 2000000 in
set_option maxRecDepth 100000 in
theorem op5 (W U : Int) (Aa Aw : Option Addr) (ca cw : Nat) (a wd : Nat → Int) (w : World) (ha : Row1 w Aa 1 (fun j => .int .u64 (a j))) (_hwd : Row1 w Aw 1 (fun j => .int .i64 (wd j))) (h : OpFit 5 W U a wd 1) (_hu : U ≤ 18446744073709551615) :
    Calls Try.prog 37 #[.int .i64 5, .int .i64 W, .int .u64 U, .slice Aa 1 ca, .slice Aw 1 cw] w fun e w' => e = .returned (.int .u64 (opV 5 W U a wd 1)) ∧ Below w.heap.size w w' := by
  have hW := h.wide
  have hwB := wide_of hW
  have hu0 := h.num
  obtain ⟨ba, oa, rfl, xa⟩ := ha (by omega)
  have x0 : w.cell? ⟨ba, oa, none⟩ = some (.int .u64 (a 0)) := xa 0 (by omega)
  have f0 := fits32 (h.args 0 (by omega)).1 (h.args 0 (by omega)).2
  clear xa
  obtain ⟨x, hx⟩ : ∃ x : Nat, a 0 = x := ⟨(a 0).toNat, by omega⟩
  obtain ⟨u, rfl⟩ : ∃ u : Nat, U = u := ⟨U.toNat, by omega⟩
  rw [hx] at x0 f0
  have HX := Lib.hid hx; clear hx
  go_enter Try.func37, Try.ntmps37
  go_wp2_with fail
  refine (mask_any _ _).mono ?_
  rintro e w1 ⟨rfl, rfl⟩
  rw [maskN_eq hwB]
  generalize hT : (2 : Int) ^ W.toNat - 1 = T
  have HT := Lib.hid hT; clear hT hwB
  go_wp2_with fail
  go_ret
  refine ⟨?_, Below.refl _ _⟩
  refine congrArg (fun x => Ending.returned (Value.int .u64 x)) ?_
  rw [← HT.out, shr_min f0.2]
  have hnn : 0 ≤ (x : Int) / 2 ^ u := Int.ediv_nonneg (by omega) (by have := pow_pos2 u; omega)
  have hle : (x : Int) / 2 ^ u ≤ x := Int.ediv_le_self _ (by omega)
  rw [and_top hnn (by omega) (by omega)]
  show _ = a 0 / 2 ^ (u : Int).toNat % 2 ^ W.toNat
  rw [HX.out, Int.toNat_natCast]

set_option maxHeartbeats 2000000 in
set_option maxRecDepth 100000 in
theorem op6 (W U : Int) (Aa Aw : Option Addr) (ca cw : Nat) (a wd : Nat → Int) (w : World) (ha : Row1 w Aa 1 (fun j => .int .u64 (a j))) (_hwd : Row1 w Aw 1 (fun j => .int .i64 (wd j))) (h : OpFit 6 W U a wd 1) (_hu : U ≤ 18446744073709551615) :
    Calls Try.prog 37 #[.int .i64 6, .int .i64 W, .int .u64 U, .slice Aa 1 ca, .slice Aw 1 cw] w fun e w' => e = .returned (.int .u64 (opV 6 W U a wd 1)) ∧ Below w.heap.size w w' := by
  have hW := h.wide
  have hwB := wide_of hW
  have hu0 := h.num
  obtain ⟨ba, oa, rfl, xa⟩ := ha (by omega)
  have x0 : w.cell? ⟨ba, oa, none⟩ = some (.int .u64 (a 0)) := xa 0 (by omega)
  have f0 := fits32 (h.args 0 (by omega)).1 (h.args 0 (by omega)).2
  clear xa
  go_enter Try.func37, Try.ntmps37
  go_wp2_with fail
  refine (mask_any _ _).mono ?_
  rintro e w1 ⟨rfl, rfl⟩
  rw [maskN_eq hwB]
  generalize hT : (2 : Int) ^ W.toNat - 1 = T
  have HT := Lib.hid hT; clear hT hwB
  go_wp2_with fail
  go_ret
  refine ⟨?_, Below.refl _ _⟩
  refine congrArg (fun x => Ending.returned (Value.int .u64 x)) ?_
  rw [← HT.out]
  exact and_top (by omega) (by omega) (by omega)

set_option maxHeartbeats 2000000 in
set_option maxRecDepth 100000 in
theorem op8 (W U : Int) (Aa Aw : Option Addr) (ca cw : Nat) (a wd : Nat → Int) (w : World) (ha : Row1 w Aa 1 (fun j => .int .u64 (a j))) (_hwd : Row1 w Aw 1 (fun j => .int .i64 (wd j))) (h : OpFit 8 W U a wd 1) (_hu : U ≤ 18446744073709551615) :
    Calls Try.prog 37 #[.int .i64 8, .int .i64 W, .int .u64 U, .slice Aa 1 ca, .slice Aw 1 cw] w fun e w' => e = .returned (.int .u64 (opV 8 W U a wd 1)) ∧ Below w.heap.size w w' := by
  have hW := h.wide
  have hwB := wide_of hW
  have hu0 := h.num
  obtain ⟨ba, oa, rfl, xa⟩ := ha (by omega)
  have x0 : w.cell? ⟨ba, oa, none⟩ = some (.int .u64 (a 0)) := xa 0 (by omega)
  have f0 := fits32 (h.args 0 (by omega)).1 (h.args 0 (by omega)).2
  clear xa
  go_enter Try.func37, Try.ntmps37
  go_wp2_with fail
  refine (mask_any _ _).mono ?_
  rintro e w1 ⟨rfl, rfl⟩
  rw [maskN_eq hwB]
  generalize hT : (2 : Int) ^ W.toNat - 1 = T
  have HT := Lib.hid hT; clear hT hwB
  go_wp2_with fail
  go_ret
  refine ⟨?_, Below.refl _ _⟩
  refine congrArg (fun x => Ending.returned (Value.int .u64 x)) ?_
  rw [← HT.out, xor_max f0.1 (by omega)]
  exact and_top (by omega) (by omega) (by omega)

set_option maxHeartbeats 2000000 in
set_option maxRecDepth 100000 in
theorem op9 (W U : Int) (Aa Aw : Option Addr) (ca cw : Nat) (a wd : Nat → Int) (w : World) (ha : Row1 w Aa 1 (fun j => .int .u64 (a j))) (hwd : Row1 w Aw 1 (fun j => .int .i64 (wd j))) (h : OpFit 9 W U a wd 1) (_hu : U ≤ 18446744073709551615) :
    Calls Try.prog 37 #[.int .i64 9, .int .i64 W, .int .u64 U, .slice Aa 1 ca, .slice Aw 1 cw] w fun e w' => e = .returned (.int .u64 (opV 9 W U a wd 1)) ∧ Below w.heap.size w w' := by
  have hW := h.wide
  have hwB := wide_of hW
  have hu0 := h.num
  obtain ⟨ba, oa, rfl, xa⟩ := ha (by omega)
  have x0 : w.cell? ⟨ba, oa, none⟩ = some (.int .u64 (a 0)) := xa 0 (by omega)
  have f0 := fits32 (h.args 0 (by omega)).1 (h.args 0 (by omega)).2
  clear xa
  obtain ⟨bw, ow, rfl, yw⟩ := hwd (by omega)
  have y0 : w.cell? ⟨bw, ow, none⟩ = some (.int .i64 (wd 0)) := yw 0 (by omega)
  have hq0 := (h.args 0 (by omega)).1
  clear yw
  go_enter Try.func37, Try.ntmps37
  go_wp2_with fail
  refine (mask_any _ _).mono ?_
  rintro e w1 ⟨rfl, rfl⟩
  rw [maskN_eq hwB]
  generalize hT : (2 : Int) ^ W.toNat - 1 = T
  have HT := Lib.hid hT; clear hT hwB
  have hwB0 := wide_of hq0
  have HM0 := Lib.hid (maskN_eq hwB0); clear hwB0
  go_wp2_with fail
  go_quiet (first | (go_at_call 38; refine (truth_any _ _).mono ?_; rintro e wX ⟨rfl, rfl⟩; exact ⟨rfl, _, rfl⟩) | (go_at_call 13; refine (mask_any _ _).mono ?_; rintro e wX ⟨rfl, rfl⟩; exact ⟨rfl, _, rfl⟩))
  go_wp2_with fail
  go_ret
  refine ⟨?_, drawnN_bel _ _⟩
  refine congrArg (fun x => Ending.returned (Value.int .u64 x)) ?_
  rw [HM0.out]
  rfl

set_option maxHeartbeats 2000000 in
set_option maxRecDepth 100000 in
theorem op10 (W U : Int) (Aa Aw : Option Addr) (ca cw : Nat) (a wd : Nat → Int) (w : World) (ha : Row1 w Aa 1 (fun j => .int .u64 (a j))) (_hwd : Row1 w Aw 1 (fun j => .int .i64 (wd j))) (h : OpFit 10 W U a wd 1) (_hu : U ≤ 18446744073709551615) :
    Calls Try.prog 37 #[.int .i64 10, .int .i64 W, .int .u64 U, .slice Aa 1 ca, .slice Aw 1 cw] w fun e w' => e = .returned (.int .u64 (opV 10 W U a wd 1)) ∧ Below w.heap.size w w' := by
  have hW := h.wide
  have hwB := wide_of hW
  have hu0 := h.num
  obtain ⟨ba, oa, rfl, xa⟩ := ha (by omega)
  have x0 : w.cell? ⟨ba, oa, none⟩ = some (.int .u64 (a 0)) := xa 0 (by omega)
  have f0 := fits32 (h.args 0 (by omega)).1 (h.args 0 (by omega)).2
  clear xa
  go_enter Try.func37, Try.ntmps37
  go_wp2_with fail
  refine (mask_any _ _).mono ?_
  rintro e w1 ⟨rfl, rfl⟩
  rw [maskN_eq hwB]
  generalize hT : (2 : Int) ^ W.toNat - 1 = T
  have HT := Lib.hid hT; clear hT hwB
  go_wp2_with fail
  refine (truth_any _ _).mono ?_
  rintro e w2 ⟨rfl, rfl⟩
  go_wp2_with fail
  go_ret
  refine ⟨?_, Below.refl _ _⟩
  refine congrArg (fun x => Ending.returned (Value.int .u64 x)) ?_
  rfl

set_option maxHeartbeats 2000000 in
set_option maxRecDepth 100000 in
theorem op11 (W U : Int) (Aa Aw : Option Addr) (ca cw : Nat) (a wd : Nat → Int) (w : World) (ha : Row1 w Aa 1 (fun j => .int .u64 (a j))) (_hwd : Row1 w Aw 1 (fun j => .int .i64 (wd j))) (h : OpFit 11 W U a wd 1) (_hu : U ≤ 18446744073709551615) :
    Calls Try.prog 37 #[.int .i64 11, .int .i64 W, .int .u64 U, .slice Aa 1 ca, .slice Aw 1 cw] w fun e w' => e = .returned (.int .u64 (opV 11 W U a wd 1)) ∧ Below w.heap.size w w' := by
  have hW := h.wide
  have hwB := wide_of hW
  have hu0 := h.num
  obtain ⟨ba, oa, rfl, xa⟩ := ha (by omega)
  have x0 : w.cell? ⟨ba, oa, none⟩ = some (.int .u64 (a 0)) := xa 0 (by omega)
  have f0 := fits32 (h.args 0 (by omega)).1 (h.args 0 (by omega)).2
  clear xa
  obtain ⟨x, hx⟩ : ∃ x : Nat, a 0 = x := ⟨(a 0).toNat, by omega⟩
  rw [hx] at x0 f0
  have HX := Lib.hid hx; clear hx
  go_enter Try.func37, Try.ntmps37
  go_wp2_with fail
  refine (mask_any _ _).mono ?_
  rintro e w1 ⟨rfl, rfl⟩
  rw [maskN_eq hwB]
  generalize hT : (2 : Int) ^ W.toNat - 1 = T
  have HT := Lib.hid hT; clear hT hwB
  go_wp2_with fail
  go_loopw [14, 15] (fun n v wr => ∃ (y s : Nat), v = .int .u64 y ∧ n = .int .u64 s ∧ s ≤ 1 ∧ (y : Int) < 4294967296 ∧ Hid ((s + popc y) % 2 = popc x % 2) ∧ wr = w) (fun _ v _ => (intOf v).toNat)
  case atStart => exact ⟨x, 0, rfl, rfl, by omega, f0.2, Lib.hid (by rw [Nat.zero_add]), rfl⟩
  case round =>
    obtain ⟨y, s, rfl, rfl, hs, hy, HP, rfl⟩ := hrel
    by_cases hz : y = 0
    · subst hz
      have hd : (((0 : Nat) : Int) != 0) = false := rfl
      have hp := HP.out
      rw [popc_zero, Nat.add_zero] at hp
      have HP2 := Lib.hid hp; clear hp
      go_wp2_with fail
      go_ret
      refine ⟨?_, Below.refl _ _⟩
      refine congrArg (fun x => Ending.returned (Value.int .u64 x)) ?_
      show _ = ((popc (a 0).toNat % 2 : Nat) : Int)
      rw [HX.out, Int.toNat_natCast, ← HP2.out]
      omega
    · have hd : ((y : Int) != 0) = true := by simp; omega
      have HX2 := Lib.hid (xor_step hs hy)
      have hp := HP.out
      have HP3 : Hid (((s + y) % 2 + popc (y / 2)) % 2 = popc x % 2) := Lib.hid (by rw [← HP.out, popc_eq y]; omega)
      clear hp HP
      go_wp2_with fail
      go_roundw
      case rel => exact ⟨y / 2, (s + y) % 2, congrArg (fun x => Value.int .u64 x) (by omega), congrArg (fun x => Value.int .u64 x) HX2.out, by omega, by omega, HP3, trivial⟩
      case measure => simp [intOf]; omega

set_option maxHeartbeats 2000000 in
set_option maxRecDepth 100000 in
theorem op12 (W U : Int) (Aa Aw : Option Addr) (ca cw : Nat) (a wd : Nat → Int) (w : World) (ha : Row1 w Aa 2 (fun j => .int .u64 (a j))) (_hwd : Row1 w Aw 2 (fun j => .int .i64 (wd j))) (h : OpFit 12 W U a wd 2) (_hu : U ≤ 18446744073709551615) :
    Calls Try.prog 37 #[.int .i64 12, .int .i64 W, .int .u64 U, .slice Aa 2 ca, .slice Aw 2 cw] w fun e w' => e = .returned (.int .u64 (opV 12 W U a wd 2)) ∧ Below w.heap.size w w' := by
  have hW := h.wide
  have hwB := wide_of hW
  have hu0 := h.num
  obtain ⟨ba, oa, rfl, xa⟩ := ha (by omega)
  have x0 : w.cell? ⟨ba, oa, none⟩ = some (.int .u64 (a 0)) := xa 0 (by omega)
  have x1 : w.cell? ⟨ba, oa + 1, none⟩ = some (.int .u64 (a 1)) := xa 1 (by omega)
  have f0 := fits32 (h.args 0 (by omega)).1 (h.args 0 (by omega)).2
  have f1 := fits32 (h.args 1 (by omega)).1 (h.args 1 (by omega)).2
  clear xa
  go_enter Try.func37, Try.ntmps37
  go_wp2_with fail
  refine (mask_any _ _).mono ?_
  rintro e w1 ⟨rfl, rfl⟩
  rw [maskN_eq hwB]
  generalize hT : (2 : Int) ^ W.toNat - 1 = T
  have HT := Lib.hid hT; clear hT hwB
  go_wp2_with fail
  go_quiet (fail)
  go_wp2_with fail
  go_ret
  refine ⟨?_, drawnN_bel _ _⟩
  refine congrArg (fun x => Ending.returned (Value.int .u64 x)) ?_
  rfl

set_option maxHeartbeats 2000000 in
set_option maxRecDepth 100000 in
theorem op13 (W U : Int) (Aa Aw : Option Addr) (ca cw : Nat) (a wd : Nat → Int) (w : World) (ha : Row1 w Aa 2 (fun j => .int .u64 (a j))) (_hwd : Row1 w Aw 2 (fun j => .int .i64 (wd j))) (h : OpFit 13 W U a wd 2) (_hu : U ≤ 18446744073709551615) :
    Calls Try.prog 37 #[.int .i64 13, .int .i64 W, .int .u64 U, .slice Aa 2 ca, .slice Aw 2 cw] w fun e w' => e = .returned (.int .u64 (opV 13 W U a wd 2)) ∧ Below w.heap.size w w' := by
  have hW := h.wide
  have hwB := wide_of hW
  have hu0 := h.num
  obtain ⟨ba, oa, rfl, xa⟩ := ha (by omega)
  have x0 : w.cell? ⟨ba, oa, none⟩ = some (.int .u64 (a 0)) := xa 0 (by omega)
  have x1 : w.cell? ⟨ba, oa + 1, none⟩ = some (.int .u64 (a 1)) := xa 1 (by omega)
  have f0 := fits32 (h.args 0 (by omega)).1 (h.args 0 (by omega)).2
  have f1 := fits32 (h.args 1 (by omega)).1 (h.args 1 (by omega)).2
  clear xa
  go_enter Try.func37, Try.ntmps37
  go_wp2_with fail
  refine (mask_any _ _).mono ?_
  rintro e w1 ⟨rfl, rfl⟩
  rw [maskN_eq hwB]
  generalize hT : (2 : Int) ^ W.toNat - 1 = T
  have HT := Lib.hid hT; clear hT hwB
  go_wp2_with fail
  go_quiet (fail)
  go_wp2_with fail
  go_ret
  refine ⟨?_, drawnN_bel _ _⟩
  refine congrArg (fun x => Ending.returned (Value.int .u64 x)) ?_
  rfl

set_option maxHeartbeats 2000000 in
set_option maxRecDepth 100000 in
theorem op14 (W U : Int) (Aa Aw : Option Addr) (ca cw : Nat) (a wd : Nat → Int) (w : World) (ha : Row1 w Aa 2 (fun j => .int .u64 (a j))) (_hwd : Row1 w Aw 2 (fun j => .int .i64 (wd j))) (h : OpFit 14 W U a wd 2) (_hu : U ≤ 18446744073709551615) :
    Calls Try.prog 37 #[.int .i64 14, .int .i64 W, .int .u64 U, .slice Aa 2 ca, .slice Aw 2 cw] w fun e w' => e = .returned (.int .u64 (opV 14 W U a wd 2)) ∧ Below w.heap.size w w' := by
  have hW := h.wide
  have hwB := wide_of hW
  have hu0 := h.num
  obtain ⟨ba, oa, rfl, xa⟩ := ha (by omega)
  have x0 : w.cell? ⟨ba, oa, none⟩ = some (.int .u64 (a 0)) := xa 0 (by omega)
  have x1 : w.cell? ⟨ba, oa + 1, none⟩ = some (.int .u64 (a 1)) := xa 1 (by omega)
  have f0 := fits32 (h.args 0 (by omega)).1 (h.args 0 (by omega)).2
  have f1 := fits32 (h.args 1 (by omega)).1 (h.args 1 (by omega)).2
  clear xa
  go_enter Try.func37, Try.ntmps37
  go_wp2_with fail
  refine (mask_any _ _).mono ?_
  rintro e w1 ⟨rfl, rfl⟩
  rw [maskN_eq hwB]
  generalize hT : (2 : Int) ^ W.toNat - 1 = T
  have HT := Lib.hid hT; clear hT hwB
  go_wp2_with fail
  go_quiet (fail)
  go_wp2_with fail
  go_ret
  refine ⟨?_, drawnN_bel _ _⟩
  refine congrArg (fun x => Ending.returned (Value.int .u64 x)) ?_
  rfl

set_option maxHeartbeats 2000000 in
set_option maxRecDepth 100000 in
theorem op15 (W U : Int) (Aa Aw : Option Addr) (ca cw : Nat) (a wd : Nat → Int) (w : World) (ha : Row1 w Aa 2 (fun j => .int .u64 (a j))) (_hwd : Row1 w Aw 2 (fun j => .int .i64 (wd j))) (h : OpFit 15 W U a wd 2) (_hu : U ≤ 18446744073709551615) :
    Calls Try.prog 37 #[.int .i64 15, .int .i64 W, .int .u64 U, .slice Aa 2 ca, .slice Aw 2 cw] w fun e w' => e = .returned (.int .u64 (opV 15 W U a wd 2)) ∧ Below w.heap.size w w' := by
  have hW := h.wide
  have hwB := wide_of hW
  have hu0 := h.num
  obtain ⟨ba, oa, rfl, xa⟩ := ha (by omega)
  have x0 : w.cell? ⟨ba, oa, none⟩ = some (.int .u64 (a 0)) := xa 0 (by omega)
  have x1 : w.cell? ⟨ba, oa + 1, none⟩ = some (.int .u64 (a 1)) := xa 1 (by omega)
  have f0 := fits32 (h.args 0 (by omega)).1 (h.args 0 (by omega)).2
  have f1 := fits32 (h.args 1 (by omega)).1 (h.args 1 (by omega)).2
  clear xa
  go_enter Try.func37, Try.ntmps37
  go_wp2_with fail
  refine (mask_any _ _).mono ?_
  rintro e w1 ⟨rfl, rfl⟩
  rw [maskN_eq hwB]
  generalize hT : (2 : Int) ^ W.toNat - 1 = T
  have HT := Lib.hid hT; clear hT hwB
  go_wp2_with fail
  go_quiet (fail)
  go_wp2_with fail
  go_ret
  refine ⟨?_, drawnN_bel _ _⟩
  refine congrArg (fun x => Ending.returned (Value.int .u64 x)) ?_
  rw [opV15, ← HT.out]
  exact and_top (by omega) (by omega) (by omega)

set_option maxHeartbeats 2000000 in
set_option maxRecDepth 100000 in
theorem op16 (W U : Int) (Aa Aw : Option Addr) (ca cw : Nat) (a wd : Nat → Int) (w : World) (ha : Row1 w Aa 2 (fun j => .int .u64 (a j))) (_hwd : Row1 w Aw 2 (fun j => .int .i64 (wd j))) (h : OpFit 16 W U a wd 2) (_hu : U ≤ 18446744073709551615) :
    Calls Try.prog 37 #[.int .i64 16, .int .i64 W, .int .u64 U, .slice Aa 2 ca, .slice Aw 2 cw] w fun e w' => e = .returned (.int .u64 (opV 16 W U a wd 2)) ∧ Below w.heap.size w w' := by
  have hW := h.wide
  have hwB := wide_of hW
  have hu0 := h.num
  obtain ⟨ba, oa, rfl, xa⟩ := ha (by omega)
  have x0 : w.cell? ⟨ba, oa, none⟩ = some (.int .u64 (a 0)) := xa 0 (by omega)
  have x1 : w.cell? ⟨ba, oa + 1, none⟩ = some (.int .u64 (a 1)) := xa 1 (by omega)
  have f0 := fits32 (h.args 0 (by omega)).1 (h.args 0 (by omega)).2
  have f1 := fits32 (h.args 1 (by omega)).1 (h.args 1 (by omega)).2
  clear xa
  go_enter Try.func37, Try.ntmps37
  go_wp2_with fail
  refine (mask_any _ _).mono ?_
  rintro e w1 ⟨rfl, rfl⟩
  rw [maskN_eq hwB]
  generalize hT : (2 : Int) ^ W.toNat - 1 = T
  have HT := Lib.hid hT; clear hT hwB
  go_wp2_with fail
  go_quiet (fail)
  go_wp2_with fail
  go_ret
  refine ⟨?_, drawnN_bel _ _⟩
  refine congrArg (fun x => Ending.returned (Value.int .u64 x)) ?_
  rw [opV16, ← HT.out]
  exact and_top_wrap _ (by omega)

set_option maxHeartbeats 2000000 in
set_option maxRecDepth 100000 in
theorem op17 (W U : Int) (Aa Aw : Option Addr) (ca cw : Nat) (a wd : Nat → Int) (w : World) (ha : Row1 w Aa 2 (fun j => .int .u64 (a j))) (_hwd : Row1 w Aw 2 (fun j => .int .i64 (wd j))) (h : OpFit 17 W U a wd 2) (_hu : U ≤ 18446744073709551615) :
    Calls Try.prog 37 #[.int .i64 17, .int .i64 W, .int .u64 U, .slice Aa 2 ca, .slice Aw 2 cw] w fun e w' => e = .returned (.int .u64 (opV 17 W U a wd 2)) ∧ Below w.heap.size w w' := by
  have hW := h.wide
  have hwB := wide_of hW
  have hu0 := h.num
  obtain ⟨ba, oa, rfl, xa⟩ := ha (by omega)
  have x0 : w.cell? ⟨ba, oa, none⟩ = some (.int .u64 (a 0)) := xa 0 (by omega)
  have x1 : w.cell? ⟨ba, oa + 1, none⟩ = some (.int .u64 (a 1)) := xa 1 (by omega)
  have f0 := fits32 (h.args 0 (by omega)).1 (h.args 0 (by omega)).2
  have f1 := fits32 (h.args 1 (by omega)).1 (h.args 1 (by omega)).2
  clear xa
  go_enter Try.func37, Try.ntmps37
  go_wp2_with fail
  refine (mask_any _ _).mono ?_
  rintro e w1 ⟨rfl, rfl⟩
  rw [maskN_eq hwB]
  generalize hT : (2 : Int) ^ W.toNat - 1 = T
  have HT := Lib.hid hT; clear hT hwB
  go_wp2_with fail
  go_quiet (fail)
  go_wp2_with fail
  go_ret
  refine ⟨?_, drawnN_bel _ _⟩
  refine congrArg (fun x => Ending.returned (Value.int .u64 x)) ?_
  rw [opV17, ← HT.out]
  exact and_top_wrap _ (by omega)

set_option maxHeartbeats 2000000 in
set_option maxRecDepth 100000 in
theorem op18 (W U : Int) (Aa Aw : Option Addr) (ca cw : Nat) (a wd : Nat → Int) (w : World) (ha : Row1 w Aa 2 (fun j => .int .u64 (a j))) (_hwd : Row1 w Aw 2 (fun j => .int .i64 (wd j))) (h : OpFit 18 W U a wd 2) (_hu : U ≤ 18446744073709551615) :
    Calls Try.prog 37 #[.int .i64 18, .int .i64 W, .int .u64 U, .slice Aa 2 ca, .slice Aw 2 cw] w fun e w' => e = .returned (.int .u64 (opV 18 W U a wd 2)) ∧ Below w.heap.size w w' := by
  have hW := h.wide
  have hwB := wide_of hW
  have hu0 := h.num
  obtain ⟨ba, oa, rfl, xa⟩ := ha (by omega)
  have x0 : w.cell? ⟨ba, oa, none⟩ = some (.int .u64 (a 0)) := xa 0 (by omega)
  have x1 : w.cell? ⟨ba, oa + 1, none⟩ = some (.int .u64 (a 1)) := xa 1 (by omega)
  have f0 := fits32 (h.args 0 (by omega)).1 (h.args 0 (by omega)).2
  have f1 := fits32 (h.args 1 (by omega)).1 (h.args 1 (by omega)).2
  clear xa
  obtain ⟨m, hm⟩ : ∃ m : Nat, a 1 = m := ⟨(a 1).toNat, by omega⟩
  rw [hm] at x1 f1
  have HM := Lib.hid hm; clear hm
  have eW : IntKind.u64.wrap W = W := wraps_u64 _ (by omega) (by omega)
  have hd : IntKind.u64.wrap W ≤ (m : Int) ↔ W ≤ m := by rw [eW]
  go_enter Try.func37, Try.ntmps37
  go_wp2_with fail
  refine (mask_any _ _).mono ?_
  rintro e w1 ⟨rfl, rfl⟩
  rw [maskN_eq hwB]
  generalize hT : (2 : Int) ^ W.toNat - 1 = T
  have HT := Lib.hid hT; clear hT hwB
  by_cases hc : W ≤ (m : Int)
  · have hd1 : decide (IntKind.u64.wrap W ≤ (m : Int)) = true := by rw [eW]; simpa using hc
    go_wp2_with fail
    go_ret
    refine ⟨?_, Below.refl _ _⟩
    refine congrArg (fun x => Ending.returned (Value.int .u64 x)) ?_
    show (0 : Int) = (if W ≤ a 1 then 0 else a 0 * 2 ^ (a 1).toNat % 2 ^ W.toNat)
    rw [HM.out, if_pos hc]
  · have hd1 : decide (IntKind.u64.wrap W ≤ (m : Int)) = false := by rw [eW]; simpa using hc
    go_wp2_with fail
    go_quiet (fail)
    go_wp2_with fail
    go_ret
    refine ⟨?_, drawnN_bel _ _⟩
    refine congrArg (fun x => Ending.returned (Value.int .u64 x)) ?_
    show _ = (if W ≤ a 1 then 0 else a 0 * 2 ^ (a 1).toNat % 2 ^ W.toNat)
    rw [HM.out, if_neg (by omega), Int.toNat_natCast, ← HT.out]
    exact and_top_wrap _ (by omega)

set_option maxHeartbeats 2000000 in
set_option maxRecDepth 100000 in
theorem op19 (W U : Int) (Aa Aw : Option Addr) (ca cw : Nat) (a wd : Nat → Int) (w : World) (ha : Row1 w Aa 2 (fun j => .int .u64 (a j))) (_hwd : Row1 w Aw 2 (fun j => .int .i64 (wd j))) (h : OpFit 19 W U a wd 2) (_hu : U ≤ 18446744073709551615) :
    Calls Try.prog 37 #[.int .i64 19, .int .i64 W, .int .u64 U, .slice Aa 2 ca, .slice Aw 2 cw] w fun e w' => e = .returned (.int .u64 (opV 19 W U a wd 2)) ∧ Below w.heap.size w w' := by
  have hW := h.wide
  have hwB := wide_of hW
  have hu0 := h.num
  obtain ⟨ba, oa, rfl, xa⟩ := ha (by omega)
  have x0 : w.cell? ⟨ba, oa, none⟩ = some (.int .u64 (a 0)) := xa 0 (by omega)
  have x1 : w.cell? ⟨ba, oa + 1, none⟩ = some (.int .u64 (a 1)) := xa 1 (by omega)
  have f0 := fits32 (h.args 0 (by omega)).1 (h.args 0 (by omega)).2
  have f1 := fits32 (h.args 1 (by omega)).1 (h.args 1 (by omega)).2
  clear xa
  obtain ⟨m, hm⟩ : ∃ m : Nat, a 1 = m := ⟨(a 1).toNat, by omega⟩
  rw [hm] at x1 f1
  have HM := Lib.hid hm; clear hm
  have eW : IntKind.u64.wrap W = W := wraps_u64 _ (by omega) (by omega)
  have hd : IntKind.u64.wrap W ≤ (m : Int) ↔ W ≤ m := by rw [eW]
  go_enter Try.func37, Try.ntmps37
  go_wp2_with fail
  refine (mask_any _ _).mono ?_
  rintro e w1 ⟨rfl, rfl⟩
  rw [maskN_eq hwB]
  generalize hT : (2 : Int) ^ W.toNat - 1 = T
  have HT := Lib.hid hT; clear hT hwB
  by_cases hc : W ≤ (m : Int)
  · have hd1 : decide (IntKind.u64.wrap W ≤ (m : Int)) = true := by rw [eW]; simpa using hc
    go_wp2_with fail
    go_ret
    refine ⟨?_, Below.refl _ _⟩
    refine congrArg (fun x => Ending.returned (Value.int .u64 x)) ?_
    show (0 : Int) = (if W ≤ a 1 then 0 else a 0 / 2 ^ (a 1).toNat)
    rw [HM.out, if_pos hc]
  · have hd1 : decide (IntKind.u64.wrap W ≤ (m : Int)) = false := by rw [eW]; simpa using hc
    go_wp2_with fail
    go_quiet (fail)
    go_wp2_with fail
    go_ret
    refine ⟨?_, drawnN_bel _ _⟩
    refine congrArg (fun x => Ending.returned (Value.int .u64 x)) ?_
    show _ = (if W ≤ a 1 then 0 else a 0 / 2 ^ (a 1).toNat)
    rw [HM.out, if_neg (by omega), Int.toNat_natCast]

set_option maxHeartbeats 2000000 in
set_option maxRecDepth 100000 in
theorem op20 (W U : Int) (Aa Aw : Option Addr) (ca cw : Nat) (a wd : Nat → Int) (w : World) (ha : Row1 w Aa 2 (fun j => .int .u64 (a j))) (_hwd : Row1 w Aw 2 (fun j => .int .i64 (wd j))) (h : OpFit 20 W U a wd 2) (_hu : U ≤ 18446744073709551615) :
    Calls Try.prog 37 #[.int .i64 20, .int .i64 W, .int .u64 U, .slice Aa 2 ca, .slice Aw 2 cw] w fun e w' => e = .returned (.int .u64 (opV 20 W U a wd 2)) ∧ Below w.heap.size w w' := by
  have hW := h.wide
  have hwB := wide_of hW
  have hu0 := h.num
  obtain ⟨ba, oa, rfl, xa⟩ := ha (by omega)
  have x0 : w.cell? ⟨ba, oa, none⟩ = some (.int .u64 (a 0)) := xa 0 (by omega)
  have x1 : w.cell? ⟨ba, oa + 1, none⟩ = some (.int .u64 (a 1)) := xa 1 (by omega)
  have f0 := fits32 (h.args 0 (by omega)).1 (h.args 0 (by omega)).2
  have f1 := fits32 (h.args 1 (by omega)).1 (h.args 1 (by omega)).2
  clear xa
  go_enter Try.func37, Try.ntmps37
  go_wp2_with fail
  refine (mask_any _ _).mono ?_
  rintro e w1 ⟨rfl, rfl⟩
  rw [maskN_eq hwB]
  generalize hT : (2 : Int) ^ W.toNat - 1 = T
  have HT := Lib.hid hT; clear hT hwB
  go_wp2_with fail
  go_quiet ((go_at_call 38; refine (truth_any _ _).mono ?_; rintro e wX ⟨rfl, rfl⟩; exact ⟨rfl, _, rfl⟩))
  go_wp2_with fail
  go_ret
  refine ⟨?_, drawnN_bel _ _⟩
  refine congrArg (fun x => Ending.returned (Value.int .u64 x)) ?_
  rfl

set_option maxHeartbeats 2000000 in
set_option maxRecDepth 100000 in
theorem op21 (W U : Int) (Aa Aw : Option Addr) (ca cw : Nat) (a wd : Nat → Int) (w : World) (ha : Row1 w Aa 2 (fun j => .int .u64 (a j))) (_hwd : Row1 w Aw 2 (fun j => .int .i64 (wd j))) (h : OpFit 21 W U a wd 2) (_hu : U ≤ 18446744073709551615) :
    Calls Try.prog 37 #[.int .i64 21, .int .i64 W, .int .u64 U, .slice Aa 2 ca, .slice Aw 2 cw] w fun e w' => e = .returned (.int .u64 (opV 21 W U a wd 2)) ∧ Below w.heap.size w w' := by
  have hW := h.wide
  have hwB := wide_of hW
  have hu0 := h.num
  obtain ⟨ba, oa, rfl, xa⟩ := ha (by omega)
  have x0 : w.cell? ⟨ba, oa, none⟩ = some (.int .u64 (a 0)) := xa 0 (by omega)
  have x1 : w.cell? ⟨ba, oa + 1, none⟩ = some (.int .u64 (a 1)) := xa 1 (by omega)
  have f0 := fits32 (h.args 0 (by omega)).1 (h.args 0 (by omega)).2
  have f1 := fits32 (h.args 1 (by omega)).1 (h.args 1 (by omega)).2
  clear xa
  go_enter Try.func37, Try.ntmps37
  go_wp2_with fail
  refine (mask_any _ _).mono ?_
  rintro e w1 ⟨rfl, rfl⟩
  rw [maskN_eq hwB]
  generalize hT : (2 : Int) ^ W.toNat - 1 = T
  have HT := Lib.hid hT; clear hT hwB
  go_wp2_with fail
  go_quiet ((go_at_call 38; refine (truth_any _ _).mono ?_; rintro e wX ⟨rfl, rfl⟩; exact ⟨rfl, _, rfl⟩))
  go_wp2_with fail
  go_ret
  refine ⟨?_, drawnN_bel _ _⟩
  refine congrArg (fun x => Ending.returned (Value.int .u64 x)) ?_
  rfl

set_option maxHeartbeats 2000000 in
set_option maxRecDepth 100000 in
theorem op22 (W U : Int) (Aa Aw : Option Addr) (ca cw : Nat) (a wd : Nat → Int) (w : World) (ha : Row1 w Aa 3 (fun j => .int .u64 (a j))) (_hwd : Row1 w Aw 3 (fun j => .int .i64 (wd j))) (h : OpFit 22 W U a wd 3) (_hu : U ≤ 18446744073709551615) :
    Calls Try.prog 37 #[.int .i64 22, .int .i64 W, .int .u64 U, .slice Aa 3 ca, .slice Aw 3 cw] w fun e w' => e = .returned (.int .u64 (opV 22 W U a wd 3)) ∧ Below w.heap.size w w' := by
  have hW := h.wide
  have hwB := wide_of hW
  have hu0 := h.num
  obtain ⟨ba, oa, rfl, xa⟩ := ha (by omega)
  have x0 : w.cell? ⟨ba, oa, none⟩ = some (.int .u64 (a 0)) := xa 0 (by omega)
  have x1 : w.cell? ⟨ba, oa + 1, none⟩ = some (.int .u64 (a 1)) := xa 1 (by omega)
  have x2 : w.cell? ⟨ba, oa + 2, none⟩ = some (.int .u64 (a 2)) := xa 2 (by omega)
  have f0 := fits32 (h.args 0 (by omega)).1 (h.args 0 (by omega)).2
  have f1 := fits32 (h.args 1 (by omega)).1 (h.args 1 (by omega)).2
  have f2 := fits32 (h.args 2 (by omega)).1 (h.args 2 (by omega)).2
  clear xa
  go_enter Try.func37, Try.ntmps37
  go_wp2_with fail
  refine (mask_any _ _).mono ?_
  rintro e w1 ⟨rfl, rfl⟩
  rw [maskN_eq hwB]
  generalize hT : (2 : Int) ^ W.toNat - 1 = T
  have HT := Lib.hid hT; clear hT hwB
  by_cases hc : a 0 = 0
  · have hd1 : (a 0 != 0) = false := by simp [hc]
    have HC := Lib.hid hc; clear hc
    go_wp2_with fail
    go_ret
    refine ⟨?_, Below.refl _ _⟩
    refine congrArg (fun x => Ending.returned (Value.int .u64 x)) ?_
    show _ = (if a 0 ≠ 0 then a 1 else a 2)
    rw [if_neg (fun h => h HC.out)]
  · have hd1 : (a 0 != 0) = true := by simp [hc]
    have HC := Lib.hid hc; clear hc
    go_wp2_with fail
    go_ret
    refine ⟨?_, Below.refl _ _⟩
    refine congrArg (fun x => Ending.returned (Value.int .u64 x)) ?_
    show _ = (if a 0 ≠ 0 then a 1 else a 2)
    rw [if_pos HC.out]

set_option maxHeartbeats 2000000 in
set_option maxRecDepth 100000 in
theorem op7 (n : Nat) (W U : Int) (Aa Aw : Option Addr) (ca cw : Nat) (a wd : Nat → Int) (w : World) (ha : Row1 w Aa n (fun j => .int .u64 (a j))) (hwd : Row1 w Aw n (fun j => .int .i64 (wd j))) (h : OpFit 7 W U a wd n) (_hu : U ≤ 18446744073709551615) :
    Calls Try.prog 37 #[.int .i64 7, .int .i64 W, .int .u64 U, .slice Aa n ca, .slice Aw n cw] w fun e w' => e = .returned (.int .u64 (opV 7 W U a wd n)) ∧ Below w.heap.size w w' := by
  have hW := h.wide
  have hwB := wide_of hW
  have hn := h.len
  have HF := Lib.hid h.args
  have HC := Lib.hid (catV_lt (a := a) (wd := wd) (n := n) (fun j hj => by have := (h.args j hj).1; omega) (fun j hj => (h.args j hj).2))
  have HS : Hid (sumW wd n = W) := Lib.hid (by
    have hf : (sumV wd n == W) = true := h.fit
    rw [beq_iff_eq] at hf
    rw [← (sumV_eq (fun j hj => (h.args j hj).1) hn n (Nat.le_refl _)).1, hf])
  have HL : Hid (∀ j, j ≤ n → sumW wd j ≤ W) := Lib.hid (fun j hj => by rw [← HS.out]; exact sumW_le (fun j hj => by have := (h.args j hj).1; omega) n (Nat.le_refl _) j hj)
  clear h
  go_enter Try.func37, Try.ntmps37
  go_wp2_with fail
  refine (mask_any _ _).mono ?_
  rintro e w1 ⟨rfl, rfl⟩
  rw [maskN_eq hwB]
  generalize hT : (2 : Int) ^ W.toNat - 1 = T
  have HT := Lib.hid hT; clear hT hwB
  go_wp2_with fail
  go_loopw [12, 13] (fun v ix wr => ∃ k : Nat, k ≤ n ∧ ix = .int .i64 k ∧ v = .int .u64 (catV a wd k) ∧ Below w.heap.size w wr) (fun _ ix _ => n - (intOf ix).toNat)
  case atStart => exact ⟨0, by omega, rfl, rfl, Below.refl _ _⟩
  case round =>
    obtain ⟨k, hk, rfl, rfl, HO⟩ := hrel
    have HOH := Lib.hid HO
    have hkp := Lib.hid (Keeps.of_below HO)
    clear HO
    by_cases hlt : k < n
    · have hki : (k : Int) < n := by omega
      obtain ⟨ba, oa, hAe, x0⟩ := (ha.keeps hkp.out).at_ hlt
      obtain ⟨bw, ow, hBe, y0⟩ := (hwd.keeps hkp.out).at_ hlt
      subst hAe; subst hBe
      obtain ⟨hq1, hq2⟩ := HF.out k hlt
      obtain ⟨q, hq⟩ : ∃ q : Nat, wd k = q := ⟨(wd k).toNat, by omega⟩
      rw [hq] at y0 hq1
      have HQ := Lib.hid hq; clear hq
      have HST : Hid (bits .or .u64 (IntKind.u64.wrap (catV a wd k * 2 ^ q)) (a k) = catV a wd (k + 1)) := Lib.hid (by
        have h1 := HC.out k (by omega)
        have h2 := HL.out (k + 1) (by omega)
        have h3 := hq2
        rw [HQ.out] at h3
        simp only [sumW] at h2
        rw [HQ.out] at h2
        simp only [catV]
        rw [HQ.out, Int.toNat_natCast]
        refine cat_step h1.2 (by unfold FitsW at h3; simpa using h3) ?_
        omega)
      have eq : IntKind.u64.wrap (q : Int) = q := wraps_u64 _ (by omega) (by omega)
      clear hq2
      generalize catV a wd k = v at *
      go_wp2_with fail
      go_quiet (fail)
      go_wp2_with fail
      have hbd := below_drewN HOH.out nq
      go_roundw
      case rel => exact ⟨k + 1, by omega, by go_num, congrArg (fun x => Value.int .u64 x) HST.out, hbd⟩
      case measure => simp [intOf]; omega
    · obtain rfl : k = n := by omega
      have h1 := Lib.hid (HC.out k (by omega))
      go_wp2_with fail
      go_ret
      refine ⟨?_, HOH.out⟩
      refine congrArg (fun x => Ending.returned (Value.int .u64 x)) ?_
      rw [← HT.out]
      have h2 := h1.out
      rw [HS.out] at h2
      have h3 := pow_le32 (n := W.toNat) (by omega)
      exact and_top h2.2.1 (by omega) (by omega)
theorem operate_any (K W U : Int) (Aa Aw : Option Addr) (ca cw n : Nat) (a wd : Nat → Int) (w : World) (ha : Row1 w Aa n (fun j => .int .u64 (a j))) (hwd : Row1 w Aw n (fun j => .int .i64 (wd j))) (h : OpFit K W U a wd n) (hu : U ≤ 18446744073709551615) :
    Calls Try.prog 37 #[.int .i64 K, .int .i64 W, .int .u64 U, .slice Aa n ca, .slice Aw n cw] w fun e w' => e = .returned (.int .u64 (opV K W U a wd n)) ∧ Below w.heap.size w w' := by
  rcases h.kind.all with ⟨rfl, rfl⟩ | ⟨rfl, rfl⟩ | ⟨rfl, rfl⟩ | ⟨rfl, hp⟩ | ⟨rfl, rfl⟩ | ⟨rfl, rfl⟩ | ⟨rfl, rfl⟩ | ⟨rfl, rfl⟩ | ⟨rfl, rfl⟩ | ⟨rfl, rfl⟩ | ⟨rfl, rfl⟩ | ⟨rfl, rfl⟩ | ⟨rfl, rfl⟩ | ⟨rfl, rfl⟩ | ⟨rfl, rfl⟩ | ⟨rfl, rfl⟩ | ⟨rfl, rfl⟩ | ⟨rfl, rfl⟩ | ⟨rfl, rfl⟩
  · exact op1 W U Aa Aw ca cw a wd w ha hwd h hu
  · exact op5 W U Aa Aw ca cw a wd w ha hwd h hu
  · exact op6 W U Aa Aw ca cw a wd w ha hwd h hu
  · exact op7 n W U Aa Aw ca cw a wd w ha hwd h hu
  · exact op8 W U Aa Aw ca cw a wd w ha hwd h hu
  · exact op9 W U Aa Aw ca cw a wd w ha hwd h hu
  · exact op10 W U Aa Aw ca cw a wd w ha hwd h hu
  · exact op11 W U Aa Aw ca cw a wd w ha hwd h hu
  · exact op12 W U Aa Aw ca cw a wd w ha hwd h hu
  · exact op13 W U Aa Aw ca cw a wd w ha hwd h hu
  · exact op14 W U Aa Aw ca cw a wd w ha hwd h hu
  · exact op15 W U Aa Aw ca cw a wd w ha hwd h hu
  · exact op16 W U Aa Aw ca cw a wd w ha hwd h hu
  · exact op17 W U Aa Aw ca cw a wd w ha hwd h hu
  · exact op18 W U Aa Aw ca cw a wd w ha hwd h hu
  · exact op19 W U Aa Aw ca cw a wd w ha hwd h hu
  · exact op20 W U Aa Aw ca cw a wd w ha hwd h hu
  · exact op21 W U Aa Aw ca cw a wd w ha hwd h hu
  · exact op22 W U Aa Aw ca cw a wd w ha hwd h hu
end Go.Proofs.Ytmbcfondglhiiaa
