/- The closures of word.shapes, walked. Conditions: the widths lie in memory. -/
import Derived.Test.YtmbcfondglhiiaaNetI
import Derived.Deep.DeepCutAuto
namespace Go.Proofs.Ytmbcfondglhiiaa
open Go.RowKit

theorem below_drewN {B : Nat} {w w1 : World} (h : Below B w w1) (n : Nat) : Below B w (w1.drewN n) := ⟨h.os, h.tape, h.output, h.size, h.block⟩

set_option maxHeartbeats 1000000 in
theorem any_any (K W U : Int) (An Aw : Option Addr) (al can n cw : Nat) (V : Nat → Int) (w : World) (h : Row1 w Aw n (fun k => .int .i64 (V k))) :
    Calls Try.prog 25 #[.agg #[.int .i64 K, .int .i64 W, .int .u64 U, .slice An al can], .slice Aw n cw] w fun e w' => e = .returned (.bool (true)) ∧ Below w.heap.size w w' := by
  go_enter Try.func25, Try.ntmps25
  go_upto_region 1 with (fail)
  have hbel : Below w.heap.size w (w.alloc (.cells #[.int .i64 K, .int .i64 W, .int .u64 U, .slice An al can] 42)) := (Below.refl _ _).alloc (Nat.le_refl _) _
  have q := BoxAt.new w [.int .i64 K, .int .i64 W, .int .u64 U, .slice An al can] 42
  have h1 := h.keeps (Keeps.of_below hbel)
  have HB := Lib.hid hbel; clear hbel
  generalize w.alloc (.cells #[.int .i64 K, .int .i64 W, .int .u64 U, .slice An al can] 42) = w1 at *
  obtain ⟨q0, q1, q2, q3⟩ := q.four
  go_wp2
  go_ret
  exact ⟨rfl, HB.out⟩

set_option maxHeartbeats 1000000 in
theorem one_any (K W U : Int) (An Aw : Option Addr) (al can n cw : Nat) (V : Nat → Int) (w : World) (h : Row1 w Aw n (fun k => .int .i64 (V k))) :
    Calls Try.prog 28 #[.agg #[.int .i64 K, .int .i64 W, .int .u64 U, .slice An al can], .slice Aw n cw] w fun e w' => e = .returned (.bool (W == 1)) ∧ Below w.heap.size w w' := by
  go_enter Try.func28, Try.ntmps28
  go_upto_region 1 with (fail)
  have hbel : Below w.heap.size w (w.alloc (.cells #[.int .i64 K, .int .i64 W, .int .u64 U, .slice An al can] 42)) := (Below.refl _ _).alloc (Nat.le_refl _) _
  have q := BoxAt.new w [.int .i64 K, .int .i64 W, .int .u64 U, .slice An al can] 42
  have h1 := h.keeps (Keeps.of_below hbel)
  have HB := Lib.hid hbel; clear hbel
  generalize w.alloc (.cells #[.int .i64 K, .int .i64 W, .int .u64 U, .slice An al can] 42) = w1 at *
  obtain ⟨q0, q1, q2, q3⟩ := q.four
  go_wp2
  go_ret
  exact ⟨rfl, HB.out⟩

set_option maxHeartbeats 1000000 in
theorem num_any (K W U : Int) (An Aw : Option Addr) (al can n cw : Nat) (V : Nat → Int) (w : World) (hw : wideB W = true) (hu : 0 ≤ U ∧ U ≤ 18446744073709551615) (h : Row1 w Aw n (fun k => .int .i64 (V k))) :
    Calls Try.prog 24 #[.agg #[.int .i64 K, .int .i64 W, .int .u64 U, .slice An al can], .slice Aw n cw] w fun e w' => e = .returned (.bool (decide (U ≤ maskN W))) ∧ Below w.heap.size w w' := by
  rw [maskN_eq hw]
  simp only [wideB, Bool.and_eq_true, decide_eq_true_eq] at hw
  obtain ⟨m, rfl⟩ : ∃ m : Nat, W = m := ⟨W.toNat, by omega⟩
  obtain ⟨u, rfl⟩ : ∃ u : Nat, U = u := ⟨U.toNat, by omega⟩
  go_enter Try.func24, Try.ntmps24
  go_upto_region 1 with (fail)
  have hbel : Below w.heap.size w (w.alloc (.cells #[.int .i64 K, .int .i64 (m : Int), .int .u64 (u : Int), .slice An al can] 42)) := (Below.refl _ _).alloc (Nat.le_refl _) _
  have q := BoxAt.new w [.int .i64 K, .int .i64 (m : Int), .int .u64 (u : Int), .slice An al can] 42
  have h1 := h.keeps (Keeps.of_below hbel)
  have HB := Lib.hid hbel; clear hbel
  generalize w.alloc (.cells #[.int .i64 K, .int .i64 (m : Int), .int .u64 (u : Int), .slice An al can] 42) = w1 at *
  obtain ⟨q0, q1, q2, q3⟩ := q.four
  go_wp2
  go_ret
  refine ⟨?_, HB.out⟩
  have hp : (0 : Int) < 2 ^ m := Int.pow_pos (by decide)
  have e : ((u : Int) / 2 ^ m = 0) ↔ (u : Int) ≤ 2 ^ m - 1 := ⟨fun h => by
    have h1 := Int.emod_lt_of_pos (u : Int) hp
    have h2 := Int.mul_ediv_add_emod (u : Int) (2 ^ m)
    rw [h] at h2
    simp only [Int.mul_zero, Int.zero_add] at h2
    omega, fun h => Int.ediv_eq_zero_of_lt (by omega) (by omega)⟩
  have e2 : ((u : Int) / 2 ^ m == 0) = decide ((u : Int) ≤ 2 ^ m - 1) := by
    rw [Bool.eq_iff_iff]; simpa using e
  simp only [Int.toNat_natCast]
  exact congrArg (fun b => Ending.returned (Value.bool b)) e2

set_option maxHeartbeats 1000000 in
theorem shl_any (K W U : Int) (An Aw : Option Addr) (al can cw : Nat) (V : Nat → Int) (w : World) (h : Row1 w Aw 2 (fun k => .int .i64 (V k))) :
    Calls Try.prog 29 #[.agg #[.int .i64 K, .int .i64 W, .int .u64 U, .slice An al can], .slice Aw 2 cw] w fun e w' => e = .returned (.bool (V 0 == W)) ∧ Below w.heap.size w w' := by
  go_enter Try.func29, Try.ntmps29
  go_upto_region 1 with (fail)
  have hbel : Below w.heap.size w (w.alloc (.cells #[.int .i64 K, .int .i64 W, .int .u64 U, .slice An al can] 42)) := (Below.refl _ _).alloc (Nat.le_refl _) _
  have q := BoxAt.new w [.int .i64 K, .int .i64 W, .int .u64 U, .slice An al can] 42
  have h1 := h.keeps (Keeps.of_below hbel)
  have HB := Lib.hid hbel; clear hbel
  generalize w.alloc (.cells #[.int .i64 K, .int .i64 W, .int .u64 U, .slice An al can] 42) = w1 at *
  obtain ⟨q0, q1, q2, q3⟩ := q.four
  obtain ⟨b, o, rfl, hc⟩ := h1 (by omega)
  have y0 := hc 0 (by omega)
  simp only [Nat.add_zero] at y0
  clear hc
  go_quiet (fail)
  go_wp2
  go_ret
  exact ⟨by simp_all, below_drewN HB.out _⟩

set_option maxHeartbeats 1000000 in
theorem shr_any (K W U : Int) (An Aw : Option Addr) (al can cw : Nat) (V : Nat → Int) (w : World) (h : Row1 w Aw 2 (fun k => .int .i64 (V k))) :
    Calls Try.prog 30 #[.agg #[.int .i64 K, .int .i64 W, .int .u64 U, .slice An al can], .slice Aw 2 cw] w fun e w' => e = .returned (.bool (V 0 == W)) ∧ Below w.heap.size w w' := by
  go_enter Try.func30, Try.ntmps30
  go_upto_region 1 with (fail)
  have hbel : Below w.heap.size w (w.alloc (.cells #[.int .i64 K, .int .i64 W, .int .u64 U, .slice An al can] 42)) := (Below.refl _ _).alloc (Nat.le_refl _) _
  have q := BoxAt.new w [.int .i64 K, .int .i64 W, .int .u64 U, .slice An al can] 42
  have h1 := h.keeps (Keeps.of_below hbel)
  have HB := Lib.hid hbel; clear hbel
  generalize w.alloc (.cells #[.int .i64 K, .int .i64 W, .int .u64 U, .slice An al can] 42) = w1 at *
  obtain ⟨q0, q1, q2, q3⟩ := q.four
  obtain ⟨b, o, rfl, hc⟩ := h1 (by omega)
  have y0 := hc 0 (by omega)
  simp only [Nat.add_zero] at y0
  clear hc
  go_quiet (fail)
  go_wp2
  go_ret
  exact ⟨by simp_all, below_drewN HB.out _⟩

set_option maxHeartbeats 1000000 in
theorem eq_any (K W U : Int) (An Aw : Option Addr) (al can cw : Nat) (V : Nat → Int) (w : World) (h : Row1 w Aw 2 (fun k => .int .i64 (V k))) :
    Calls Try.prog 31 #[.agg #[.int .i64 K, .int .i64 W, .int .u64 U, .slice An al can], .slice Aw 2 cw] w fun e w' => e = .returned (.bool (V 0 == V 1 && W == 1)) ∧ Below w.heap.size w w' := by
  go_enter Try.func31, Try.ntmps31
  go_upto_region 1 with (fail)
  have hbel : Below w.heap.size w (w.alloc (.cells #[.int .i64 K, .int .i64 W, .int .u64 U, .slice An al can] 42)) := (Below.refl _ _).alloc (Nat.le_refl _) _
  have q := BoxAt.new w [.int .i64 K, .int .i64 W, .int .u64 U, .slice An al can] 42
  have h1 := h.keeps (Keeps.of_below hbel)
  have HB := Lib.hid hbel; clear hbel
  generalize w.alloc (.cells #[.int .i64 K, .int .i64 W, .int .u64 U, .slice An al can] 42) = w1 at *
  obtain ⟨q0, q1, q2, q3⟩ := q.four
  obtain ⟨b, o, rfl, hc⟩ := h1 (by omega)
  have y0 := hc 0 (by omega)
  have y1 := hc 1 (by omega)
  simp only [Nat.add_zero] at y0
  clear hc
  cases e : V 0 == V 1
  · go_quiet (fail)
    go_wp2
    go_ret
    exact ⟨by simp_all, below_drewN HB.out _⟩
  · go_quiet (fail)
    go_wp2
    go_ret
    exact ⟨by simp_all, below_drewN HB.out _⟩

set_option maxHeartbeats 1000000 in
theorem lt_any (K W U : Int) (An Aw : Option Addr) (al can cw : Nat) (V : Nat → Int) (w : World) (h : Row1 w Aw 2 (fun k => .int .i64 (V k))) :
    Calls Try.prog 32 #[.agg #[.int .i64 K, .int .i64 W, .int .u64 U, .slice An al can], .slice Aw 2 cw] w fun e w' => e = .returned (.bool (V 0 == V 1 && W == 1)) ∧ Below w.heap.size w w' := by
  go_enter Try.func32, Try.ntmps32
  go_upto_region 1 with (fail)
  have hbel : Below w.heap.size w (w.alloc (.cells #[.int .i64 K, .int .i64 W, .int .u64 U, .slice An al can] 42)) := (Below.refl _ _).alloc (Nat.le_refl _) _
  have q := BoxAt.new w [.int .i64 K, .int .i64 W, .int .u64 U, .slice An al can] 42
  have h1 := h.keeps (Keeps.of_below hbel)
  have HB := Lib.hid hbel; clear hbel
  generalize w.alloc (.cells #[.int .i64 K, .int .i64 W, .int .u64 U, .slice An al can] 42) = w1 at *
  obtain ⟨q0, q1, q2, q3⟩ := q.four
  obtain ⟨b, o, rfl, hc⟩ := h1 (by omega)
  have y0 := hc 0 (by omega)
  have y1 := hc 1 (by omega)
  simp only [Nat.add_zero] at y0
  clear hc
  cases e : V 0 == V 1
  · go_quiet (fail)
    go_wp2
    go_ret
    exact ⟨by simp_all, below_drewN HB.out _⟩
  · go_quiet (fail)
    go_wp2
    go_ret
    exact ⟨by simp_all, below_drewN HB.out _⟩

set_option maxHeartbeats 1000000 in
theorem same1_any (K W U : Int) (An Aw : Option Addr) (al can cw : Nat) (V : Nat → Int) (w : World) (h : Row1 w Aw 1 (fun k => .int .i64 (V k))) :
    Calls Try.prog 27 #[.agg #[.int .i64 K, .int .i64 W, .int .u64 U, .slice An al can], .slice Aw 1 cw] w fun e w' => e = .returned (.bool (V 0 == W)) ∧ Below w.heap.size w w' := by
  go_enter Try.func27, Try.ntmps27
  go_upto_region 1 with (fail)
  have hbel : Below w.heap.size w (w.alloc (.cells #[.int .i64 K, .int .i64 W, .int .u64 U, .slice An al can] 42)) := (Below.refl _ _).alloc (Nat.le_refl _) _
  have q := BoxAt.new w [.int .i64 K, .int .i64 W, .int .u64 U, .slice An al can] 42
  have h1 := h.keeps (Keeps.of_below hbel)
  have HB := Lib.hid hbel; clear hbel
  generalize w.alloc (.cells #[.int .i64 K, .int .i64 W, .int .u64 U, .slice An al can] 42) = w1 at *
  obtain ⟨q0, q1, q2, q3⟩ := q.four
  obtain ⟨b, o, rfl, hc⟩ := h1 (by omega)
  have y0 := hc 0 (by omega)
  simp only [Nat.add_zero] at y0
  clear hc
  cases e : V 0 == W
  · go_quiet (fail)
    go_wp2
    go_ret
    exact ⟨by simp_all, below_drewN HB.out _⟩
  · go_quiet (fail)
    go_wp2
    go_ret
    exact ⟨by simp_all, below_drewN HB.out _⟩

set_option maxHeartbeats 1000000 in
theorem same2_any (K W U : Int) (An Aw : Option Addr) (al can cw : Nat) (V : Nat → Int) (w : World) (h : Row1 w Aw 2 (fun k => .int .i64 (V k))) :
    Calls Try.prog 27 #[.agg #[.int .i64 K, .int .i64 W, .int .u64 U, .slice An al can], .slice Aw 2 cw] w fun e w' => e = .returned (.bool (V 0 == W && V 1 == W)) ∧ Below w.heap.size w w' := by
  go_enter Try.func27, Try.ntmps27
  go_upto_region 1 with (fail)
  have hbel : Below w.heap.size w (w.alloc (.cells #[.int .i64 K, .int .i64 W, .int .u64 U, .slice An al can] 42)) := (Below.refl _ _).alloc (Nat.le_refl _) _
  have q := BoxAt.new w [.int .i64 K, .int .i64 W, .int .u64 U, .slice An al can] 42
  have h1 := h.keeps (Keeps.of_below hbel)
  have HB := Lib.hid hbel; clear hbel
  generalize w.alloc (.cells #[.int .i64 K, .int .i64 W, .int .u64 U, .slice An al can] 42) = w1 at *
  obtain ⟨q0, q1, q2, q3⟩ := q.four
  obtain ⟨b, o, rfl, hc⟩ := h1 (by omega)
  have y0 := hc 0 (by omega)
  have y1 := hc 1 (by omega)
  simp only [Nat.add_zero] at y0
  clear hc
  cases e : V 0 == W
  · go_quiet (fail)
    go_wp2
    go_ret
    exact ⟨by simp_all, below_drewN HB.out _⟩
  · go_quiet (fail)
    go_wp2
    go_ret
    exact ⟨by simp_all, below_drewN HB.out _⟩

set_option maxHeartbeats 1000000 in
theorem if_any (K W U : Int) (An Aw : Option Addr) (al can cw : Nat) (V : Nat → Int) (w : World) (h : Row1 w Aw 3 (fun k => .int .i64 (V k))) :
    Calls Try.prog 33 #[.agg #[.int .i64 K, .int .i64 W, .int .u64 U, .slice An al can], .slice Aw 3 cw] w fun e w' => e = .returned (.bool (V 0 == 1 && V 1 == W && V 2 == W)) ∧ Below w.heap.size w w' := by
  go_enter Try.func33, Try.ntmps33
  go_upto_region 1 with (fail)
  have hbel : Below w.heap.size w (w.alloc (.cells #[.int .i64 K, .int .i64 W, .int .u64 U, .slice An al can] 42)) := (Below.refl _ _).alloc (Nat.le_refl _) _
  have q := BoxAt.new w [.int .i64 K, .int .i64 W, .int .u64 U, .slice An al can] 42
  have h1 := h.keeps (Keeps.of_below hbel)
  have HB := Lib.hid hbel; clear hbel
  generalize w.alloc (.cells #[.int .i64 K, .int .i64 W, .int .u64 U, .slice An al can] 42) = w1 at *
  obtain ⟨q0, q1, q2, q3⟩ := q.four
  obtain ⟨b, o, rfl, hc⟩ := h1 (by omega)
  have y0 := hc 0 (by omega)
  have y1 := hc 1 (by omega)
  have y2 := hc 2 (by omega)
  simp only [Nat.add_zero] at y0
  clear hc
  cases e : V 0 == 1
  · go_quiet (fail)
    go_wp2
    go_ret
    exact ⟨by simp_all, below_drewN HB.out _⟩
  · cases e2 : V 1 == W
    · go_quiet (fail)
      go_wp2
      go_ret
      exact ⟨by simp_all, below_drewN HB.out _⟩
    · go_quiet (fail)
      go_wp2
      go_ret
      exact ⟨by simp_all, below_drewN HB.out _⟩

set_option maxHeartbeats 1000000 in
theorem slice_any (K W U : Int) (An Aw : Option Addr) (al can cw : Nat) (V : Nat → Int) (w : World) (h : Row1 w Aw 1 (fun k => .int .i64 (V k))) :
    Calls Try.prog 26 #[.agg #[.int .i64 K, .int .i64 W, .int .u64 U, .slice An al can], .slice Aw 1 cw] w fun e w' => e = .returned (.bool (decide (U < IntKind.u64.wrap (V 0)) && decide (wrap64 (wrap64 U + W) ≤ V 0))) ∧ Below w.heap.size w w' := by
  go_enter Try.func26, Try.ntmps26
  go_upto_region 1 with (fail)
  have hbel : Below w.heap.size w (w.alloc (.cells #[.int .i64 K, .int .i64 W, .int .u64 U, .slice An al can] 42)) := (Below.refl _ _).alloc (Nat.le_refl _) _
  have q := BoxAt.new w [.int .i64 K, .int .i64 W, .int .u64 U, .slice An al can] 42
  have h1 := h.keeps (Keeps.of_below hbel)
  have HB := Lib.hid hbel; clear hbel
  generalize w.alloc (.cells #[.int .i64 K, .int .i64 W, .int .u64 U, .slice An al can] 42) = w1 at *
  obtain ⟨q0, q1, q2, q3⟩ := q.four
  obtain ⟨b, o, rfl, hc⟩ := h1 (by omega)
  have y0 := hc 0 (by omega)
  simp only [Nat.add_zero] at y0
  clear hc
  by_cases e : U < IntKind.u64.wrap (V 0)
  · go_quiet (fail)
    go_wp2
    go_ret
    exact ⟨by simp_all, below_drewN HB.out _⟩
  · have e2 : decide (U < IntKind.u64.wrap (V 0)) = false := by simp; omega
    go_quiet (fail)
    go_wp2
    go_ret
    exact ⟨by simp_all, below_drewN HB.out _⟩

def sumV (V : Nat → Int) : Nat → Int
  | 0 => 0
  | k + 1 => wrap64 (sumV V k + V k)
set_option maxHeartbeats 1000000 in
theorem cat_any (K W U : Int) (An Aw : Option Addr) (al can n cw : Nat) (V : Nat → Int) (w : World) (hn : n ≤ 1000000000000000) (h : Row1 w Aw n (fun k => .int .i64 (V k))) :
    Calls Try.prog 34 #[.agg #[.int .i64 K, .int .i64 W, .int .u64 U, .slice An al can], .slice Aw n cw] w fun e w' => e = .returned (.bool (sumV V n == W)) ∧ Below w.heap.size w w' := by
  go_enter Try.func34, Try.ntmps34
  go_upto_region 1 with (fail)
  have hbel : Below w.heap.size w (w.alloc (.cells #[.int .i64 K, .int .i64 W, .int .u64 U, .slice An al can] 42)) := (Below.refl _ _).alloc (Nat.le_refl _) _
  have q := BoxAt.new w [.int .i64 K, .int .i64 W, .int .u64 U, .slice An al can] 42
  have h1 := h.keeps (Keeps.of_below hbel)
  have HB := Lib.hid hbel; clear hbel
  generalize w.alloc (.cells #[.int .i64 K, .int .i64 W, .int .u64 U, .slice An al can] 42) = w1 at *
  obtain ⟨q0, q1, q2, q3⟩ := q.four
  go_wp2_with fail
  go_loopw [5, 10] (fun s i wr => ∃ k : Nat, k ≤ n ∧ i = .int .i64 k ∧ s = .int .i64 (sumV V k) ∧ wr = w1) (fun _ i _ => n - (intOf i).toNat)
  case atStart => exact ⟨0, by omega, rfl, rfl, rfl⟩
  case round =>
    obtain ⟨k, hk, rfl, rfl, rfl⟩ := hrel
    by_cases hlt : k < n
    · obtain ⟨b, o, rfl, y0⟩ := h1.at_ hlt
      go_wp2_with fail
      go_roundw
      case rel => exact ⟨k + 1, by omega, by go_num, rfl, trivial⟩
      case measure => simp [intOf]; omega
    · obtain rfl : k = n := by omega
      go_wp2_with fail
      go_ret
      exact ⟨rfl, HB.out⟩

end Go.Proofs.Ytmbcfondglhiiaa
