/- The reference's fits, walked, kind by kind. Conditions: the widths lie in memory. -/
import Derived.Test.YtmbcfondglhiiaaNetS
namespace Go.Proofs.Ytmbcfondglhiiaa
open Go.RowKit

set_option maxHeartbeats 1000000 in
theorem fit5 (W U : Int) (An Aw : Option Addr) (al can cw : Nat) (V : Nat → Int) (w : World) (h : Row1 w Aw 1 (fun k => .int .i64 (V k))) :
    Calls Try.prog 21 #[.agg #[.int .i64 5, .int .i64 W, .int .u64 U, .slice An al can], .slice Aw 1 cw] w fun e w' => e = .returned (.bool (decide (U < IntKind.u64.wrap (V 0)) && decide (wrap64 (wrap64 U + W) ≤ V 0))) ∧ Below w.heap.size w w' := by
  go_enter Try.func21, Try.ntmps21
  go_upto_region 1 with (fail)
  have hbel : Below w.heap.size w (w.alloc (.cells #[.int .i64 5, .int .i64 W, .int .u64 U, .slice An al can] 42)) := (Below.refl _ _).alloc (Nat.le_refl _) _
  have q := BoxAt.new w [.int .i64 5, .int .i64 W, .int .u64 U, .slice An al can] 42
  have h1 := h.keeps (Keeps.of_below hbel)
  have HB := Lib.hid hbel; clear hbel
  generalize w.alloc (.cells #[.int .i64 5, .int .i64 W, .int .u64 U, .slice An al can] 42) = w1 at *
  obtain ⟨q0, q1, q2, q3⟩ := q.four
  clear q
  obtain ⟨b, o, rfl, hc⟩ := h1 (by omega)
  have y0 := hc 0 (by omega)
  simp only [Nat.add_zero] at y0
  clear hc
  by_cases e : U < IntKind.u64.wrap (V 0)
  · go_wp2_with fail
    go_quiet (fail)
    go_wp2_with fail
    go_ret
    exact ⟨by simp_all, below_drewN HB.out _⟩
  · have e2 : decide (U < IntKind.u64.wrap (V 0)) = false := by simp; omega
    go_wp2_with fail
    go_quiet (fail)
    go_wp2_with fail
    go_ret
    exact ⟨by rw [e2]; rfl, below_drewN HB.out _⟩

set_option maxHeartbeats 1000000 in
theorem fit8 (W U : Int) (An Aw : Option Addr) (al can cw : Nat) (V : Nat → Int) (w : World) (h : Row1 w Aw 1 (fun k => .int .i64 (V k))) :
    Calls Try.prog 21 #[.agg #[.int .i64 8, .int .i64 W, .int .u64 U, .slice An al can], .slice Aw 1 cw] w fun e w' => e = .returned (.bool (V 0 == W)) ∧ Below w.heap.size w w' := by
  go_enter Try.func21, Try.ntmps21
  go_upto_region 1 with (fail)
  have hbel : Below w.heap.size w (w.alloc (.cells #[.int .i64 8, .int .i64 W, .int .u64 U, .slice An al can] 42)) := (Below.refl _ _).alloc (Nat.le_refl _) _
  have q := BoxAt.new w [.int .i64 8, .int .i64 W, .int .u64 U, .slice An al can] 42
  have h1 := h.keeps (Keeps.of_below hbel)
  have HB := Lib.hid hbel; clear hbel
  generalize w.alloc (.cells #[.int .i64 8, .int .i64 W, .int .u64 U, .slice An al can] 42) = w1 at *
  obtain ⟨q0, q1, q2, q3⟩ := q.four
  clear q
  obtain ⟨b, o, rfl, hc⟩ := h1 (by omega)
  have y0 := hc 0 (by omega)
  simp only [Nat.add_zero] at y0
  clear hc
  go_wp2_with fail
  go_quiet (fail)
  go_wp2_with fail
  go_ret
  exact ⟨by simp_all, below_drewN HB.out _⟩

set_option maxHeartbeats 1000000 in
theorem fit9 (W U : Int) (An Aw : Option Addr) (al can n cw : Nat) (V : Nat → Int) (w : World) (h : Row1 w Aw n (fun k => .int .i64 (V k))) :
    Calls Try.prog 21 #[.agg #[.int .i64 9, .int .i64 W, .int .u64 U, .slice An al can], .slice Aw n cw] w fun e w' => e = .returned (.bool (W == 1)) ∧ Below w.heap.size w w' := by
  go_enter Try.func21, Try.ntmps21
  go_upto_region 1 with (fail)
  have hbel : Below w.heap.size w (w.alloc (.cells #[.int .i64 9, .int .i64 W, .int .u64 U, .slice An al can] 42)) := (Below.refl _ _).alloc (Nat.le_refl _) _
  have q := BoxAt.new w [.int .i64 9, .int .i64 W, .int .u64 U, .slice An al can] 42
  have h1 := h.keeps (Keeps.of_below hbel)
  have HB := Lib.hid hbel; clear hbel
  generalize w.alloc (.cells #[.int .i64 9, .int .i64 W, .int .u64 U, .slice An al can] 42) = w1 at *
  obtain ⟨q0, q1, q2, q3⟩ := q.four
  clear q
  go_wp2
  go_ret
  exact ⟨rfl, HB.out⟩

set_option maxHeartbeats 1000000 in
theorem fit10 (W U : Int) (An Aw : Option Addr) (al can n cw : Nat) (V : Nat → Int) (w : World) (h : Row1 w Aw n (fun k => .int .i64 (V k))) :
    Calls Try.prog 21 #[.agg #[.int .i64 10, .int .i64 W, .int .u64 U, .slice An al can], .slice Aw n cw] w fun e w' => e = .returned (.bool (W == 1)) ∧ Below w.heap.size w w' := by
  go_enter Try.func21, Try.ntmps21
  go_upto_region 1 with (fail)
  have hbel : Below w.heap.size w (w.alloc (.cells #[.int .i64 10, .int .i64 W, .int .u64 U, .slice An al can] 42)) := (Below.refl _ _).alloc (Nat.le_refl _) _
  have q := BoxAt.new w [.int .i64 10, .int .i64 W, .int .u64 U, .slice An al can] 42
  have h1 := h.keeps (Keeps.of_below hbel)
  have HB := Lib.hid hbel; clear hbel
  generalize w.alloc (.cells #[.int .i64 10, .int .i64 W, .int .u64 U, .slice An al can] 42) = w1 at *
  obtain ⟨q0, q1, q2, q3⟩ := q.four
  clear q
  go_wp2
  go_ret
  exact ⟨rfl, HB.out⟩

set_option maxHeartbeats 1000000 in
theorem fit11 (W U : Int) (An Aw : Option Addr) (al can n cw : Nat) (V : Nat → Int) (w : World) (h : Row1 w Aw n (fun k => .int .i64 (V k))) :
    Calls Try.prog 21 #[.agg #[.int .i64 11, .int .i64 W, .int .u64 U, .slice An al can], .slice Aw n cw] w fun e w' => e = .returned (.bool (W == 1)) ∧ Below w.heap.size w w' := by
  go_enter Try.func21, Try.ntmps21
  go_upto_region 1 with (fail)
  have hbel : Below w.heap.size w (w.alloc (.cells #[.int .i64 11, .int .i64 W, .int .u64 U, .slice An al can] 42)) := (Below.refl _ _).alloc (Nat.le_refl _) _
  have q := BoxAt.new w [.int .i64 11, .int .i64 W, .int .u64 U, .slice An al can] 42
  have h1 := h.keeps (Keeps.of_below hbel)
  have HB := Lib.hid hbel; clear hbel
  generalize w.alloc (.cells #[.int .i64 11, .int .i64 W, .int .u64 U, .slice An al can] 42) = w1 at *
  obtain ⟨q0, q1, q2, q3⟩ := q.four
  clear q
  go_wp2
  go_ret
  exact ⟨rfl, HB.out⟩

set_option maxHeartbeats 1000000 in
theorem fit12 (W U : Int) (An Aw : Option Addr) (al can cw : Nat) (V : Nat → Int) (w : World) (h : Row1 w Aw 2 (fun k => .int .i64 (V k))) :
    Calls Try.prog 21 #[.agg #[.int .i64 12, .int .i64 W, .int .u64 U, .slice An al can], .slice Aw 2 cw] w fun e w' => e = .returned (.bool (V 0 == W && V 1 == W)) ∧ Below w.heap.size w w' := by
  go_enter Try.func21, Try.ntmps21
  go_upto_region 1 with (fail)
  have hbel : Below w.heap.size w (w.alloc (.cells #[.int .i64 12, .int .i64 W, .int .u64 U, .slice An al can] 42)) := (Below.refl _ _).alloc (Nat.le_refl _) _
  have q := BoxAt.new w [.int .i64 12, .int .i64 W, .int .u64 U, .slice An al can] 42
  have h1 := h.keeps (Keeps.of_below hbel)
  have HB := Lib.hid hbel; clear hbel
  generalize w.alloc (.cells #[.int .i64 12, .int .i64 W, .int .u64 U, .slice An al can] 42) = w1 at *
  obtain ⟨q0, q1, q2, q3⟩ := q.four
  clear q
  obtain ⟨b, o, rfl, hc⟩ := h1 (by omega)
  have y0 := hc 0 (by omega)
  have y1 := hc 1 (by omega)
  simp only [Nat.add_zero] at y0
  clear hc
  cases e2 : V 0 == W
  · go_wp2_with fail
    go_quiet (fail)
    go_wp2_with fail
    go_ret
    exact ⟨by simp_all, below_drewN HB.out _⟩
  · go_wp2_with fail
    go_quiet (fail)
    go_wp2_with fail
    go_ret
    exact ⟨by simp_all, below_drewN HB.out _⟩

set_option maxHeartbeats 1000000 in
theorem fit13 (W U : Int) (An Aw : Option Addr) (al can cw : Nat) (V : Nat → Int) (w : World) (h : Row1 w Aw 2 (fun k => .int .i64 (V k))) :
    Calls Try.prog 21 #[.agg #[.int .i64 13, .int .i64 W, .int .u64 U, .slice An al can], .slice Aw 2 cw] w fun e w' => e = .returned (.bool (V 0 == W && V 1 == W)) ∧ Below w.heap.size w w' := by
  go_enter Try.func21, Try.ntmps21
  go_upto_region 1 with (fail)
  have hbel : Below w.heap.size w (w.alloc (.cells #[.int .i64 13, .int .i64 W, .int .u64 U, .slice An al can] 42)) := (Below.refl _ _).alloc (Nat.le_refl _) _
  have q := BoxAt.new w [.int .i64 13, .int .i64 W, .int .u64 U, .slice An al can] 42
  have h1 := h.keeps (Keeps.of_below hbel)
  have HB := Lib.hid hbel; clear hbel
  generalize w.alloc (.cells #[.int .i64 13, .int .i64 W, .int .u64 U, .slice An al can] 42) = w1 at *
  obtain ⟨q0, q1, q2, q3⟩ := q.four
  clear q
  obtain ⟨b, o, rfl, hc⟩ := h1 (by omega)
  have y0 := hc 0 (by omega)
  have y1 := hc 1 (by omega)
  simp only [Nat.add_zero] at y0
  clear hc
  cases e2 : V 0 == W
  · go_wp2_with fail
    go_quiet (fail)
    go_wp2_with fail
    go_ret
    exact ⟨by simp_all, below_drewN HB.out _⟩
  · go_wp2_with fail
    go_quiet (fail)
    go_wp2_with fail
    go_ret
    exact ⟨by simp_all, below_drewN HB.out _⟩

set_option maxHeartbeats 1000000 in
theorem fit14 (W U : Int) (An Aw : Option Addr) (al can cw : Nat) (V : Nat → Int) (w : World) (h : Row1 w Aw 2 (fun k => .int .i64 (V k))) :
    Calls Try.prog 21 #[.agg #[.int .i64 14, .int .i64 W, .int .u64 U, .slice An al can], .slice Aw 2 cw] w fun e w' => e = .returned (.bool (V 0 == W && V 1 == W)) ∧ Below w.heap.size w w' := by
  go_enter Try.func21, Try.ntmps21
  go_upto_region 1 with (fail)
  have hbel : Below w.heap.size w (w.alloc (.cells #[.int .i64 14, .int .i64 W, .int .u64 U, .slice An al can] 42)) := (Below.refl _ _).alloc (Nat.le_refl _) _
  have q := BoxAt.new w [.int .i64 14, .int .i64 W, .int .u64 U, .slice An al can] 42
  have h1 := h.keeps (Keeps.of_below hbel)
  have HB := Lib.hid hbel; clear hbel
  generalize w.alloc (.cells #[.int .i64 14, .int .i64 W, .int .u64 U, .slice An al can] 42) = w1 at *
  obtain ⟨q0, q1, q2, q3⟩ := q.four
  clear q
  obtain ⟨b, o, rfl, hc⟩ := h1 (by omega)
  have y0 := hc 0 (by omega)
  have y1 := hc 1 (by omega)
  simp only [Nat.add_zero] at y0
  clear hc
  cases e2 : V 0 == W
  · go_wp2_with fail
    go_quiet (fail)
    go_wp2_with fail
    go_ret
    exact ⟨by simp_all, below_drewN HB.out _⟩
  · go_wp2_with fail
    go_quiet (fail)
    go_wp2_with fail
    go_ret
    exact ⟨by simp_all, below_drewN HB.out _⟩

set_option maxHeartbeats 1000000 in
theorem fit15 (W U : Int) (An Aw : Option Addr) (al can cw : Nat) (V : Nat → Int) (w : World) (h : Row1 w Aw 2 (fun k => .int .i64 (V k))) :
    Calls Try.prog 21 #[.agg #[.int .i64 15, .int .i64 W, .int .u64 U, .slice An al can], .slice Aw 2 cw] w fun e w' => e = .returned (.bool (V 0 == W && V 1 == W)) ∧ Below w.heap.size w w' := by
  go_enter Try.func21, Try.ntmps21
  go_upto_region 1 with (fail)
  have hbel : Below w.heap.size w (w.alloc (.cells #[.int .i64 15, .int .i64 W, .int .u64 U, .slice An al can] 42)) := (Below.refl _ _).alloc (Nat.le_refl _) _
  have q := BoxAt.new w [.int .i64 15, .int .i64 W, .int .u64 U, .slice An al can] 42
  have h1 := h.keeps (Keeps.of_below hbel)
  have HB := Lib.hid hbel; clear hbel
  generalize w.alloc (.cells #[.int .i64 15, .int .i64 W, .int .u64 U, .slice An al can] 42) = w1 at *
  obtain ⟨q0, q1, q2, q3⟩ := q.four
  clear q
  obtain ⟨b, o, rfl, hc⟩ := h1 (by omega)
  have y0 := hc 0 (by omega)
  have y1 := hc 1 (by omega)
  simp only [Nat.add_zero] at y0
  clear hc
  cases e2 : V 0 == W
  · go_wp2_with fail
    go_quiet (fail)
    go_wp2_with fail
    go_ret
    exact ⟨by simp_all, below_drewN HB.out _⟩
  · go_wp2_with fail
    go_quiet (fail)
    go_wp2_with fail
    go_ret
    exact ⟨by simp_all, below_drewN HB.out _⟩

set_option maxHeartbeats 1000000 in
theorem fit16 (W U : Int) (An Aw : Option Addr) (al can cw : Nat) (V : Nat → Int) (w : World) (h : Row1 w Aw 2 (fun k => .int .i64 (V k))) :
    Calls Try.prog 21 #[.agg #[.int .i64 16, .int .i64 W, .int .u64 U, .slice An al can], .slice Aw 2 cw] w fun e w' => e = .returned (.bool (V 0 == W && V 1 == W)) ∧ Below w.heap.size w w' := by
  go_enter Try.func21, Try.ntmps21
  go_upto_region 1 with (fail)
  have hbel : Below w.heap.size w (w.alloc (.cells #[.int .i64 16, .int .i64 W, .int .u64 U, .slice An al can] 42)) := (Below.refl _ _).alloc (Nat.le_refl _) _
  have q := BoxAt.new w [.int .i64 16, .int .i64 W, .int .u64 U, .slice An al can] 42
  have h1 := h.keeps (Keeps.of_below hbel)
  have HB := Lib.hid hbel; clear hbel
  generalize w.alloc (.cells #[.int .i64 16, .int .i64 W, .int .u64 U, .slice An al can] 42) = w1 at *
  obtain ⟨q0, q1, q2, q3⟩ := q.four
  clear q
  obtain ⟨b, o, rfl, hc⟩ := h1 (by omega)
  have y0 := hc 0 (by omega)
  have y1 := hc 1 (by omega)
  simp only [Nat.add_zero] at y0
  clear hc
  cases e2 : V 0 == W
  · go_wp2_with fail
    go_quiet (fail)
    go_wp2_with fail
    go_ret
    exact ⟨by simp_all, below_drewN HB.out _⟩
  · go_wp2_with fail
    go_quiet (fail)
    go_wp2_with fail
    go_ret
    exact ⟨by simp_all, below_drewN HB.out _⟩

set_option maxHeartbeats 1000000 in
theorem fit17 (W U : Int) (An Aw : Option Addr) (al can cw : Nat) (V : Nat → Int) (w : World) (h : Row1 w Aw 2 (fun k => .int .i64 (V k))) :
    Calls Try.prog 21 #[.agg #[.int .i64 17, .int .i64 W, .int .u64 U, .slice An al can], .slice Aw 2 cw] w fun e w' => e = .returned (.bool (V 0 == W && V 1 == W)) ∧ Below w.heap.size w w' := by
  go_enter Try.func21, Try.ntmps21
  go_upto_region 1 with (fail)
  have hbel : Below w.heap.size w (w.alloc (.cells #[.int .i64 17, .int .i64 W, .int .u64 U, .slice An al can] 42)) := (Below.refl _ _).alloc (Nat.le_refl _) _
  have q := BoxAt.new w [.int .i64 17, .int .i64 W, .int .u64 U, .slice An al can] 42
  have h1 := h.keeps (Keeps.of_below hbel)
  have HB := Lib.hid hbel; clear hbel
  generalize w.alloc (.cells #[.int .i64 17, .int .i64 W, .int .u64 U, .slice An al can] 42) = w1 at *
  obtain ⟨q0, q1, q2, q3⟩ := q.four
  clear q
  obtain ⟨b, o, rfl, hc⟩ := h1 (by omega)
  have y0 := hc 0 (by omega)
  have y1 := hc 1 (by omega)
  simp only [Nat.add_zero] at y0
  clear hc
  cases e2 : V 0 == W
  · go_wp2_with fail
    go_quiet (fail)
    go_wp2_with fail
    go_ret
    exact ⟨by simp_all, below_drewN HB.out _⟩
  · go_wp2_with fail
    go_quiet (fail)
    go_wp2_with fail
    go_ret
    exact ⟨by simp_all, below_drewN HB.out _⟩

set_option maxHeartbeats 1000000 in
theorem fit18 (W U : Int) (An Aw : Option Addr) (al can cw : Nat) (V : Nat → Int) (w : World) (h : Row1 w Aw 2 (fun k => .int .i64 (V k))) :
    Calls Try.prog 21 #[.agg #[.int .i64 18, .int .i64 W, .int .u64 U, .slice An al can], .slice Aw 2 cw] w fun e w' => e = .returned (.bool (V 0 == W)) ∧ Below w.heap.size w w' := by
  go_enter Try.func21, Try.ntmps21
  go_upto_region 1 with (fail)
  have hbel : Below w.heap.size w (w.alloc (.cells #[.int .i64 18, .int .i64 W, .int .u64 U, .slice An al can] 42)) := (Below.refl _ _).alloc (Nat.le_refl _) _
  have q := BoxAt.new w [.int .i64 18, .int .i64 W, .int .u64 U, .slice An al can] 42
  have h1 := h.keeps (Keeps.of_below hbel)
  have HB := Lib.hid hbel; clear hbel
  generalize w.alloc (.cells #[.int .i64 18, .int .i64 W, .int .u64 U, .slice An al can] 42) = w1 at *
  obtain ⟨q0, q1, q2, q3⟩ := q.four
  clear q
  obtain ⟨b, o, rfl, hc⟩ := h1 (by omega)
  have y0 := hc 0 (by omega)
  simp only [Nat.add_zero] at y0
  clear hc
  go_wp2_with fail
  go_quiet (fail)
  go_wp2_with fail
  go_ret
  exact ⟨by simp_all, below_drewN HB.out _⟩

set_option maxHeartbeats 1000000 in
theorem fit19 (W U : Int) (An Aw : Option Addr) (al can cw : Nat) (V : Nat → Int) (w : World) (h : Row1 w Aw 2 (fun k => .int .i64 (V k))) :
    Calls Try.prog 21 #[.agg #[.int .i64 19, .int .i64 W, .int .u64 U, .slice An al can], .slice Aw 2 cw] w fun e w' => e = .returned (.bool (V 0 == W)) ∧ Below w.heap.size w w' := by
  go_enter Try.func21, Try.ntmps21
  go_upto_region 1 with (fail)
  have hbel : Below w.heap.size w (w.alloc (.cells #[.int .i64 19, .int .i64 W, .int .u64 U, .slice An al can] 42)) := (Below.refl _ _).alloc (Nat.le_refl _) _
  have q := BoxAt.new w [.int .i64 19, .int .i64 W, .int .u64 U, .slice An al can] 42
  have h1 := h.keeps (Keeps.of_below hbel)
  have HB := Lib.hid hbel; clear hbel
  generalize w.alloc (.cells #[.int .i64 19, .int .i64 W, .int .u64 U, .slice An al can] 42) = w1 at *
  obtain ⟨q0, q1, q2, q3⟩ := q.four
  clear q
  obtain ⟨b, o, rfl, hc⟩ := h1 (by omega)
  have y0 := hc 0 (by omega)
  simp only [Nat.add_zero] at y0
  clear hc
  go_wp2_with fail
  go_quiet (fail)
  go_wp2_with fail
  go_ret
  exact ⟨by simp_all, below_drewN HB.out _⟩

set_option maxHeartbeats 1000000 in
theorem fit20 (W U : Int) (An Aw : Option Addr) (al can cw : Nat) (V : Nat → Int) (w : World) (h : Row1 w Aw 2 (fun k => .int .i64 (V k))) :
    Calls Try.prog 21 #[.agg #[.int .i64 20, .int .i64 W, .int .u64 U, .slice An al can], .slice Aw 2 cw] w fun e w' => e = .returned (.bool (V 0 == V 1 && W == 1)) ∧ Below w.heap.size w w' := by
  go_enter Try.func21, Try.ntmps21
  go_upto_region 1 with (fail)
  have hbel : Below w.heap.size w (w.alloc (.cells #[.int .i64 20, .int .i64 W, .int .u64 U, .slice An al can] 42)) := (Below.refl _ _).alloc (Nat.le_refl _) _
  have q := BoxAt.new w [.int .i64 20, .int .i64 W, .int .u64 U, .slice An al can] 42
  have h1 := h.keeps (Keeps.of_below hbel)
  have HB := Lib.hid hbel; clear hbel
  generalize w.alloc (.cells #[.int .i64 20, .int .i64 W, .int .u64 U, .slice An al can] 42) = w1 at *
  obtain ⟨q0, q1, q2, q3⟩ := q.four
  clear q
  obtain ⟨b, o, rfl, hc⟩ := h1 (by omega)
  have y0 := hc 0 (by omega)
  have y1 := hc 1 (by omega)
  simp only [Nat.add_zero] at y0
  clear hc
  cases e2 : V 0 == V 1
  · go_wp2_with fail
    go_quiet (fail)
    go_wp2_with fail
    go_ret
    exact ⟨by simp_all, below_drewN HB.out _⟩
  · go_wp2_with fail
    go_quiet (fail)
    go_wp2_with fail
    go_ret
    exact ⟨by simp_all, below_drewN HB.out _⟩

set_option maxHeartbeats 1000000 in
theorem fit21 (W U : Int) (An Aw : Option Addr) (al can cw : Nat) (V : Nat → Int) (w : World) (h : Row1 w Aw 2 (fun k => .int .i64 (V k))) :
    Calls Try.prog 21 #[.agg #[.int .i64 21, .int .i64 W, .int .u64 U, .slice An al can], .slice Aw 2 cw] w fun e w' => e = .returned (.bool (V 0 == V 1 && W == 1)) ∧ Below w.heap.size w w' := by
  go_enter Try.func21, Try.ntmps21
  go_upto_region 1 with (fail)
  have hbel : Below w.heap.size w (w.alloc (.cells #[.int .i64 21, .int .i64 W, .int .u64 U, .slice An al can] 42)) := (Below.refl _ _).alloc (Nat.le_refl _) _
  have q := BoxAt.new w [.int .i64 21, .int .i64 W, .int .u64 U, .slice An al can] 42
  have h1 := h.keeps (Keeps.of_below hbel)
  have HB := Lib.hid hbel; clear hbel
  generalize w.alloc (.cells #[.int .i64 21, .int .i64 W, .int .u64 U, .slice An al can] 42) = w1 at *
  obtain ⟨q0, q1, q2, q3⟩ := q.four
  clear q
  obtain ⟨b, o, rfl, hc⟩ := h1 (by omega)
  have y0 := hc 0 (by omega)
  have y1 := hc 1 (by omega)
  simp only [Nat.add_zero] at y0
  clear hc
  cases e2 : V 0 == V 1
  · go_wp2_with fail
    go_quiet (fail)
    go_wp2_with fail
    go_ret
    exact ⟨by simp_all, below_drewN HB.out _⟩
  · go_wp2_with fail
    go_quiet (fail)
    go_wp2_with fail
    go_ret
    exact ⟨by simp_all, below_drewN HB.out _⟩

set_option maxHeartbeats 1000000 in
theorem fit22 (W U : Int) (An Aw : Option Addr) (al can cw : Nat) (V : Nat → Int) (w : World) (h : Row1 w Aw 3 (fun k => .int .i64 (V k))) :
    Calls Try.prog 21 #[.agg #[.int .i64 22, .int .i64 W, .int .u64 U, .slice An al can], .slice Aw 3 cw] w fun e w' => e = .returned (.bool (V 0 == 1 && V 1 == W && V 2 == W)) ∧ Below w.heap.size w w' := by
  go_enter Try.func21, Try.ntmps21
  go_upto_region 1 with (fail)
  have hbel : Below w.heap.size w (w.alloc (.cells #[.int .i64 22, .int .i64 W, .int .u64 U, .slice An al can] 42)) := (Below.refl _ _).alloc (Nat.le_refl _) _
  have q := BoxAt.new w [.int .i64 22, .int .i64 W, .int .u64 U, .slice An al can] 42
  have h1 := h.keeps (Keeps.of_below hbel)
  have HB := Lib.hid hbel; clear hbel
  generalize w.alloc (.cells #[.int .i64 22, .int .i64 W, .int .u64 U, .slice An al can] 42) = w1 at *
  obtain ⟨q0, q1, q2, q3⟩ := q.four
  clear q
  obtain ⟨b, o, rfl, hc⟩ := h1 (by omega)
  have y0 := hc 0 (by omega)
  have y1 := hc 1 (by omega)
  have y2 := hc 2 (by omega)
  simp only [Nat.add_zero] at y0
  clear hc
  cases e : V 0 == 1
  · go_wp2_with fail
    go_quiet (fail)
    go_wp2_with fail
    go_ret
    exact ⟨by simp_all, below_drewN HB.out _⟩
  · cases e4 : V 1 == W
    · go_wp2_with fail
      go_quiet (fail)
      go_wp2_with fail
      go_ret
      exact ⟨by simp_all, below_drewN HB.out _⟩
    · go_wp2_with fail
      go_quiet (fail)
      go_wp2_with fail
      go_ret
      exact ⟨by simp_all, below_drewN HB.out _⟩

set_option maxHeartbeats 1000000 in
theorem fit6 (W U : Int) (An Aw : Option Addr) (al can n cw : Nat) (V : Nat → Int) (w : World) (h : Row1 w Aw n (fun k => .int .i64 (V k))) :
    Calls Try.prog 21 #[.agg #[.int .i64 6, .int .i64 W, .int .u64 U, .slice An al can], .slice Aw n cw] w fun e w' => e = .returned (.bool (true)) ∧ Below w.heap.size w w' := by
  go_enter Try.func21, Try.ntmps21
  go_upto_region 1 with (fail)
  have hbel : Below w.heap.size w (w.alloc (.cells #[.int .i64 6, .int .i64 W, .int .u64 U, .slice An al can] 42)) := (Below.refl _ _).alloc (Nat.le_refl _) _
  have q := BoxAt.new w [.int .i64 6, .int .i64 W, .int .u64 U, .slice An al can] 42
  have h1 := h.keeps (Keeps.of_below hbel)
  have HB := Lib.hid hbel; clear hbel
  generalize w.alloc (.cells #[.int .i64 6, .int .i64 W, .int .u64 U, .slice An al can] 42) = w1 at *
  obtain ⟨q0, q1, q2, q3⟩ := q.four
  clear q
  go_wp2
  go_ret
  exact ⟨rfl, HB.out⟩

set_option maxHeartbeats 1000000 in
theorem fit1 (W U : Int) (An Aw : Option Addr) (al can n cw : Nat) (V : Nat → Int) (w : World) (h : Row1 w Aw n (fun k => .int .i64 (V k))) :
    Calls Try.prog 21 #[.agg #[.int .i64 1, .int .i64 W, .int .u64 U, .slice An al can], .slice Aw n cw] w fun e w' => e = .returned (.bool (decide (U ≤ maskN W))) ∧ Below w.heap.size w w' := by
  go_enter Try.func21, Try.ntmps21
  go_upto_region 1 with (fail)
  have hbel : Below w.heap.size w (w.alloc (.cells #[.int .i64 1, .int .i64 W, .int .u64 U, .slice An al can] 42)) := (Below.refl _ _).alloc (Nat.le_refl _) _
  have q := BoxAt.new w [.int .i64 1, .int .i64 W, .int .u64 U, .slice An al can] 42
  have h1 := h.keeps (Keeps.of_below hbel)
  have HB := Lib.hid hbel; clear hbel
  generalize w.alloc (.cells #[.int .i64 1, .int .i64 W, .int .u64 U, .slice An al can] 42) = w1 at *
  obtain ⟨q0, q1, q2, q3⟩ := q.four
  clear q
  go_wp2_with fail
  go_quiet ((go_at_call 13; refine (mask_any W _).mono ?_; rintro e w' ⟨rfl, rfl⟩; exact ⟨rfl, _, rfl⟩))
  go_wp2_with fail
  go_ret
  exact ⟨by simp_all, below_drewN HB.out _⟩

set_option maxHeartbeats 1000000 in
theorem fit7 (W U : Int) (An Aw : Option Addr) (al can n cw : Nat) (V : Nat → Int) (w : World) (hn : n ≤ 1000000000000000) (h : Row1 w Aw n (fun k => .int .i64 (V k))) :
    Calls Try.prog 21 #[.agg #[.int .i64 7, .int .i64 W, .int .u64 U, .slice An al can], .slice Aw n cw] w fun e w' => e = .returned (.bool (sumV V n == W)) ∧ Below w.heap.size w w' := by
  go_enter Try.func21, Try.ntmps21
  go_upto_region 1 with (fail)
  have hbel : Below w.heap.size w (w.alloc (.cells #[.int .i64 7, .int .i64 W, .int .u64 U, .slice An al can] 42)) := (Below.refl _ _).alloc (Nat.le_refl _) _
  have q := BoxAt.new w [.int .i64 7, .int .i64 W, .int .u64 U, .slice An al can] 42
  have h1 := h.keeps (Keeps.of_below hbel)
  have HB := Lib.hid hbel; clear hbel
  generalize w.alloc (.cells #[.int .i64 7, .int .i64 W, .int .u64 U, .slice An al can] 42) = w1 at *
  obtain ⟨q0, q1, q2, q3⟩ := q.four
  clear q
  go_wp2_with fail
  go_loopw [5, 6] (fun s i wr => ∃ k : Nat, k ≤ n ∧ i = .int .i64 k ∧ s = .int .i64 (sumV V k) ∧ wr = w1) (fun _ i _ => n - (intOf i).toNat)
  case atStart => exact ⟨0, by omega, rfl, rfl, rfl⟩
  case round =>
    obtain ⟨k, hk, rfl, rfl, rfl⟩ := hrel
    by_cases hlt : k < n
    · obtain ⟨b, o, rfl, y0⟩ := h1.at_ hlt
      go_wp2_with fail
      go_roundw
      case rel => exact ⟨k + 1, by omega, by go_num, rfl, trivial⟩
      case measure => simp [intOf]; omega
    · obtain rfl : k = n := by omega
      go_wp2_with fail
      go_ret
      exact ⟨rfl, HB.out⟩

def fitB (K W U : Int) (V : Nat → Int) (n : Nat) : Bool :=
  if K = 5 then decide (U < IntKind.u64.wrap (V 0)) && decide (wrap64 (wrap64 U + W) ≤ V 0)
  else if K = 7 then sumV V n == W
  else if K = 8 then V 0 == W
  else if K = 9 ∨ K = 10 ∨ K = 11 then W == 1
  else if K = 12 ∨ K = 13 ∨ K = 14 ∨ K = 15 ∨ K = 16 ∨ K = 17 then V 0 == W && V 1 == W
  else if K = 18 ∨ K = 19 then V 0 == W
  else if K = 20 ∨ K = 21 then V 0 == V 1 && W == 1
  else if K = 22 then V 0 == 1 && V 1 == W && V 2 == W
  else if K = 1 then decide (U ≤ maskN W)
  else true
/-- a kind that is no input, register or memory, with as many arguments as it wants -/
structure KindN (K : Int) (n : Nat) : Prop where
  two : wantN K ≠ -2
  free : K ≠ 30 ∧ K ≠ 31 ∧ K ≠ 32
  args : 0 ≤ wantN K → (n : Int) = wantN K
  pos : wantN K = -1 → 0 < n
theorem KindN.all {K : Int} {n : Nat} (h : KindN K n) : (K = 1 ∧ n = 0) ∨ (K = 5 ∧ n = 1) ∨ (K = 6 ∧ n = 1) ∨ (K = 7 ∧ 0 < n) ∨ (K = 8 ∧ n = 1) ∨ (K = 9 ∧ n = 1) ∨ (K = 10 ∧ n = 1) ∨ (K = 11 ∧ n = 1) ∨ (K = 12 ∧ n = 2) ∨ (K = 13 ∧ n = 2) ∨ (K = 14 ∧ n = 2) ∨ (K = 15 ∧ n = 2) ∨ (K = 16 ∧ n = 2) ∨ (K = 17 ∧ n = 2) ∨ (K = 18 ∧ n = 2) ∨ (K = 19 ∧ n = 2) ∨ (K = 20 ∧ n = 2) ∨ (K = 21 ∧ n = 2) ∨ (K = 22 ∧ n = 3) := by
  obtain ⟨h1, h2, h3, h4⟩ := h
  unfold wantN at h1 h3 h4
  split at h1
  · rename_i hk; rw [if_pos hk] at h3
    have e := h3 (by omega)
    rcases hk with rfl | rfl | rfl
    · simp; omega
    · exact absurd rfl h2.1
    · exact absurd rfl h2.2.1
  · rename_i hk; rw [if_neg hk] at h3 h4
    split at h1
    · rename_i hk; rw [if_pos hk] at h3
      have e := h3 (by omega)
      rcases hk with rfl | rfl | rfl | rfl | rfl | rfl | rfl
      any_goals (simp; omega)
    · rename_i hk; rw [if_neg hk] at h3 h4
      split at h1
      · rename_i hk; rw [if_pos hk] at h3
        have e := h3 (by omega)
        rcases hk with rfl | rfl | rfl | rfl | rfl | rfl | rfl | rfl | rfl | rfl
        all_goals (simp; omega)
      · rename_i hk; rw [if_neg hk] at h3 h4
        split at h1
        · rename_i hk; rw [if_pos hk] at h3
          have e := h3 (by omega)
          subst hk
          simp; omega
        · rename_i hk; rw [if_neg hk] at h3 h4
          split at h1
          · rename_i hk; rw [if_pos hk] at h4
            have e := h4 rfl
            subst hk
            simp; omega
          · exact absurd rfl h1
theorem fits_any (K W U : Int) (An Aw : Option Addr) (al can n cw : Nat) (V : Nat → Int) (w : World) (h : Row1 w Aw n (fun k => .int .i64 (V k))) (hn : n ≤ 1000000000000000) (hk : KindN K n) :
    Calls Try.prog 21 #[.agg #[.int .i64 K, .int .i64 W, .int .u64 U, .slice An al can], .slice Aw n cw] w fun e w' => e = .returned (.bool (fitB K W U V n)) ∧ Below w.heap.size w w' := by
  rcases hk.all with ⟨rfl, rfl⟩ | ⟨rfl, rfl⟩ | ⟨rfl, rfl⟩ | ⟨rfl, _⟩ | ⟨rfl, rfl⟩ | ⟨rfl, rfl⟩ | ⟨rfl, rfl⟩ | ⟨rfl, rfl⟩ | ⟨rfl, rfl⟩ | ⟨rfl, rfl⟩ | ⟨rfl, rfl⟩ | ⟨rfl, rfl⟩ | ⟨rfl, rfl⟩ | ⟨rfl, rfl⟩ | ⟨rfl, rfl⟩ | ⟨rfl, rfl⟩ | ⟨rfl, rfl⟩ | ⟨rfl, rfl⟩ | ⟨rfl, rfl⟩
  · exact fit1 W U An Aw al can _ cw V w h
  · exact fit5 W U An Aw al can cw V w h
  · exact fit6 W U An Aw al can _ cw V w h
  · exact fit7 W U An Aw al can n cw V w hn h
  · exact fit8 W U An Aw al can cw V w h
  · exact fit9 W U An Aw al can _ cw V w h
  · exact fit10 W U An Aw al can _ cw V w h
  · exact fit11 W U An Aw al can _ cw V w h
  · exact fit12 W U An Aw al can cw V w h
  · exact fit13 W U An Aw al can cw V w h
  · exact fit14 W U An Aw al can cw V w h
  · exact fit15 W U An Aw al can cw V w h
  · exact fit16 W U An Aw al can cw V w h
  · exact fit17 W U An Aw al can cw V w h
  · exact fit18 W U An Aw al can cw V w h
  · exact fit19 W U An Aw al can cw V w h
  · exact fit20 W U An Aw al can cw V w h
  · exact fit21 W U An Aw al can cw V w h
  · exact fit22 W U An Aw al can cw V w h
end Go.Proofs.Ytmbcfondglhiiaa
