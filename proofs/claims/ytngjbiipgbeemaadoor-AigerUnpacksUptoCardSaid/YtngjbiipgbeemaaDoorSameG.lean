/- The reference's SameGraph, walked: two graphs with the same numbers are told to be the same. Condition: both lie in memory, their lists are not too long. -/
import Derived.Test.YtngjbiipgbeemaaDoorValidV
import Derived.Test.YtngjbiipgbeemaaDoorGPure
import Derived.Test.YtngjbiipgbeemaaDoorOwn
import Derived.Deep.DeepMust
import Derived.Test.YtngjbiipgbeemaaDoorDrawnQ
import Derived.StillTailTactics
import Derived.Deep.RegionHeld3
import Derived.Deep.DeepCutAuto
namespace Go.Proofs.YtngjbiipgbeemaaDoor
open Go.RowKit

theorem Drawn.below {w wr : World} {B : Nat} (h : Drawn w wr) : Below B w wr := by
  obtain ⟨q, rfl⟩ := h
  exact ⟨rfl, rfl, rfl, Nat.le_refl _, fun _ _ => rfl⟩

set_option maxRecDepth 100000 in
@[go_sem] theorem eqPair (a b c d : Int) (w : World) : (Op.equalIn 10000 48 (.agg #[.int .i64 a, .int .i64 b]) (.agg #[.int .i64 c, .int .i64 d])).run Tryd.prog w = .ok (a == c && b == d) w := by
  have u3 := Tryd.underlying3
  have a3 := Tryd.isAgg3
  have z3 := Tryd.sizeOf3
  rw [show (10000 : Nat) = 9999 + 1 from rfl, Op.equalIn]
  simp only [Sem.run_bind, run_underlying Tryd.underlying48, Result.andThen_ok]
  simp only [Std.Legacy.Range.forIn_eq_forIn_range', Std.Legacy.Range.size, Nat.sub_zero, Nat.add_sub_cancel, Nat.div_one, List.range'_succ, List.range'_zero, List.forIn_cons, List.forIn_nil]
  go_simp
  by_cases h1 : a = c <;> by_cases h2 : b = d <;> simp [h1, h2]

set_option maxHeartbeats 1000000 in
theorem sameGraph_any (h : G) (A1 A2 A3 B1 B2 B3 : Option Addr) (c1 c2 c3 d1 d2 d3 : Nat) (w : World) (ha : h.At w A1 A2 A3) (hb : h.At w B1 B2 B3) (hn : h.n1 ≤ 1000000000000000 ∧ h.n2 ≤ 1000000000000000 ∧ h.n3 ≤ 1000000000000000) :
    Calls Tryd.prog 13 #[.agg #[.int .i64 h.ins, .slice A1 h.n1 c1, .slice A2 h.n2 c2, .slice A3 h.n3 c3], .agg #[.int .i64 h.ins, .slice B1 h.n1 d1, .slice B2 h.n2 d2, .slice B3 h.n3 d3]] w fun e w' => e = .returned (.bool true) ∧ Below w.heap.size w w' := by
  obtain ⟨hn1, hn2, hn3⟩ := hn
  go_enter Tryd.func13, Tryd.ntmps13
  have hbx : BoxAt (w.alloc (.cells #[.int .i64 h.ins, .slice A1 h.n1 c1, .slice A2 h.n2 c2, .slice A3 h.n3 c3] 28)) w.heap.size [.int .i64 h.ins, .slice A1 h.n1 c1, .slice A2 h.n2 c2, .slice A3 h.n3 c3] := BoxAt.new w _ _
  have hby := BoxAt.new (w.alloc (.cells #[.int .i64 h.ins, .slice A1 h.n1 c1, .slice A2 h.n2 c2, .slice A3 h.n3 c3] 28)) [.int .i64 h.ins, .slice B1 h.n1 d1, .slice B2 h.n2 d2, .slice B3 h.n3 d3] 28
  have hbx := hbx.keeps (Keeps.alloc _ (.cells #[.int .i64 h.ins, .slice B1 h.n1 d1, .slice B2 h.n2 d2, .slice B3 h.n3 d3] 28))
  have ha1 := ha.keeps ((Keeps.alloc w (.cells #[.int .i64 h.ins, .slice A1 h.n1 c1, .slice A2 h.n2 c2, .slice A3 h.n3 c3] 28)).trans (Keeps.alloc _ (.cells #[.int .i64 h.ins, .slice B1 h.n1 d1, .slice B2 h.n2 d2, .slice B3 h.n3 d3] 28)))
  have hb1 := hb.keeps ((Keeps.alloc w (.cells #[.int .i64 h.ins, .slice A1 h.n1 c1, .slice A2 h.n2 c2, .slice A3 h.n3 c3] 28)).trans (Keeps.alloc _ (.cells #[.int .i64 h.ins, .slice B1 h.n1 d1, .slice B2 h.n2 d2, .slice B3 h.n3 d3] 28)))
  have hbel : Below w.heap.size w ((w.alloc (.cells #[.int .i64 h.ins, .slice A1 h.n1 c1, .slice A2 h.n2 c2, .slice A3 h.n3 c3] 28)).alloc (.cells #[.int .i64 h.ins, .slice B1 h.n1 d1, .slice B2 h.n2 d2, .slice B3 h.n3 d3] 28)) := ((Below.refl _ _).alloc (Nat.le_refl _) _).alloc (by simp) _
  rw [show (w.alloc (.cells #[.int .i64 h.ins, .slice A1 h.n1 c1, .slice A2 h.n2 c2, .slice A3 h.n3 c3] 28)).heap.size = w.heap.size + 1 by simp] at hby
  have q0 : (h.ins != h.ins) = false := by simp
  have q1 : ((h.n1 : Int) != (h.n1 : Int)) = false := by simp
  have q2 : ((h.n2 : Int) != (h.n2 : Int)) = false := by simp
  have q3 : ((h.n3 : Int) != (h.n3 : Int)) = false := by simp
  go_upto_region 1 with (fail)
  generalize ((w.alloc (.cells #[.int .i64 h.ins, .slice A1 h.n1 c1, .slice A2 h.n2 c2, .slice A3 h.n3 c3] 28)).alloc (.cells #[.int .i64 h.ins, .slice B1 h.n1 d1, .slice B2 h.n2 d2, .slice B3 h.n3 d3] 28)) = w1 at *
  have HB := Lib.hid hbel; clear hbel
  obtain ⟨g0, g1, g2, g3⟩ := hbx.four
  obtain ⟨p0, p1, p2, p3⟩ := hby.four
  go_wp2_with fail
  clear g0 g1 g2 g3 p0 p1 p2 p3
  go_loopw [5] (fun i wr => ∃ k : Nat, k ≤ h.n1 ∧ i = .int .i64 k ∧ Drawn w1 wr) (fun i _ => h.n1 - (intOf i).toNat)
  case atStart => exact ⟨0, by omega, rfl, ⟨0, rfl⟩⟩
  case round =>
    obtain ⟨k, hk, rfl, HD⟩ := hrel
    obtain ⟨g0, g1, g2, g3⟩ := (hbx.keeps HD.keeps).four
    obtain ⟨p0, p1, p2, p3⟩ := (hby.keeps HD.keeps).four
    by_cases hlt : k < h.n1
    · obtain ⟨b1, o1, rfl, x0, x1⟩ := (ha1.keeps HD.keeps).lat.at2 hlt
      obtain ⟨b2, o2, rfl, y0, y1⟩ := (hb1.keeps HD.keeps).lat.at2 hlt
      simp only [two] at x0 x1 y0 y1
      go_wp2_with fail
      go_quiet (fail)
      go_wp2_with fail
      exact ⟨⟨k + 1, by omega, by go_num, HD.more _⟩, by simp [intOf]; omega⟩
    · obtain rfl : k = h.n1 := by omega
      go_wp2_with fail
      clear g0 g1 g2 g3 p0 p1 p2 p3
      go_loopw [6] (fun i wr => ∃ k : Nat, k ≤ h.n2 ∧ i = .int .i64 k ∧ Drawn w1 wr) (fun i _ => h.n2 - (intOf i).toNat)
      case atStart => exact ⟨0, by omega, rfl, HD⟩
      case round =>
        clear HD
        obtain ⟨k, hk, rfl, HD⟩ := hrel
        obtain ⟨g0, g1, g2, g3⟩ := (hbx.keeps HD.keeps).four
        obtain ⟨p0, p1, p2, p3⟩ := (hby.keeps HD.keeps).four
        by_cases hlt : k < h.n2
        · obtain ⟨b1, o1, rfl, x0, x1⟩ := (ha1.keeps HD.keeps).ands.at2 hlt
          obtain ⟨b2, o2, rfl, y0, y1⟩ := (hb1.keeps HD.keeps).ands.at2 hlt
          simp only [two] at x0 x1 y0 y1
          go_wp2_with fail
          go_quiet (fail)
          go_wp2_with fail
          exact ⟨⟨k + 1, by omega, by go_num, HD.more _⟩, by simp [intOf]; omega⟩
        · obtain rfl : k = h.n2 := by omega
          go_wp2_with fail
          clear g0 g1 g2 g3 p0 p1 p2 p3
          go_loopw [7] (fun i wr => ∃ k : Nat, k ≤ h.n3 ∧ i = .int .i64 k ∧ Drawn w1 wr) (fun i _ => h.n3 - (intOf i).toNat)
          case atStart => exact ⟨0, by omega, rfl, HD⟩
          case round =>
            clear HD
            obtain ⟨k, hk, rfl, HD⟩ := hrel
            obtain ⟨g0, g1, g2, g3⟩ := (hbx.keeps HD.keeps).four
            obtain ⟨p0, p1, p2, p3⟩ := (hby.keeps HD.keeps).four
            by_cases hlt : k < h.n3
            · obtain ⟨b1, o1, rfl, x0⟩ := (ha1.keeps HD.keeps).outs.at_ hlt
              obtain ⟨b2, o2, rfl, y0⟩ := (hb1.keeps HD.keeps).outs.at_ hlt
              go_wp2_with fail
              go_quiet (fail)
              go_wp2_with fail
              exact ⟨⟨k + 1, by omega, by go_num, HD.more _⟩, by simp [intOf]; omega⟩
            · obtain rfl : k = h.n3 := by omega
              go_wp2_with fail
              go_ret
              exact ⟨rfl, Below.trans HB.out HD.below⟩
end Go.Proofs.YtngjbiipgbeemaaDoor
