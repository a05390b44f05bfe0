/- WordValids, its walk: whatever netlist comes in, the law returns true: word.Valid tells what the reference's NetValid tells. Condition: the argument lies in memory and is within the form's reach. -/
import Derived.Test.YtmbcfondglhiiaaNetVal
import Derived.Test.YtmbcfondglhiiaaNetRv
import Derived.Test.YtmbcfondglhiiaaNetSm
namespace Go.Proofs.Ytmbcfondglhiiaa
open Go.RowKit

theorem small_ok : smallN.Ok := by
  refine ⟨fun j _ => (by decide : wideB 4 = true), fun j _ => ⟨(by decide : wideB 4 = true), ?_⟩, fun j hj => (by cases hj), fun j hj => ?_, fun j hj => ?_, fun j hj => (by cases hj), fun j hj => ?_⟩
  · show (3 : Int) ≤ maskN 4
    rw [maskN_eq (by decide)]; decide
  · have hj' : j < 3 := hj
    obtain rfl | rfl | rfl : j = 0 ∨ j = 1 ∨ j = 2 := by omega
    · exact ⟨by decide, ⟨by decide, fun _ => by decide, fun h => absurd h (by decide)⟩, fun i hi => (by cases hi), by decide⟩
    · exact ⟨by decide, ⟨by decide, fun _ => by decide, fun h => absurd h (by decide)⟩, fun i hi => (by cases hi), by decide⟩
    · refine ⟨by decide, ⟨by decide, fun _ => by decide, fun h => absurd h (by decide)⟩, fun i hi => ?_, by decide⟩
      have hi' : i < 2 := hi
      obtain rfl | rfl : i = 0 ∨ i = 1 := by omega
      all_goals decide
  · exact (by decide : isB smallN 2 4 = true)
  · exact (by decide : isB smallN 2 0 = true)

set_option maxHeartbeats 1000000 in
theorem wordValids_walk (g : Nl) (p : Pl) (w : World) (hg : g.At w p) (hfit : g.Fits) :
    Calls Try.prog 3 #[.agg #[.slice p.A0 g.n0 p.c0, .slice p.A1 g.nn p.c1, .slice p.A2 g.nr p.c2, .slice p.A3 g.nm p.c3, .slice p.A4 g.nw p.c4, .slice p.A5 g.no p.c5]] w fun e w' => e = .returned (.bool true) ∧ Below w.heap.size w w' := by
  go_enter Try.func3, Try.ntmps3
  go_wp2_with fail
  refine (small_any _).mono ?_
  rintro e w1 ⟨ps, rfl, hs, hb1⟩
  have HB1 := Lib.hid (Below.alloc_then hb1)
  have hbox := (BoxAt.new w [.slice p.A0 g.n0 p.c0, .slice p.A1 g.nn p.c1, .slice p.A2 g.nr p.c2, .slice p.A3 g.nm p.c3, .slice p.A4 g.nw p.c4, .slice p.A5 g.no p.c5] 28).keeps (Keeps.of_below hb1)
  have hs1 := hb1.size
  simp at hs1
  clear hb1
  go_wp2_with fail
  refine (valid_any smallN ps _ hs small_fits).mono ?_
  rintro e w2 ⟨rfl, hb2⟩
  rw [tf_yes small_ok]
  have HB2 := Lib.hid (Below.then_call HB1.out hb2 (by omega))
  have hbox2 := hbox.keeps (Keeps.of_below hb2)
  have hs2 := hb2.size
  clear hb2 hbox
  obtain ⟨g0, g1, g2, g3, g4, g5⟩ := hbox2.six
  go_wp2_with fail
  refine (valid_any g p _ (hg.keeps (Keeps.of_below HB2.out)) hfit).mono ?_
  rintro e w3 ⟨rfl, hb3⟩
  have HB3 := Lib.hid (Below.then_call HB2.out hb3 (by omega))
  have hbox3 := hbox2.keeps (Keeps.of_below hb3)
  have hs3 := hb3.size
  clear hb3 hbox2 g0 g1 g2 g3 g4 g5
  obtain ⟨g0, g1, g2, g3, g4, g5⟩ := hbox3.six
  generalize hv : tf g.Ok = v
  have HV := Lib.hid hv
  clear hv
  go_wp2_with fail
  refine (netValid_any g p _ (hg.keeps (Keeps.of_below HB3.out)) hfit).mono ?_
  rintro e w4 ⟨rfl, hb4⟩
  rw [HV.out]
  have HB4 := Lib.hid (Below.then_call HB3.out hb4 (by omega))
  clear hb4 g0 g1 g2 g3 g4 g5
  go_wp2_with fail
  go_ret
  exact ⟨by simp, HB4.out⟩
end Go.Proofs.Ytmbcfondglhiiaa
