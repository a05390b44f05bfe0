/- LutValids, its walk: whatever net of tables comes in, the law returns true: lut.Valid says just what the reference says. Condition: the argument lies in memory and is within the form's reach. -/
import Derived.Test.YtdhgbikmaglgpaaPair
import Derived.Test.YtdhgbikmaglgpaaTabLut
namespace Go.Proofs.Ytdhgbikmaglgpaa
open Go.RowKit

set_option maxHeartbeats 400000 in
theorem lutValids_walk (g : Tb) (A1 A2 A3 A4 : Option Addr) (c1 c2 c3 c4 : Nat) (w : World) (hg : g.At w A1 A2 A3 A4) (hfit : g.Fits) :
    Calls Try.prog 7 #[.agg #[.int .i64 g.ins, .slice A1 g.n1 c1, .slice A2 g.n2 c2, .slice A3 g.n3 c3, .slice A4 g.n4 c4]] w fun e w' => e = .returned (.bool true) ∧ Below w.heap.size w w' := by
  go_enter Try.func7, Try.ntmps7
  go_wp2_with fail
  refine (pair_any _).mono ?_
  rintro e w1 ⟨a1, a2, a3, a4, d1, d2, d3, d4, rfl, ht, hb1⟩
  have HB1 := Lib.hid (Below.alloc_then hb1)
  have hbox := (BoxAt.new w [.int .i64 g.ins, .slice A1 g.n1 c1, .slice A2 g.n2 c2, .slice A3 g.n3 c3, .slice A4 g.n4 c4] 34).keeps (Keeps.of_below hb1)
  have hg1 := hg.keeps (Keeps.below_alloc hb1)
  have hs1 := hb1.size
  simp at hs1
  clear hb1
  go_wp2_with fail
  refine (tabLut_any pairT _ _ _ _ _ _ _ _ _ ht pair_fits).mono ?_
  rintro e w2 ⟨rfl, hb2⟩
  rw [tf_yes pair_valid]
  have HB2 := Lib.hid (Below.then_call HB1.out hb2 (by omega))
  have hbox2 := hbox.keeps (Keeps.of_below hb2)
  have hg2 := hg1.keeps (Keeps.of_below hb2)
  have hs2 := hb2.size
  clear hb2 hbox
  obtain ⟨g0, g1, g2, g3, g4⟩ := hbox2.five
  go_wp2_with fail
  refine (tabLut_any g _ _ _ _ _ _ _ _ _ hg2 hfit).mono ?_
  rintro e w3 ⟨rfl, hb3⟩
  have HB3 := Lib.hid (Below.then_call HB2.out hb3 (by omega))
  have hbox3 := hbox2.keeps (Keeps.of_below hb3)
  have hg3 := hg2.keeps (Keeps.of_below hb3)
  have hs3 := hb3.size
  clear hb3 hbox2 g0 g1 g2 g3 g4
  obtain ⟨g0, g1, g2, g3, g4⟩ := hbox3.five
  go_wp2_with fail
  refine (tabRef_any g _ _ _ _ _ _ _ _ _ hg3 hfit).mono ?_
  rintro e w4 ⟨rfl, hb4⟩
  have HB4 := Lib.hid (Below.then_call HB3.out hb4 (by omega))
  clear hb4
  go_wp2_with fail
  go_ret
  exact ⟨by simp, HB4.out⟩
end Go.Proofs.Ytdhgbikmaglgpaa
