/- AigerPrints, walked: it returns true. Conditions: the graph lies in memory, its lists are within the form's reach; the table of powers of ten reads as laid. -/
import Derived.Test.YthmjbenofpbmbaaDoorPt
import Derived.Test.YthmjbenofpbmbaaDoorRt2
import Derived.Test.YthmjbenofpbmbaaDoorTinyP
namespace Go.Proofs.YthmjbenofpbmbaaDoor
open Go.RowKit

set_option maxHeartbeats 2000000 in
theorem aigPrinted_any (S : Nat) (g : G) (A1 A2 A3 : Option Addr) (c1 c2 c3 : Nat) (w : World) (hg : g.At w A1 A2 A3) (hfit : g.Fits) (ht : Tab S w) (hS : S ≤ w.heap.size) :
    Calls Tryd.prog 9 #[.agg #[.int .i64 g.ins, .slice A1 g.n1 c1, .slice A2 g.n2 c2, .slice A3 g.n3 c3]] w fun e w' => e = .returned (.bool true) ∧ Below w.heap.size w w' := by
  have HG := Lib.hid hg; have HF := Lib.hid hfit; have HT0 := Lib.hid ht
  clear hg hfit ht
  go_enter Tryd.func9, Tryd.ntmps9
  go_upto_region 1 with (fail)
  have hq := BoxAt.new w [.int .i64 g.ins, .slice A1 g.n1 c1, .slice A2 g.n2 c2, .slice A3 g.n3 c3] 31
  have HV := Lib.hid ((Below.refl w.heap.size w).alloc (Nat.le_refl _) (.cells #[.int .i64 g.ins, .slice A1 g.n1 c1, .slice A2 g.n2 c2, .slice A3 g.n3 c3] 31))
  have hvz : w.heap.size < (w.alloc (.cells #[.int .i64 g.ins, .slice A1 g.n1 c1, .slice A2 g.n2 c2, .slice A3 g.n3 c3] 31)).heap.size := by simp
  generalize w.alloc (.cells #[.int .i64 g.ins, .slice A1 g.n1 c1, .slice A2 g.n2 c2, .slice A3 g.n3 c3] 31) = v at *
  obtain ⟨g0, g1, g2, g3⟩ := hq.four
  have HT := Lib.hid (HT0.out.next HV.out hS)
  clear HT0
  go_wp2_with fail
  refine (refValid_any g A1 A2 A3 c1 c2 c3 _ (HG.out.keeps (Keeps.of_below HV.out)) HF.out).mono ?_
  rintro e w1 ⟨rfl, k1⟩
  have HT1 := Lib.hid (HT.out.next k1 (by omega))
  have HB1 := Lib.hid (Below.then_call HV.out k1 HV.out.size)
  replace hq := hq.keeps (Keeps.of_below k1)
  clear k1 g0 g1 g2 g3
  obtain ⟨g0, g1, g2, g3⟩ := hq.four
  obtain ⟨r, hr⟩ : ∃ r, r = tf g.Valid := ⟨_, rfl⟩
  rw [← hr]
  have HR := Lib.hid hr; clear hr
  cases r with
  | false =>
    go_wp2_with fail
    go_ret
    exact ⟨rfl, HB1.out⟩
  | true =>
    have hsm := (tf_eq_true.1 HR.out.symm).small
    have HSM := Lib.hid hsm; clear hsm
    have hs1 := HB1.out.size
    go_wp2_with fail
    refine (aigerPrint_any S g A1 A2 A3 c1 c2 c3 _ HSM.out (HG.out.keeps (Keeps.of_below HB1.out)) HT1.out (by omega)).mono ?_
    rintro e w2 ⟨rfl, k1⟩
    have HB2 := Lib.hid (Below.then_call HB1.out k1 HB1.out.size)
    replace hq := hq.keeps (Keeps.of_below k1)
    clear k1 g0 g1 g2 g3
    obtain ⟨g0, g1, g2, g3⟩ := hq.four
    go_wp2_with fail
    refine (aigText_any g A1 A2 A3 c1 c2 c3 _ HSM.out (HG.out.keeps (Keeps.of_below HB2.out))).mono ?_
    rintro e w3 ⟨rfl, k1⟩
    have HB3 := Lib.hid (Below.then_call HB2.out k1 HB2.out.size)
    clear k1
    generalize str (g.text g.n2) = tx at *
    go_wp2_with fail
    go_ret
    exact ⟨by simp, HB3.out⟩

set_option maxHeartbeats 2000000 in
theorem aigerPrints_walk (g : G) (A1 A2 A3 : Option Addr) (c1 c2 c3 : Nat) (w : World) (hg : g.At w A1 A2 A3) (hfit : g.Fits) (ht : Tab w.heap.size w) :
    Calls Tryd.prog 4 #[.agg #[.int .i64 g.ins, .slice A1 g.n1 c1, .slice A2 g.n2 c2, .slice A3 g.n3 c3]] w fun e w' => e = .returned (.bool true) ∧ Below w.heap.size w w' := by
  have HG := Lib.hid hg; have HF := Lib.hid hfit; have HT0 := Lib.hid ht
  clear hg hfit ht
  go_enter Tryd.func4, Tryd.ntmps4
  go_upto_region 1 with (fail)
  have hq := BoxAt.new w [.int .i64 g.ins, .slice A1 g.n1 c1, .slice A2 g.n2 c2, .slice A3 g.n3 c3] 31
  have HV := Lib.hid ((Below.refl w.heap.size w).alloc (Nat.le_refl _) (.cells #[.int .i64 g.ins, .slice A1 g.n1 c1, .slice A2 g.n2 c2, .slice A3 g.n3 c3] 31))
  have hvz : w.heap.size < (w.alloc (.cells #[.int .i64 g.ins, .slice A1 g.n1 c1, .slice A2 g.n2 c2, .slice A3 g.n3 c3] 31)).heap.size := by simp
  generalize w.alloc (.cells #[.int .i64 g.ins, .slice A1 g.n1 c1, .slice A2 g.n2 c2, .slice A3 g.n3 c3] 31) = v at *
  obtain ⟨g0, g1, g2, g3⟩ := hq.four
  have HT := Lib.hid (HT0.out.next HV.out (Nat.le_refl _))
  clear HT0
  go_wp2_with fail
  refine (tiny_any _).mono ?_
  rintro e w1 ⟨B1, B2, B3, d1, d2, d3, rfl, htn, k1⟩
  have HT1 := Lib.hid (HT.out.next k1 (by omega))
  have HTN := Lib.hid htn; clear htn
  have HB1 := Lib.hid (Below.then_call HV.out k1 HV.out.size)
  replace hq := hq.keeps (Keeps.of_below k1)
  clear k1 g0 g1 g2 g3
  obtain ⟨g0, g1, g2, g3⟩ := hq.four
  have hs1 := HB1.out.size
  go_wp2_with fail
  refine (aigPrinted_any w.heap.size tinyG B1 B2 B3 d1 d2 d3 _ HTN.out tiny_fits HT1.out hs1).mono ?_
  rintro e w2 ⟨rfl, k1⟩
  have HT2 := Lib.hid (HT1.out.next k1 (by omega))
  have HB2 := Lib.hid (Below.then_call HB1.out k1 HB1.out.size)
  replace hq := hq.keeps (Keeps.of_below k1)
  clear k1 g0 g1 g2 g3
  obtain ⟨g0, g1, g2, g3⟩ := hq.four
  have hs2 := HB2.out.size
  go_wp2_with fail
  refine (aigPrinted_any w.heap.size g A1 A2 A3 c1 c2 c3 _ (HG.out.keeps (Keeps.of_below HB2.out)) HF.out HT2.out hs2).mono ?_
  rintro e w3 ⟨rfl, k1⟩
  have HB3 := Lib.hid (Below.then_call HB2.out k1 HB2.out.size)
  clear k1
  go_wp2_with fail
  go_ret
  exact ⟨by simp, HB3.out⟩
end Go.Proofs.YthmjbenofpbmbaaDoor
