/- LutRuns, its walk: whatever net of tables and trace come in, the law returns true: on a valid net lut.Run shows just what the reference's TablesRun shows, and both tell the same depth. Condition: the arguments lie in memory and are within the form's reach. -/
import Derived.Test.YtdhgbikmaglgpaaAigRuns
import Derived.Test.YtdhgbikmaglgpaaTRunLut
import Derived.Test.YtdhgbikmaglgpaaPair
namespace Go.Proofs.Ytdhgbikmaglgpaa
open Go.RowKit

set_option maxHeartbeats 1000000 in
theorem tablesRan_any (g : Tb) (A1 A2 A3 A4 : Option Addr) (c1 c2 c3 c4 : Nat) (At : Option Addr) (nt ct : Nat) (TL : Nat → Nat) (T : Nat → Nat → Bool) (w : World) (hg : g.At w A1 A2 A3 A4) (hfit : g.Fits)
    (ht : Mat w At nt TL T) (hnt : nt * 24 ≤ 140737488351232) (htl : ∀ i, i < nt → TL i ≤ 140737488351232) :
    Calls Try.prog 24 #[.agg #[.int .i64 g.ins, .slice A1 g.n1 c1, .slice A2 g.n2 c2, .slice A3 g.n3 c3, .slice A4 g.n4 c4], .slice At nt ct] w fun e w' => e = .returned (.bool true) ∧ Below w.heap.size w w' := by
  have HTL := Lib.hid htl; clear htl
  go_enter Try.func24, Try.ntmps24
  go_wp2_with fail
  refine (tabRef_any g _ _ _ _ _ _ _ _ _ (hg.keeps (Keeps.alloc _ _)) hfit).mono ?_
  rintro e w1 ⟨rfl, hb1⟩
  have HB1 := Lib.hid (Below.alloc_then hb1)
  have hbox := (BoxAt.new w [.int .i64 g.ins, .slice A1 g.n1 c1, .slice A2 g.n2 c2, .slice A3 g.n3 c3, .slice A4 g.n4 c4] 34).keeps (Keeps.of_below hb1)
  have hs1 := hb1.size
  simp at hs1
  clear hb1
  by_cases hv : g.Valid
  · rw [tf_yes hv]
    obtain ⟨g0, g1, g2, g3, g4⟩ := hbox.five
    go_wp2_with fail
    refine (depLut_any g A1 A2 A3 A4 c1 c2 c3 c4 _ (hg.keeps (Keeps.of_below HB1.out)) hfit hv).mono ?_
    rintro e wd ⟨rfl, hbd⟩
    have HBD := Lib.hid (Below.then_call HB1.out hbd (by omega))
    have hboxd := hbox.keeps (Keeps.of_below hbd)
    have hsd := hbd.size
    clear hbd g0 g1 g2 g3 g4
    obtain ⟨g0, g1, g2, g3, g4⟩ := hboxd.five
    go_wp2_with fail
    refine (tabRunLut_any g A1 A2 A3 A4 c1 c2 c3 c4 At nt ct TL T _ (hg.keeps (Keeps.of_below HBD.out)) hfit hv (ht.keeps (Keeps.of_below HBD.out)) hnt HTL.out).mono ?_
    rintro e w2 ⟨A, c, RA, RC, rfl, hm, hb2⟩
    have HB2 := Lib.hid (Below.then_call HBD.out hb2 (by omega))
    have hbox2 := hboxd.keeps (Keeps.of_below hb2)
    have hs2 := hb2.size
    have hmm := hm.mat
    clear hb2 hm g0 g1 g2 g3 g4
    obtain ⟨g0, g1, g2, g3, g4⟩ := hbox2.five
    go_wp2_with fail
    refine (tabRunRef_any g A1 A2 A3 A4 c1 c2 c3 c4 At nt ct TL T _ (hg.keeps (Keeps.of_below HB2.out)) hfit hv (ht.keeps (Keeps.of_below HB2.out)) hnt HTL.out).mono ?_
    rintro e w3 ⟨B, d, RB, RD, rfl, hn, hb3⟩
    have HB3 := Lib.hid (Below.then_call HB2.out hb3 (by omega))
    have hbox3 := hbox2.keeps (Keeps.of_below hb3)
    have hmm3 := hmm.keeps (Keeps.of_below hb3)
    have hs3 := hb3.size
    have hnn := hn.mat
    clear hb3 hn g0 g1 g2 g3 g4
    go_wp2_with fail
    refine (sameRows_any A B nt nt c d _ _ _ _ _ hmm3 hnn (by omega) (fun i _ => by have := hv.n4; omega)).mono ?_
    rintro e w4 ⟨rfl, q, rfl⟩
    rw [tf_yes ⟨rfl, fun i _ => ⟨rfl, fun j _ => rfl⟩⟩]
    have hb4 : Below w3.heap.size w3 (w3.drewN q) := ⟨rfl, rfl, rfl, Nat.le_refl _, fun _ _ => rfl⟩
    have HB4 := Lib.hid (Below.then_call HB3.out hb4 (by omega))
    have hbox4 := hbox3.keeps (Keeps.of_below hb4)
    have hs4 := hb4.size
    clear hb4
    generalize w3.drewN q = w5 at *
    obtain ⟨g0, g1, g2, g3, g4⟩ := hbox4.five
    go_wp2_with fail
    refine (depRef_any g A1 A2 A3 A4 c1 c2 c3 c4 _ (hg.keeps (Keeps.of_below HB4.out)) hfit hv).mono ?_
    rintro e w6 ⟨rfl, hb6⟩
    have HB6 := Lib.hid (Below.then_call HB4.out hb6 (by omega))
    clear hb6
    go_wp2_with fail
    go_ret
    exact ⟨by simp, HB6.out⟩
  · rw [tf_no hv]
    go_wp2_with fail
    go_ret
    exact ⟨rfl, HB1.out⟩

set_option maxHeartbeats 1000000 in
theorem lutRuns_walk (g : Tb) (A1 A2 A3 A4 : Option Addr) (c1 c2 c3 c4 : Nat) (At : Option Addr) (nt ct : Nat) (TL : Nat → Nat) (T : Nat → Nat → Bool) (w : World) (hg : g.At w A1 A2 A3 A4) (hfit : g.Fits)
    (ht : Mat w At nt TL T) (hnt : nt * 24 ≤ 140737488351232) (htl : ∀ i, i < nt → TL i ≤ 140737488351232) :
    Calls Try.prog 8 #[.agg #[.int .i64 g.ins, .slice A1 g.n1 c1, .slice A2 g.n2 c2, .slice A3 g.n3 c3, .slice A4 g.n4 c4], .slice At nt ct] w fun e w' => e = .returned (.bool true) ∧ Below w.heap.size w w' := by
  have HTL := Lib.hid htl; clear htl
  go_enter Try.func8, Try.ntmps8
  go_wp2_with fail
  refine (pair_any _).mono ?_
  rintro e w1 ⟨a1, a2, a3, a4, d1, d2, d3, d4, rfl, ht1, hb1⟩
  have HB1 := Lib.hid (Below.alloc_then hb1)
  have hbox := (BoxAt.new w [.int .i64 g.ins, .slice A1 g.n1 c1, .slice A2 g.n2 c2, .slice A3 g.n3 c3, .slice A4 g.n4 c4] 34).keeps (Keeps.of_below hb1)
  have hs1 := hb1.size
  simp at hs1
  clear hb1
  go_wp2_with fail
  have hk3 : Below w1.heap.size w1 (((w1.alloc (.cells #[.bool true, .bool true] 4)).alloc (.cells #[.bool false] 4)).alloc (.cells #[.slice (some ⟨w1.heap.size, 0, none⟩) 2 2, .slice (some ⟨w1.heap.size + 1, 0, none⟩) 1 1] 31)) :=
    (((Below.refl _ _).alloc (Nat.le_refl _) _).alloc (by simp) _).alloc (by simp; omega) _
  refine (tablesRan_any pairT _ _ _ _ _ _ _ _ _ 2 _ (at3 2 1 1) (fun i _ => at3 true false false i) _ (ht1.keeps (Keeps.of_below hk3)) pair_fits (lit_mat w1) (by omega) (fun i hi => by obtain rfl | rfl : i = 0 ∨ i = 1 := (by omega) <;> decide)).mono ?_
  rintro e w2 ⟨rfl, hb2⟩
  have hb2' : Below w1.heap.size w1 w2 := hk3.trans (hb2.mono hk3.size)
  have HB2 := Lib.hid (Below.then_call HB1.out hb2' (by omega))
  have hbox2 := hbox.keeps (Keeps.of_below hb2')
  have hs2 := hb2'.size
  clear hb2 hb2' hk3 hbox
  obtain ⟨g0, g1, g2, g3, g4⟩ := hbox2.five
  go_wp2_with fail
  refine (tablesRan_any g A1 A2 A3 A4 c1 c2 c3 c4 At nt ct TL T _ (hg.keeps (Keeps.of_below HB2.out)) hfit (ht.keeps (Keeps.of_below HB2.out)) hnt HTL.out).mono ?_
  rintro e w3 ⟨rfl, hb3⟩
  have HB3 := Lib.hid (Below.then_call HB2.out hb3 (by omega))
  clear hb3
  go_wp2_with fail
  go_ret
  exact ⟨rfl, HB3.out⟩

end Go.Proofs.Ytdhgbikmaglgpaa
