/- WordRuns, its walk: whatever netlist and trace come in, the law returns true: on a valid netlist word.Run shows just what the reference's NetRun shows. Condition: the arguments lie in memory and are within the form's reach. -/
import Derived.Test.YtmbcfondglhiiaaWordValids
import Derived.Test.YtmbcfondglhiiaaWordRun
import Derived.Test.YtmbcfondglhiiaaSameW
import Derived.Test.YtmbcfondglhiiaaOpenW
namespace Go.Proofs.Ytmbcfondglhiiaa
open Go.RowKit

set_option maxHeartbeats 2000000 in
theorem netRan_any (g : Nl) (p : Pl) (At : Option Addr) (nt ct : Nat) (TL : Nat → Nat) (T : Nat → Nat → Int) (w : World) (hg : g.At w p) (hfit : g.Fits)
    (ht : MatW w At nt TL T) (hnt : nt * 24 ≤ 140737488351232) (htl : ∀ i, i < nt → TL i ≤ 1000000000000000) (hTb : ∀ i, i < nt → ∀ j, j < TL i → 0 ≤ T i j ∧ T i j ≤ 18446744073709551615) :
    Calls Try.prog 8 #[.agg #[.slice p.A0 g.n0 p.c0, .slice p.A1 g.nn p.c1, .slice p.A2 g.nr p.c2, .slice p.A3 g.nm p.c3, .slice p.A4 g.nw p.c4, .slice p.A5 g.no p.c5], .slice At nt ct] w fun e w' => e = .returned (.bool true) ∧ Below w.heap.size w w' := by
  have hb5 := hfit.b5
  have HTL := Lib.hid htl; clear htl
  have HTB := Lib.hid hTb; clear hTb
  go_enter Try.func8, Try.ntmps8
  go_wp2_with fail
  refine (netValid_any g p _ (hg.keeps (Keeps.alloc _ _)) hfit).mono ?_
  rintro e w1 ⟨rfl, hb1⟩
  have HB1 := Lib.hid (Below.alloc_then hb1)
  have hbox := (BoxAt.new w [.slice p.A0 g.n0 p.c0, .slice p.A1 g.nn p.c1, .slice p.A2 g.nr p.c2, .slice p.A3 g.nm p.c3, .slice p.A4 g.nw p.c4, .slice p.A5 g.no p.c5] 28).keeps (Keeps.of_below hb1)
  have hs1 := hb1.size
  simp at hs1
  clear hb1
  by_cases hok : g.Ok
  · rw [tf_yes hok]
    obtain ⟨g0, g1, g2, g3, g4, g5⟩ := hbox.six
    go_wp2_with fail
    refine (wordRun_any g p At nt ct TL T _ (hg.keeps (Keeps.of_below HB1.out)) hfit hok (ht.keeps (Keeps.of_below HB1.out)) hnt HTL.out HTB.out).mono ?_
    rintro e w2 ⟨A, c, RA, RC, rfl, hm, hb2⟩
    have HB2 := Lib.hid (Below.then_call HB1.out hb2 (by omega))
    have hbox2 := hbox.keeps (Keeps.of_below hb2)
    have hs2 := hb2.size
    have hmm := hm.mat
    clear hb2 hm g0 g1 g2 g3 g4 g5
    obtain ⟨g0, g1, g2, g3, g4, g5⟩ := hbox2.six
    go_wp2_with fail
    refine (netRun_any g p At nt ct TL T _ (hg.keeps (Keeps.of_below HB2.out)) hfit hok (ht.keeps (Keeps.of_below HB2.out)) hnt HTL.out HTB.out).mono ?_
    rintro e w3 ⟨B, d, RB, RD, rfl, hn, hb3⟩
    have HB3 := Lib.hid (Below.then_call HB2.out hb3 (by omega))
    have hmm3 := hmm.keeps (Keeps.of_below hb3)
    have hs3 := hb3.size
    have hnn := hn.mat
    clear hb3 hn g0 g1 g2 g3 g4 g5
    go_wp2_with fail
    refine (sameWords_any A B nt c d g.no _ _ hmm3 hnn (by omega) (by omega)).mono ?_
    rintro e w4 ⟨rfl, hb4⟩
    have HB4 := Lib.hid (Below.then_call HB3.out hb4 (by omega))
    clear hb4
    go_wp2_with fail
    go_ret
    exact ⟨rfl, HB4.out⟩
  · rw [tf_no hok]
    go_wp2_with fail
    go_ret
    exact ⟨rfl, HB1.out⟩

theorem lit_matw (w : World) : MatW (((w.alloc (.cells #[.int .u64 1] 33)).alloc (.cells #[.int .u64 2] 33)).alloc (.cells #[.slice (some ⟨w.heap.size, 0, none⟩) 1 1, .slice (some ⟨w.heap.size + 1, 0, none⟩) 1 1] 34)) (some ⟨w.heap.size + 1 + 1, 0, none⟩) 2 (fun _ => 1) (fun i _ => (i : Int) + 1) := by
  refine ⟨fun i => some ⟨w.heap.size + i, 0, none⟩, fun _ => 1, fun _ => ⟨_, 0, rfl, fun k hk => ?_⟩, fun i hi => fun _ => ⟨w.heap.size + i, 0, rfl, fun k hk => ?_⟩⟩
  · obtain rfl | rfl : k = 0 ∨ k = 1 := by omega
    all_goals simp [go_sem]
  · have hk' : k < 1 := hk
    obtain rfl : k = 0 := by omega
    obtain rfl | rfl : i = 0 ∨ i = 1 := by omega
    all_goals simp [go_sem]

set_option maxHeartbeats 2000000 in
theorem wordRuns_walk (g : Nl) (p : Pl) (At : Option Addr) (nt ct : Nat) (TL : Nat → Nat) (T : Nat → Nat → Int) (w : World) (hg : g.At w p) (hfit : g.Fits)
    (ht : MatW w At nt TL T) (hnt : nt * 24 ≤ 140737488351232) (htl : ∀ i, i < nt → TL i ≤ 1000000000000000) (hTb : ∀ i, i < nt → ∀ j, j < TL i → 0 ≤ T i j ∧ T i j ≤ 18446744073709551615) :
    Calls Try.prog 4 #[.agg #[.slice p.A0 g.n0 p.c0, .slice p.A1 g.nn p.c1, .slice p.A2 g.nr p.c2, .slice p.A3 g.nm p.c3, .slice p.A4 g.nw p.c4, .slice p.A5 g.no p.c5], .slice At nt ct] w fun e w' => e = .returned (.bool true) ∧ Below w.heap.size w w' := by
  have HTL := Lib.hid htl; clear htl
  have HTB := Lib.hid hTb; clear hTb
  go_enter Try.func4, Try.ntmps4
  go_wp2_with fail
  refine (small_any _).mono ?_
  rintro e w1 ⟨ps, rfl, hs, hb1⟩
  have HB1 := Lib.hid (Below.alloc_then hb1)
  have hbox := (BoxAt.new w [.slice p.A0 g.n0 p.c0, .slice p.A1 g.nn p.c1, .slice p.A2 g.nr p.c2, .slice p.A3 g.nm p.c3, .slice p.A4 g.nw p.c4, .slice p.A5 g.no p.c5] 28).keeps (Keeps.of_below hb1)
  have hs1 := hb1.size
  simp at hs1
  clear hb1
  go_wp2_with fail
  have hk3 : Below w1.heap.size w1 (((w1.alloc (.cells #[.int .u64 1] 33)).alloc (.cells #[.int .u64 2] 33)).alloc (.cells #[.slice (some ⟨w1.heap.size, 0, none⟩) 1 1, .slice (some ⟨w1.heap.size + 1, 0, none⟩) 1 1] 34)) :=
    (((Below.refl _ _).alloc (Nat.le_refl _) _).alloc (by simp) _).alloc (by simp; omega) _
  refine (netRan_any smallN ps _ 2 _ (fun _ => 1) (fun i _ => (i : Int) + 1) _ (hs.keeps (Keeps.of_below hk3)) small_fits (lit_matw w1) (by omega) (fun _ _ => by omega) (fun i hi j _ => by omega)).mono ?_
  rintro e w2 ⟨rfl, hb2⟩
  have hb2' : Below w1.heap.size w1 w2 := hk3.trans (hb2.mono hk3.size)
  have HB2 := Lib.hid (Below.then_call HB1.out hb2' (by omega))
  have hbox2 := hbox.keeps (Keeps.of_below hb2')
  have hs2 := hb2'.size
  clear hb2 hb2' hk3 hbox
  obtain ⟨g0, g1, g2, g3, g4, g5⟩ := hbox2.six
  go_wp2_with fail
  refine (netRan_any g p At nt ct TL T _ (hg.keeps (Keeps.of_below HB2.out)) hfit (ht.keeps (Keeps.of_below HB2.out)) hnt HTL.out HTB.out).mono ?_
  rintro e w3 ⟨rfl, hb3⟩
  have HB3 := Lib.hid (Below.then_call HB2.out hb3 (by omega))
  clear hb3
  go_wp2_with fail
  go_ret
  exact ⟨rfl, HB3.out⟩
end Go.Proofs.Ytmbcfondglhiiaa
