/- AigRuns, its walk: whatever graph and trace come in, the law returns true: on a valid graph aig.Run shows just what the reference's GraphRun shows. Condition: the arguments lie in memory and are within the form's reach. -/
import Derived.Test.YtdhgbikmaglgpaaAigRun
import Derived.Test.YtdhgbikmaglgpaaTiny
import Derived.Test.YtdhgbikmaglgpaaOpenMat
namespace Go.Proofs.Ytdhgbikmaglgpaa
open Go.RowKit

theorem OwnMat.keeps_mat {w w1 : World} {base : Nat} {A : Option Addr} {n c len : Nat} {R : Nat → Nat → Bool} {RA : Nat → Option Addr} {RC : Nat → Nat} (h : OwnMat w base A n c len R RA RC) (k : Keeps w w1) : Mat w1 A n (fun _ => len) R := h.mat.keeps k

set_option maxHeartbeats 1000000 in
theorem graphRan_any (g : G) (A1 A2 A3 : Option Addr) (c1 c2 c3 : Nat) (At : Option Addr) (nt ct : Nat) (TL : Nat → Nat) (T : Nat → Nat → Bool) (w : World) (hg : g.At w A1 A2 A3) (hfit : g.Fits)
    (ht : Mat w At nt TL T) (hnt : nt * 24 ≤ 140737488351232) (htl : ∀ i, i < nt → TL i ≤ 140737488351232) :
    Calls Try.prog 18 #[.agg #[.int .i64 g.ins, .slice A1 g.n1 c1, .slice A2 g.n2 c2, .slice A3 g.n3 c3], .slice At nt ct] w fun e w' => e = .returned (.bool true) ∧ Below w.heap.size w w' := by
  have HTL := Lib.hid htl; clear htl
  go_enter Try.func18, Try.ntmps18
  go_wp2_with fail
  refine (refValid_any g _ _ _ _ _ _ _ (hg.keeps (Keeps.alloc _ _)) hfit).mono ?_
  rintro e w1 ⟨rfl, hb1⟩
  have HB1 := Lib.hid (Below.alloc_then hb1)
  have hbox := (BoxAt.new w [.int .i64 g.ins, .slice A1 g.n1 c1, .slice A2 g.n2 c2, .slice A3 g.n3 c3] 26).keeps (Keeps.of_below hb1)
  have hs1 := hb1.size
  simp at hs1
  clear hb1
  by_cases hv : g.Valid
  · rw [tf_yes hv]
    obtain ⟨g0, g1, g2, g3⟩ := hbox.four
    go_wp2_with fail
    refine (aigRun_any g A1 A2 A3 c1 c2 c3 At nt ct TL T _ (hg.keeps (Keeps.of_below HB1.out)) hv (ht.keeps (Keeps.of_below HB1.out)) hnt HTL.out).mono ?_
    rintro e w2 ⟨A, c, RA, RC, rfl, hm, hb2⟩
    have HB2 := Lib.hid (Below.then_call HB1.out hb2 (by omega))
    have hbox2 := hbox.keeps (Keeps.of_below hb2)
    have hs2 := hb2.size
    have hmm := hm.mat
    clear hb2 hm g0 g1 g2 g3
    obtain ⟨g0, g1, g2, g3⟩ := hbox2.four
    go_wp2_with fail
    refine (refRun_any g A1 A2 A3 c1 c2 c3 At nt ct TL T _ (hg.keeps (Keeps.of_below HB2.out)) hv (ht.keeps (Keeps.of_below HB2.out)) hnt HTL.out).mono ?_
    rintro e w3 ⟨B, d, RB, RD, rfl, hn, hb3⟩
    have HB3 := Lib.hid (Below.then_call HB2.out hb3 (by omega))
    have hmm3 := hmm.keeps (Keeps.of_below hb3)
    have hs3 := hb3.size
    have hnn := hn.mat
    clear hb3 hn g0 g1 g2 g3
    go_wp2_with fail
    refine (sameRows_any A B nt nt c d _ _ _ _ _ hmm3 hnn (by omega) (fun i _ => by have := hv.n3; omega)).mono ?_
    rintro e w4 ⟨rfl, q, rfl⟩
    rw [tf_yes ⟨rfl, fun i _ => ⟨rfl, fun j _ => rfl⟩⟩]
    go_wp2_with fail
    go_ret
    exact ⟨rfl, ⟨HB3.out.os, HB3.out.tape, HB3.out.output, HB3.out.size, HB3.out.block⟩⟩
  · rw [tf_no hv]
    go_wp2_with fail
    go_ret
    exact ⟨rfl, HB1.out⟩

theorem size_alloc' (w : World) (o : Obj) : (w.alloc o).heap.size = w.heap.size + 1 := by simp

/-- the law's own trace: two rows -/
theorem lit_mat (w : World) : Mat (((w.alloc (.cells #[.bool true, .bool true] 4)).alloc (.cells #[.bool false] 4)).alloc (.cells #[.slice (some ⟨w.heap.size, 0, none⟩) 2 2, .slice (some ⟨w.heap.size + 1, 0, none⟩) 1 1] 31))
    (some ⟨w.heap.size + 1 + 1, 0, none⟩) 2 (at3 2 1 1) (fun i _ => at3 true false false i) := by
  refine ⟨at3 (some ⟨w.heap.size, 0, none⟩) (some ⟨w.heap.size + 1, 0, none⟩) none, at3 2 1 1, fun _ => ⟨_, _, rfl, fun k hk => ?_⟩, fun i hi => ?_⟩
  · obtain rfl | rfl : k = 0 ∨ k = 1 := by omega
    · simp [at3, go_sem]
    · simp [at3, go_sem]
  · obtain rfl | rfl : i = 0 ∨ i = 1 := by omega
    · intro _
      refine ⟨_, _, rfl, fun k hk => Keeps.alloc _ _ _ _ (Keeps.alloc _ _ _ _ ?_)⟩
      have hk' : k < 2 := hk
      obtain rfl | rfl : k = 0 ∨ k = 1 := by omega
      · exact BoxAt.new w [.bool true, .bool true] _ 0 _ rfl
      · exact BoxAt.new w [.bool true, .bool true] _ 1 _ rfl
    · intro _
      refine ⟨_, _, rfl, fun k hk => Keeps.alloc _ _ _ _ ?_⟩
      have hk' : k < 1 := hk
      obtain rfl : k = 0 := by omega
      simp [at3, go_sem]

set_option maxHeartbeats 1000000 in
theorem aigRuns_walk (g : G) (A1 A2 A3 : Option Addr) (c1 c2 c3 : Nat) (At : Option Addr) (nt ct : Nat) (TL : Nat → Nat) (T : Nat → Nat → Bool) (w : World) (hg : g.At w A1 A2 A3) (hfit : g.Fits)
    (ht : Mat w At nt TL T) (hnt : nt * 24 ≤ 140737488351232) (htl : ∀ i, i < nt → TL i ≤ 140737488351232) :
    Calls Try.prog 4 #[.agg #[.int .i64 g.ins, .slice A1 g.n1 c1, .slice A2 g.n2 c2, .slice A3 g.n3 c3], .slice At nt ct] w fun e w' => e = .returned (.bool true) ∧ Below w.heap.size w w' := by
  have HTL := Lib.hid htl; clear htl
  go_enter Try.func4, Try.ntmps4
  go_wp2_with fail
  refine (tiny_any _).mono ?_
  rintro e w1 ⟨a1, a2, a3, d1, d2, d3, rfl, ht1, hb1⟩
  have HB1 := Lib.hid (Below.alloc_then hb1)
  have hbox := (BoxAt.new w [.int .i64 g.ins, .slice A1 g.n1 c1, .slice A2 g.n2 c2, .slice A3 g.n3 c3] 26).keeps (Keeps.of_below hb1)
  have hs1 := hb1.size
  simp at hs1
  clear hb1
  go_wp2_with fail
  have hk3 : Below w1.heap.size w1 (((w1.alloc (.cells #[.bool true, .bool true] 4)).alloc (.cells #[.bool false] 4)).alloc (.cells #[.slice (some ⟨w1.heap.size, 0, none⟩) 2 2, .slice (some ⟨w1.heap.size + 1, 0, none⟩) 1 1] 31)) :=
    (((Below.refl _ _).alloc (Nat.le_refl _) _).alloc (by simp) _).alloc (by simp; omega) _
  refine (graphRan_any tinyG _ _ _ _ _ _ _ 2 _ (at3 2 1 1) (fun i _ => at3 true false false i) _ (ht1.keeps (Keeps.of_below hk3)) tiny_fits (lit_mat w1) (by omega) (fun i hi => by obtain rfl | rfl : i = 0 ∨ i = 1 := (by omega) <;> decide)).mono ?_
  rintro e w2 ⟨rfl, hb2⟩
  have hb2' : Below w1.heap.size w1 w2 := hk3.trans (hb2.mono hk3.size)
  have HB2 := Lib.hid (Below.then_call HB1.out hb2' (by omega))
  have hbox2 := hbox.keeps (Keeps.of_below hb2')
  have hs2 := hb2'.size
  clear hb2 hb2' hk3 hbox
  obtain ⟨g0, g1, g2, g3⟩ := hbox2.four
  go_wp2_with fail
  refine (graphRan_any g A1 A2 A3 c1 c2 c3 At nt ct TL T _ (hg.keeps (Keeps.of_below HB2.out)) hfit (ht.keeps (Keeps.of_below HB2.out)) hnt HTL.out).mono ?_
  rintro e w3 ⟨rfl, hb3⟩
  have HB3 := Lib.hid (Below.then_call HB2.out hb3 (by omega))
  clear hb3
  go_wp2_with fail
  go_ret
  exact ⟨rfl, HB3.out⟩

end Go.Proofs.Ytdhgbikmaglgpaa
