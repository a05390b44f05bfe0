/- AigCleans, its walk: whatever graph comes in, the law returns true: of a valid graph aig.Clean leaves just what the reference's CleanGraph leaves. Condition: the argument lies in memory and is within the form's reach. -/
import Derived.Test.YtdhgbikmaglgpaaCleanAig
import Derived.Test.YtdhgbikmaglgpaaSameG
namespace Go.Proofs.Ytdhgbikmaglgpaa
open Go.RowKit

set_option maxHeartbeats 1000000 in
theorem cleaned_any (g : G) (A1 A2 A3 : Option Addr) (c1 c2 c3 : Nat) (w : World) (hg : g.At w A1 A2 A3) (hfit : g.Fits) :
    Calls Try.prog 19 #[.agg #[.int .i64 g.ins, .slice A1 g.n1 c1, .slice A2 g.n2 c2, .slice A3 g.n3 c3]] w fun e w' => e = .returned (.bool true) ∧ Below w.heap.size w w' := by
  go_enter Try.func19, Try.ntmps19
  go_wp2_with fail
  refine (refValid_any g _ _ _ _ _ _ _ (hg.keeps (Keeps.alloc _ _)) hfit).mono ?_
  rintro e w1 ⟨rfl, hb1⟩
  have HB1 := Lib.hid (Below.alloc_then hb1)
  have hbox := (BoxAt.new w [.int .i64 g.ins, .slice A1 g.n1 c1, .slice A2 g.n2 c2, .slice A3 g.n3 c3] 26).keeps (Keeps.of_below hb1)
  have hs1 := hb1.size
  simp at hs1
  clear hb1
  by_cases hv : g.Valid
  · rw [tf_yes hv]
    obtain ⟨g0, g1, g2, g3⟩ := hbox.four
    go_wp2_with fail
    refine (cleanAig_any g A1 A2 A3 c1 c2 c3 _ (hg.keeps (Keeps.of_below HB1.out)) hv).mono ?_
    rintro e w2 ⟨B1, B2, B3, d1, d2, d3, rfl, hh, hb2⟩
    have HB2 := Lib.hid (Below.then_call HB1.out hb2 (by omega))
    have hbox2 := hbox.keeps (Keeps.of_below hb2)
    have hs2 := hb2.size
    clear hb2 g0 g1 g2 g3
    go_upto_region 5 with (fail)
    have hbq := BoxAt.new w2 [.int .i64 g.clean.ins, .slice B1 g.clean.n1 d1, .slice B2 g.clean.n2 d2, .slice B3 g.clean.n3 d3] 26
    have hbelq : Below w2.heap.size w2 (w2.alloc (.cells #[.int .i64 g.clean.ins, .slice B1 g.clean.n1 d1, .slice B2 g.clean.n2 d2, .slice B3 g.clean.n3 d3] 26)) := (Below.refl _ _).alloc (Nat.le_refl _) _
    generalize w2.alloc (.cells #[.int .i64 g.clean.ins, .slice B1 g.clean.n1 d1, .slice B2 g.clean.n2 d2, .slice B3 g.clean.n3 d3] 26) = wq at *
    have HBq := Lib.hid (Below.then_call HB2.out hbelq (by omega))
    have hbx := hbox2.keeps (Keeps.of_below hbelq)
    have hhq := hh.keeps (Keeps.of_below hbelq)
    have hsq := hbelq.size
    clear hbelq hbox2 hh HB2
    generalize w2.heap.size = b4 at *
    obtain ⟨g0, g1, g2, g3⟩ := hbx.four
    obtain ⟨p0, p1, p2, p3⟩ := hbq.four
    refine wp_region_z (fun w' => w'.cell? ⟨b4, 0, none⟩ = some (.int .i64 g.clean.ins) ∧ w'.cell? ⟨b4, 1, none⟩ = some (.slice B1 g.clean.n1 d1) ∧ w'.cell? ⟨b4, 2, none⟩ = some (.slice B2 g.clean.n2 d2) ∧ w'.cell? ⟨b4, 3, none⟩ = some (.slice B3 g.clean.n3 d3) ∧
      w'.cell? ⟨w.heap.size, 0, none⟩ = some (.int .i64 g.ins) ∧ w'.cell? ⟨w.heap.size, 1, none⟩ = some (.slice A1 g.n1 c1) ∧ w'.cell? ⟨w.heap.size, 2, none⟩ = some (.slice A2 g.n2 c2) ∧ w'.cell? ⟨w.heap.size, 3, none⟩ = some (.slice A3 g.n3 c3)) [0, 1] [3, 4] (by kernel_rfl) (by kernel_rfl) (by kernel_rfl) (by rfl) (fun _ _ _ _ e h => ⟨e.symm.trans h.1, h.2⟩) ⟨p0, p1, p2, p3, g0, g1, g2, g3⟩ ?_
    iterate 2
      refine Heads.step (v := ?_) rfl (by rfl) (fun W hW => ?_) ?_
      rotate_left
      · (obtain ⟨s0, s1, s2, s3, s4, s5, s6, s7⟩ := hW; go_simp; try with_reducible rfl)
    refine AnyZ.one (i := 2) (by kernel_rfl) rfl (fun K hK => ?_)
    go_simp
    refine (cleanRef_any g A1 A2 A3 c1 c2 c3 _ ((hg.keeps (Keeps.of_below HBq.out)).keeps (Keeps.drew _)) hv).mono ?_
    rintro e w3 ⟨E1, E2, E3, f1, f2, f3, rfl, hh3, hb3⟩
    have hb3' : Below wq.heap.size wq w3 := ⟨hb3.os, hb3.tape, hb3.output, hb3.size, hb3.block⟩
    have hk3 : Keeps wq w3 := Keeps.of_below hb3'
    have HB3 := Lib.hid (Below.then_call HBq.out hb3' (by omega))
    have hhq3 := hhq.keeps hk3
    have hs3 := hb3'.size
    refine hK _ _ (fun _ => ⟨hk3 _ _ p0, hk3 _ _ p1, hk3 _ _ p2, hk3 _ _ p3, hk3 _ _ g0, hk3 _ _ g1, hk3 _ _ g2, hk3 _ _ g3⟩) ?_
    clear hK hb3 hb3' hhq hk3
    refine AnyZ.one (i := 3) (by kernel_rfl) rfl (fun K hK => ?_)
    go_simp
    refine (sameGraph_any g.clean B1 B2 B3 E1 E2 E3 d1 d2 d3 f1 f2 f3 w3 hhq3 hh3 ⟨?_, ?_, ?_⟩).mono ?_
    · have := hv.n1; show g.n1 ≤ _; omega
    · have := g.cnt_le g.n2; have := hv.nums; show g.cnt g.n2 ≤ _; omega
    · have := hv.n3; show g.n3 ≤ _; omega
    rintro e w4 ⟨rfl, hb4⟩
    have HB4 := Lib.hid (Below.then_call HB3.out hb4 (by omega))
    clear hb4
    refine hK _ _ (fun h => by cases h) ?_
    clear hK
    refine AnyZ.one (i := 4) (by kernel_rfl) rfl (fun K hK => ?_)
    go_simp
    refine hK _ _ (fun h => by cases h) (AnyZ.done (by kernel_rfl) ?_)
    clear hK
    go_wp2_with fail
    go_ret
    exact ⟨rfl, HB4.out⟩
  · rw [tf_no hv]
    go_wp2_with fail
    go_ret
    exact ⟨rfl, HB1.out⟩

set_option maxHeartbeats 1000000 in
theorem aigCleans_walk (g : G) (A1 A2 A3 : Option Addr) (c1 c2 c3 : Nat) (w : World) (hg : g.At w A1 A2 A3) (hfit : g.Fits) :
    Calls Try.prog 5 #[.agg #[.int .i64 g.ins, .slice A1 g.n1 c1, .slice A2 g.n2 c2, .slice A3 g.n3 c3]] w fun e w' => e = .returned (.bool true) ∧ Below w.heap.size w w' := by
  go_enter Try.func5, Try.ntmps5
  go_wp2_with fail
  refine (tiny_any _).mono ?_
  rintro e w1 ⟨a1, a2, a3, d1, d2, d3, rfl, ht, hb1⟩
  have HB1 := Lib.hid (Below.alloc_then hb1)
  have hbox := (BoxAt.new w [.int .i64 g.ins, .slice A1 g.n1 c1, .slice A2 g.n2 c2, .slice A3 g.n3 c3] 26).keeps (Keeps.of_below hb1)
  have hs1 := hb1.size
  simp at hs1
  clear hb1
  go_wp2_with fail
  refine (cleaned_any tinyG _ _ _ _ _ _ _ ht tiny_fits).mono ?_
  rintro e w2 ⟨rfl, hb2⟩
  have HB2 := Lib.hid (Below.then_call HB1.out hb2 (by omega))
  have hbox2 := hbox.keeps (Keeps.of_below hb2)
  have hs2 := hb2.size
  clear hb2 hbox
  obtain ⟨g0, g1, g2, g3⟩ := hbox2.four
  go_wp2_with fail
  refine (cleaned_any g A1 A2 A3 c1 c2 c3 _ (hg.keeps (Keeps.of_below HB2.out)) hfit).mono ?_
  rintro e w3 ⟨rfl, hb3⟩
  have HB3 := Lib.hid (Below.then_call HB2.out hb3 (by omega))
  clear hb3
  go_wp2_with fail
  go_ret
  exact ⟨rfl, HB3.out⟩
end Go.Proofs.Ytdhgbikmaglgpaa
