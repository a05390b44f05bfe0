/- AigerPacks, walked: it returns true. Conditions: the graph lies in memory, its lists are within the form's reach; the table of powers of ten reads as laid. -/
import Derived.Test.YthmjbenofpbmbaaDoorRk
import Derived.Test.YthmjbenofpbmbaaDoorTinyP
namespace Go.Proofs.YthmjbenofpbmbaaDoor
open Go.RowKit

theorem G.pack_ne (g : G) (k : Nat) : g.pack k ≠ [] := by
  intro h
  have := congrArg List.length h
  simp only [G.pack, G.pout, G.plat, G.headT, List.length_append, List.length_cons, List.length_nil] at this
  omega

set_option maxHeartbeats 2000000 in
theorem aigPacked_any (S : Nat) (g : G) (A1 A2 A3 : Option Addr) (c1 c2 c3 : Nat) (w : World) (hg : g.At w A1 A2 A3) (hfit : g.Fits) (ht : Tab S w) (hS : S ≤ w.heap.size) :
    Calls Tryd.prog 11 #[.agg #[.int .i64 g.ins, .slice A1 g.n1 c1, .slice A2 g.n2 c2, .slice A3 g.n3 c3]] w fun e w' => e = .returned (.bool true) ∧ Below w.heap.size w w' := by
  have HG := Lib.hid hg; have HF := Lib.hid hfit; have HT0 := Lib.hid ht
  clear hg hfit ht
  go_enter Tryd.func11, Tryd.ntmps11
  go_upto_region 1 with (fail)
  have hq := BoxAt.new w [.int .i64 g.ins, .slice A1 g.n1 c1, .slice A2 g.n2 c2, .slice A3 g.n3 c3] 31
  have HV := Lib.hid ((Below.refl w.heap.size w).alloc (Nat.le_refl _) (.cells #[.int .i64 g.ins, .slice A1 g.n1 c1, .slice A2 g.n2 c2, .slice A3 g.n3 c3] 31))
  have hvz : w.heap.size < (w.alloc (.cells #[.int .i64 g.ins, .slice A1 g.n1 c1, .slice A2 g.n2 c2, .slice A3 g.n3 c3] 31)).heap.size := by simp
  generalize w.alloc (.cells #[.int .i64 g.ins, .slice A1 g.n1 c1, .slice A2 g.n2 c2, .slice A3 g.n3 c3] 31) = v at *
  obtain ⟨g0, g1, g2, g3⟩ := hq.four
  have HT := Lib.hid (HT0.out.next HV.out hS)
  clear HT0
  go_wp2_with fail
  refine (refValid_any g A1 A2 A3 c1 c2 c3 _ (HG.out.keeps (Keeps.of_below HV.out)) HF.out).mono ?_
  rintro e w1 ⟨rfl, k1⟩
  have HT1 := Lib.hid (HT.out.next k1 (by omega))
  have HB1 := Lib.hid (Below.then_call HV.out k1 HV.out.size)
  replace hq := hq.keeps (Keeps.of_below k1)
  clear k1 g0 g1 g2 g3
  obtain ⟨g0, g1, g2, g3⟩ := hq.four
  obtain ⟨r, hr⟩ : ∃ r, r = tf g.Valid := ⟨_, rfl⟩
  rw [← hr]
  have HR := Lib.hid hr; clear hr
  cases r with
  | false =>
    go_wp2_with fail
    go_ret
    exact ⟨rfl, HB1.out⟩
  | true =>
    have hsm := (tf_eq_true.1 HR.out.symm).small
    have HSM := Lib.hid hsm; clear hsm
    have hs1 := HB1.out.size
    go_wp2_with fail
    refine (aigerPack_any S g A1 A2 A3 c1 c2 c3 _ HSM.out (HG.out.keeps (Keeps.of_below HB1.out)) HT1.out (by omega)).mono ?_
    rintro e w2 ⟨AP, cP, ZP, he, hoP, k1⟩
    have HB2 := Lib.hid (Below.then_call HB1.out k1 HB1.out.size)
    replace hq := hq.keeps (Keeps.of_below k1)
    clear k1 g0 g1 g2 g3
    obtain ⟨g0, g1, g2, g3⟩ := hq.four
    obtain ⟨L, hL⟩ : ∃ L, L = g.pack g.n2 := ⟨_, rfl⟩
    have hne : L ≠ [] := by rw [hL]; exact g.pack_ne _
    rw [← hL] at he hoP
    subst he
    have HOP := Lib.hid hoP; have HL := Lib.hid hL; have HNE := Lib.hid hne
    clear hoP hL hne
    go_upto_region 5 with (fail)
    have hcv := conv_string (w := w2.drew) (OwnB.below HOP.out ((Below.refl _ _).drew)) HNE.out
    refine wp_region_z (fun w' => w'.cell? ⟨w.heap.size, 0, none⟩ = some (.int .i64 g.ins) ∧ w'.cell? ⟨w.heap.size, 1, none⟩ = some (.slice A1 g.n1 c1) ∧ w'.cell? ⟨w.heap.size, 2, none⟩ = some (.slice A2 g.n2 c2) ∧ w'.cell? ⟨w.heap.size, 3, none⟩ = some (.slice A3 g.n3 c3) ∧ (convert 35 9 (.slice AP L.length cP)).run Tryd.prog w' = .ok (.string (str L)) w') [0, 1, 2] [] (by kernel_rfl) (by kernel_rfl) (by kernel_rfl) (by rfl) (fun _ _ _ _ e h => ⟨e.symm.trans h.1, h.2⟩) ⟨g0, g1, g2, g3, hcv⟩ ?_
    iterate 3
      refine Heads.step (v := ?_) rfl (by rfl) (fun W hW => ?_) ?_
      rotate_left
      · (obtain ⟨s0, s1, s2, s3, s4⟩ := hW; go_simp; try with_reducible rfl)
    clear hcv
    refine AnyZ.one (i := 3) (by kernel_rfl) rfl (fun K hK => ?_)
    go_simp
    have hk2 := Lib.hid ((Keeps.of_below HB2.out).trans (Keeps.drew w2))
    refine (aigPack_any g A1 A2 A3 c1 c2 c3 w2.drew HSM.out (HG.out.keeps hk2.out)).mono ?_
    rintro e w3 ⟨AR, cR, ZR, he, hoR, k1⟩
    rw [← HL.out] at he hoR
    subst he
    replace k1 : Below w2.heap.size w2 w3 := ⟨k1.os, k1.tape, k1.output, k1.size, k1.block⟩
    have HB3 := Lib.hid (Below.then_call HB2.out k1 HB2.out.size)
    replace hq := hq.keeps (Keeps.of_below k1)
    have hcv := conv_string (OwnB.below HOP.out k1) HNE.out
    have hcR := conv_string hoR HNE.out
    have HCR := Lib.hid hcR
    clear k1 g0 g1 g2 g3 hoR hcR
    obtain ⟨g0, g1, g2, g3⟩ := hq.four
    refine hK _ _ (fun _ => ⟨g0, g1, g2, g3, hcv⟩) ?_
    clear hK
    have hcR := HCR.out
    refine AnyZ.one (i := 4) (by kernel_rfl) rfl (fun K hK => ?_)
    go_simp
    refine hK _ _ (fun _ => ⟨g0, g1, g2, g3, hcv⟩) ?_
    clear hK
    refine AnyZ.mid [5, 6] [] 0 rfl (by kernel_rfl) (by kernel_rfl) (by kernel_rfl) (fun _ _ _ _ e h => ⟨e.symm.trans h.1, h.2⟩) ⟨g0, g1, g2, g3, hcv⟩ ?_
    iterate 2
      refine Heads.step (v := ?_) rfl (by rfl) (fun W hW => ?_) ?_
      rotate_left
      · (obtain ⟨s0, s1, s2, s3, s4⟩ := hW; go_simp; try with_reducible rfl)
    refine AnyZ.done (by kernel_rfl) ?_
    clear hcv hcR
    go_wp2_with fail
    go_ret
    exact ⟨rfl, HB3.out⟩

set_option maxHeartbeats 2000000 in
theorem aigerPacks_walk (g : G) (A1 A2 A3 : Option Addr) (c1 c2 c3 : Nat) (w : World) (hg : g.At w A1 A2 A3) (hfit : g.Fits) (ht : Tab w.heap.size w) :
    Calls Tryd.prog 5 #[.agg #[.int .i64 g.ins, .slice A1 g.n1 c1, .slice A2 g.n2 c2, .slice A3 g.n3 c3]] w fun e w' => e = .returned (.bool true) ∧ Below w.heap.size w w' := by
  have HG := Lib.hid hg; have HF := Lib.hid hfit; have HT0 := Lib.hid ht
  clear hg hfit ht
  go_enter Tryd.func5, Tryd.ntmps5
  go_upto_region 1 with (fail)
  have hq := BoxAt.new w [.int .i64 g.ins, .slice A1 g.n1 c1, .slice A2 g.n2 c2, .slice A3 g.n3 c3] 31
  have HV := Lib.hid ((Below.refl w.heap.size w).alloc (Nat.le_refl _) (.cells #[.int .i64 g.ins, .slice A1 g.n1 c1, .slice A2 g.n2 c2, .slice A3 g.n3 c3] 31))
  have hvz : w.heap.size < (w.alloc (.cells #[.int .i64 g.ins, .slice A1 g.n1 c1, .slice A2 g.n2 c2, .slice A3 g.n3 c3] 31)).heap.size := by simp
  generalize w.alloc (.cells #[.int .i64 g.ins, .slice A1 g.n1 c1, .slice A2 g.n2 c2, .slice A3 g.n3 c3] 31) = v at *
  obtain ⟨g0, g1, g2, g3⟩ := hq.four
  have HT := Lib.hid (HT0.out.next HV.out (Nat.le_refl _))
  clear HT0
  go_wp2_with fail
  refine (tiny_any _).mono ?_
  rintro e w1 ⟨B1, B2, B3, d1, d2, d3, rfl, htn, k1⟩
  have HT1 := Lib.hid (HT.out.next k1 (by omega))
  have HTN := Lib.hid htn; clear htn
  have HB1 := Lib.hid (Below.then_call HV.out k1 HV.out.size)
  replace hq := hq.keeps (Keeps.of_below k1)
  clear k1 g0 g1 g2 g3
  obtain ⟨g0, g1, g2, g3⟩ := hq.four
  have hs1 := HB1.out.size
  go_wp2_with fail
  refine (aigPacked_any w.heap.size tinyG B1 B2 B3 d1 d2 d3 _ HTN.out tiny_fits HT1.out hs1).mono ?_
  rintro e w2 ⟨rfl, k1⟩
  have HT2 := Lib.hid (HT1.out.next k1 (by omega))
  have HB2 := Lib.hid (Below.then_call HB1.out k1 HB1.out.size)
  replace hq := hq.keeps (Keeps.of_below k1)
  clear k1 g0 g1 g2 g3
  obtain ⟨g0, g1, g2, g3⟩ := hq.four
  have hs2 := HB2.out.size
  go_wp2_with fail
  refine (aigPacked_any w.heap.size g A1 A2 A3 c1 c2 c3 _ (HG.out.keeps (Keeps.of_below HB2.out)) HF.out HT2.out hs2).mono ?_
  rintro e w3 ⟨rfl, k1⟩
  have HB3 := Lib.hid (Below.then_call HB2.out k1 HB2.out.size)
  clear k1
  go_wp2_with fail
  go_ret
  exact ⟨by simp, HB3.out⟩
end Go.Proofs.YthmjbenofpbmbaaDoor
