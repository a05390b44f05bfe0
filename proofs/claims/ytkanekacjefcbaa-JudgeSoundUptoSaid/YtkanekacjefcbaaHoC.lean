/- The reference's Certain, walked. Conditions: the graphs, the pairs and the steps lie in memory, within the given bulk. -/
import Derived.Test.YtkanekacjefcbaaHoP
import Derived.Test.YtkanekacjefcbaaRfU
import Derived.Test.YtkanekacjefcbaaJointR
import Derived.Deep.DeepCutAuto
namespace Go.Proofs.Ytkanekacjefcbaa
open Go.RowKit

set_option maxHeartbeats 8000000 in
set_option maxRecDepth 100000 in
theorem certain_any (a b : G) (A1 A2 A3 B1 B2 B3 : Option Addr) (c1 c2 c3 d1 d2 d3 : Nat) (PA : Option Addr) (np pc : Nat) (P Q : Nat → Int) (SA : Nat → Option Addr) (sc : Nat → Nat) (St : Nat → List (List Int)) (vst : Nat → List Value) (w : World) (ha : a.At w A1 A2 A3) (hb : b.At w B1 B2 B3) (hfa : a.Fits) (hfb : b.Fits)
    (hp : RowS w 2 PA np (fun k => two (.int .i64 (P k)) (.int .i64 (Q k)))) (hnp : np ≤ 1048576) (hS : ∀ k, MatC w (SA k) (St k) (vst k)) (hs1 : ∀ k, (St k).length ≤ 1048576) (hs2 : ∀ k, tot (St k) ≤ 1048576) :
    Calls Try.prog 9 #[.agg #[.int .i64 a.ins, .slice A1 a.n1 c1, .slice A2 a.n2 c2, .slice A3 a.n3 c3], .agg #[.int .i64 b.ins, .slice B1 b.n1 d1, .slice B2 b.n2 d2, .slice B3 b.n3 d3], .agg #[.slice PA np pc, .slice (SA 0) (St 0).length (sc 0), .slice (SA 1) (St 1).length (sc 1), .slice (SA 2) (St 2).length (sc 2)]] w fun e w' => e = .returned (.bool (tf (HoldsP a b np P Q St))) ∧ Below w.heap.size w w' := by
  have HSM := Lib.hid hS; have HS1 := Lib.hid hs1; have HS2 := Lib.hid hs2; clear hS hs1 hs2
  go_enter Try.func9, Try.ntmps9
  go_upto_region 1 with (fail)
  have qa := BoxAt.new w [.int .i64 a.ins, .slice A1 a.n1 c1, .slice A2 a.n2 c2, .slice A3 a.n3 c3] 30
  have hbl : Below w.heap.size w (w.alloc (.cells #[.int .i64 a.ins, .slice A1 a.n1 c1, .slice A2 a.n2 c2, .slice A3 a.n3 c3] 30)) := (Below.refl _ _).alloc (Nat.le_refl _) _
  have hz1 : (w.alloc (.cells #[.int .i64 a.ins, .slice A1 a.n1 c1, .slice A2 a.n2 c2, .slice A3 a.n3 c3] 30)).heap.size = w.heap.size + 1 := by simp
  generalize w.alloc (.cells #[.int .i64 a.ins, .slice A1 a.n1 c1, .slice A2 a.n2 c2, .slice A3 a.n3 c3] 30) = v1 at *
  have qb := BoxAt.new v1 [.int .i64 b.ins, .slice B1 b.n1 d1, .slice B2 b.n2 d2, .slice B3 b.n3 d3] 30
  rw [hz1] at qb
  replace qa := qa.keeps (Keeps.alloc v1 (.cells #[.int .i64 b.ins, .slice B1 b.n1 d1, .slice B2 b.n2 d2, .slice B3 b.n3 d3] 30))
  replace hbl := hbl.alloc (by omega) (.cells #[.int .i64 b.ins, .slice B1 b.n1 d1, .slice B2 b.n2 d2, .slice B3 b.n3 d3] 30)
  have hz2 : (v1.alloc (.cells #[.int .i64 b.ins, .slice B1 b.n1 d1, .slice B2 b.n2 d2, .slice B3 b.n3 d3] 30)).heap.size = w.heap.size + 1 + 1 := by simp [hz1]
  generalize v1.alloc (.cells #[.int .i64 b.ins, .slice B1 b.n1 d1, .slice B2 b.n2 d2, .slice B3 b.n3 d3] 30) = v2 at *
  clear hz1
  have qc := BoxAt.new v2 [.slice PA np pc, .slice (SA 0) (St 0).length (sc 0), .slice (SA 1) (St 1).length (sc 1), .slice (SA 2) (St 2).length (sc 2)] 32
  rw [hz2] at qc
  replace qa := qa.keeps (Keeps.alloc v2 (.cells #[.slice PA np pc, .slice (SA 0) (St 0).length (sc 0), .slice (SA 1) (St 1).length (sc 1), .slice (SA 2) (St 2).length (sc 2)] 32))
  replace qb := qb.keeps (Keeps.alloc v2 (.cells #[.slice PA np pc, .slice (SA 0) (St 0).length (sc 0), .slice (SA 1) (St 1).length (sc 1), .slice (SA 2) (St 2).length (sc 2)] 32))
  replace hbl := hbl.alloc (by omega) (.cells #[.slice PA np pc, .slice (SA 0) (St 0).length (sc 0), .slice (SA 1) (St 1).length (sc 1), .slice (SA 2) (St 2).length (sc 2)] 32)
  have hz3 : (v2.alloc (.cells #[.slice PA np pc, .slice (SA 0) (St 0).length (sc 0), .slice (SA 1) (St 1).length (sc 1), .slice (SA 2) (St 2).length (sc 2)] 32)).heap.size = w.heap.size + 1 + 1 + 1 := by simp [hz2]
  generalize v2.alloc (.cells #[.slice PA np pc, .slice (SA 0) (St 0).length (sc 0), .slice (SA 1) (St 1).length (sc 1), .slice (SA 2) (St 2).length (sc 2)] 32) = w1 at *
  clear hz2
  have HB1 := Lib.hid hbl; clear hbl
  have hs1 : w.heap.size + 3 ≤ w1.heap.size := by omega
  clear hz3
  generalize hz : w.heap.size = z at *
  have HZ := Lib.hid hz; clear hz
  obtain ⟨g0, g1, g2, g3⟩ := qa.four
  obtain ⟨h0, h1, h2, h3⟩ := qb.four
  obtain ⟨p0, p1, p2, p3⟩ := qc.four
  go_wp2_with fail
  refine (alike_any a b A1 A2 A3 B1 B2 B3 c1 c2 c3 d1 d2 d3 _ (ha.keeps (Keeps.of_below (by rw [HZ.out]; exact HB1.out))) (hb.keeps (Keeps.of_below (by rw [HZ.out]; exact HB1.out))) hfa hfb).mono ?_
  rintro e w2 ⟨rfl, hb2⟩
  have HB2 := Lib.hid (HB1.out.trans (hb2.mono (by omega)))
  replace qa := qa.keeps (Keeps.of_below hb2)
  replace qb := qb.keeps (Keeps.of_below hb2)
  replace qc := qc.keeps (Keeps.of_below hb2)
  have hs2 := hb2.size
  clear hb2
  clear g0 g1 g2 g3 h0 h1 h2 h3 p0 p1 p2 p3
  by_cases hA : AlikeP a b
  · rw [tf_yes hA]
    obtain ⟨hva, hvb, hi, ho⟩ := hA
    have HVA := Lib.hid hva; have HVB := Lib.hid hvb; have HI := Lib.hid hi; have HO := Lib.hid ho
    obtain ⟨a1, a2, a3, a4, a5⟩ := hva.small
    obtain ⟨b1, b2, b3, b4, b5⟩ := hvb.small
    clear hva hvb hi ho
    have hj1 : (joint a b).n1 ≤ 12000 := by (show a.n1 + b.n1 ≤ 12000); omega
    have hj2 : (joint a b).n2 ≤ 120000 := by (show a.n2 + b.n2 ≤ 120000); omega
    have hj0 : 0 ≤ (joint a b).ins ∧ (joint a b).ins ≤ 60000 := by (show 0 ≤ a.ins ∧ a.ins ≤ 60000); omega
    obtain ⟨g0, g1, g2, g3⟩ := qa.four
    obtain ⟨h0, h1, h2, h3⟩ := qb.four
    obtain ⟨p0, p1, p2, p3⟩ := qc.four
    go_upto_region 4 with (fail)
    refine wp_region_z (fun w' => w'.cell? ⟨z, 0, none⟩ = some (.int .i64 a.ins) ∧ w'.cell? ⟨z, 1, none⟩ = some (.slice A1 a.n1 c1) ∧ w'.cell? ⟨z, 2, none⟩ = some (.slice A2 a.n2 c2) ∧ w'.cell? ⟨z, 3, none⟩ = some (.slice A3 a.n3 c3) ∧ w'.cell? ⟨z + 1, 0, none⟩ = some (.int .i64 b.ins) ∧ w'.cell? ⟨z + 1, 1, none⟩ = some (.slice B1 b.n1 d1) ∧ w'.cell? ⟨z + 1, 2, none⟩ = some (.slice B2 b.n2 d2) ∧ w'.cell? ⟨z + 1, 3, none⟩ = some (.slice B3 b.n3 d3) ∧ w'.cell? ⟨z + 1 + 1, 0, none⟩ = some (.slice PA np pc)) [0, 1, 3, 4] [5, 6] (by kernel_rfl) (by kernel_rfl) (by kernel_rfl) (by rfl) (fun _ _ _ _ e h => ⟨e.symm.trans h.1, h.2⟩) ⟨g0, g1, g2, g3, h0, h1, h2, h3, p0⟩ ?_
    iterate 4
      refine Heads.step (v := ?_) rfl (by rfl) (fun W hW => ?_) ?_
      rotate_left
      · (obtain ⟨s0, s1, s2, s3, s4, s5, s6, s7, s8⟩ := hW; go_simp; try with_reducible rfl)
    refine AnyZ.one (i := 2) (by kernel_rfl) rfl (fun K hK => ?_)
    go_simp
    refine (joint_any a b A1 A2 A3 B1 B2 B3 c1 c2 c3 d1 d2 d3 w2.drew (ha.keeps ((Keeps.of_below (by rw [HZ.out]; exact HB2.out)).trans (Keeps.drew w2))) (hb.keeps ((Keeps.of_below (by rw [HZ.out]; exact HB2.out)).trans (Keeps.drew w2))) HVA.out HVB.out).mono ?_
    rintro e w3 ⟨L1, L2, L3, l1, l2, l3, rfl, _, hb3⟩
    replace hb3 : Below w2.heap.size w2 w3 := ⟨hb3.os, hb3.tape, hb3.output, hb3.size, hb3.block⟩
    have HB3 := Lib.hid (HB2.out.trans (hb3.mono (by omega)))
    replace qa := qa.keeps (Keeps.of_below hb3)
    replace qb := qb.keeps (Keeps.of_below hb3)
    replace qc := qc.keeps (Keeps.of_below hb3)
    have hs3 := hb3.size
    clear hb3
    clear g0 g1 g2 g3 h0 h1 h2 h3 p0 p1 p2 p3
    obtain ⟨g0, g1, g2, g3⟩ := qa.four
    obtain ⟨h0, h1, h2, h3⟩ := qb.four
    obtain ⟨p0, p1, p2, p3⟩ := qc.four
    refine hK _ _ (fun _ => ⟨g0, g1, g2, g3, h0, h1, h2, h3, p0⟩) ?_
    clear hK
    refine AnyZ.one (i := 5) (by kernel_rfl) rfl (fun K hK => ?_)
    go_simp
    refine (paired_any (joint a b) L1 L2 L3 l1 l2 l3 PA np pc P Q w3 (hp.keeps (Keeps.of_below (by rw [HZ.out]; exact HB3.out))) hj0.1 (by omega) (by omega) (by omega) (by omega)).mono ?_
    rintro e w4 ⟨rfl, hb4⟩
    have HB4 := Lib.hid (HB3.out.trans (hb4.mono (by omega)))
    replace qa := qa.keeps (Keeps.of_below hb4)
    replace qb := qb.keeps (Keeps.of_below hb4)
    replace qc := qc.keeps (Keeps.of_below hb4)
    have hs4 := hb4.size
    clear hb4
    clear g0 g1 g2 g3 h0 h1 h2 h3 p0 p1 p2 p3
    refine hK _ _ (fun h => by cases h) ?_
    clear hK
    refine AnyZ.one (i := 6) (by kernel_rfl) rfl (fun K hK => ?_)
    go_simp
    refine hK _ _ (fun h => by cases h) (AnyZ.done (by kernel_rfl) ?_)
    clear hK
    by_cases hok : PairsOk (joint a b) np P Q
    · rw [tf_yes hok]
      have HOK := Lib.hid hok; clear hok
      obtain ⟨g0, g1, g2, g3⟩ := qa.four
      obtain ⟨h0, h1, h2, h3⟩ := qb.four
      obtain ⟨p0, p1, p2, p3⟩ := qc.four
      go_upto_region 7 with (fail)
      refine wp_region_z (fun w' => w'.cell? ⟨z, 0, none⟩ = some (.int .i64 a.ins) ∧ w'.cell? ⟨z, 1, none⟩ = some (.slice A1 a.n1 c1) ∧ w'.cell? ⟨z, 2, none⟩ = some (.slice A2 a.n2 c2) ∧ w'.cell? ⟨z, 3, none⟩ = some (.slice A3 a.n3 c3) ∧ w'.cell? ⟨z + 1, 0, none⟩ = some (.int .i64 b.ins) ∧ w'.cell? ⟨z + 1, 1, none⟩ = some (.slice B1 b.n1 d1) ∧ w'.cell? ⟨z + 1, 2, none⟩ = some (.slice B2 b.n2 d2) ∧ w'.cell? ⟨z + 1, 3, none⟩ = some (.slice B3 b.n3 d3) ∧ w'.cell? ⟨z + 1 + 1, 0, none⟩ = some (.slice PA np pc) ∧ w'.cell? ⟨z + 1 + 1, 1, none⟩ = some (.slice (SA 0) (St 0).length (sc 0))) [0, 1, 2, 3, 5, 6] [7, 8] (by kernel_rfl) (by kernel_rfl) (by kernel_rfl) (by rfl) (fun _ _ _ _ e h => ⟨e.symm.trans h.1, h.2⟩) ⟨g0, g1, g2, g3, h0, h1, h2, h3, p0, p1⟩ ?_
      iterate 6
        refine Heads.step (v := ?_) rfl (by rfl) (fun W hW => ?_) ?_
        rotate_left
        · (obtain ⟨s0, s1, s2, s3, s4, s5, s6, s7, s8, s9⟩ := hW; go_simp; try with_reducible rfl)
      refine AnyZ.one (i := 4) (by kernel_rfl) rfl (fun K hK => ?_)
      go_simp
      refine (formed0_any a b A1 A2 A3 B1 B2 B3 c1 c2 c3 d1 d2 d3 PA np pc P Q w4.drew (ha.keeps ((Keeps.of_below (by rw [HZ.out]; exact HB4.out)).trans (Keeps.drew w4))) (hb.keeps ((Keeps.of_below (by rw [HZ.out]; exact HB4.out)).trans (Keeps.drew w4))) HVA.out HVB.out HI.out (hp.keeps ((Keeps.of_below (by rw [HZ.out]; exact HB4.out)).trans (Keeps.drew w4))) HOK.out (by omega)).mono ?_
      rintro e w5 ⟨FA, fc, fv, base, rfl, hcl, hb5⟩
      replace hb5 : Below w4.heap.size w4 w5 := ⟨hb5.os, hb5.tape, hb5.output, hb5.size, hb5.block⟩
      have HB5 := Lib.hid (HB4.out.trans (hb5.mono (by omega)))
      replace qa := qa.keeps (Keeps.of_below hb5)
      replace qb := qb.keeps (Keeps.of_below hb5)
      replace qc := qc.keeps (Keeps.of_below hb5)
      have hs5 := hb5.size
      have HMF := Lib.hid hcl.mat
      have hlen := formC_len (joint a b) a.n3 np P Q 0
      have htot := tot_form (joint a b) a.n3 np P Q 0
      have hl1 : (formC (joint a b) a.n3 np P Q 0).length ≤ 20000000 := by omega
      have hl2 : tot (formC (joint a b) a.n3 np P Q 0) ≤ 20000000 := by omega
      clear hb5 hcl hlen htot
      clear g0 g1 g2 g3 h0 h1 h2 h3 p0 p1 p2 p3
      obtain ⟨g0, g1, g2, g3⟩ := qa.four
      obtain ⟨h0, h1, h2, h3⟩ := qb.four
      obtain ⟨p0, p1, p2, p3⟩ := qc.four
      obtain ⟨L, hL⟩ : ∃ L, L = formC (joint a b) a.n3 np P Q 0 := ⟨_, rfl⟩
      obtain ⟨V, hV⟩ : ∃ V, V = formVars (joint a b) a.n3 np 0 := ⟨_, rfl⟩
      rw [← hL] at hl1 hl2 HMF ⊢
      rw [← hV]
      have HL0 := Lib.hid hL; have HV0 := Lib.hid hV; clear hL hV
      refine hK _ _ (fun _ => ⟨g0, g1, g2, g3, h0, h1, h2, h3, p0, p1⟩) ?_
      clear hK
      refine AnyZ.one (i := 7) (by kernel_rfl) rfl (fun K hK => ?_)
      go_simp
      refine (refuted_any V FA (SA 0) fc (sc 0) L (St 0) _ (vst 0) w5 HMF.out ((HSM.out 0).keeps (Keeps.of_below (by rw [HZ.out]; exact HB5.out))) hl1 (by have := HS1.out 0; omega) hl2 (by have := HS2.out 0; omega)).mono ?_
      rintro e w6 ⟨rfl, hb6⟩
      have HB6 := Lib.hid (HB5.out.trans (hb6.mono (by omega)))
      replace qa := qa.keeps (Keeps.of_below hb6)
      replace qb := qb.keeps (Keeps.of_below hb6)
      replace qc := qc.keeps (Keeps.of_below hb6)
      have hs6 := hb6.size
      clear hb6 HMF hl1 hl2
      clear g0 g1 g2 g3 h0 h1 h2 h3 p0 p1 p2 p3
      generalize hr0 : tf (CheckP V L (St 0)) = r0 at *
      have HR0 : Hid (tf (CheckP (formVars (joint a b) a.n3 np 0) (formC (joint a b) a.n3 np P Q 0) (St 0)) = r0) := Lib.hid (by rw [← HL0.out, ← HV0.out]; exact hr0)
      clear hr0 HL0 HV0
      refine hK _ _ (fun h => by cases h) ?_
      clear hK
      refine AnyZ.one (i := 8) (by kernel_rfl) rfl (fun K hK => ?_)
      go_simp
      refine hK _ _ (fun h => by cases h) (AnyZ.done (by kernel_rfl) ?_)
      clear hK
      obtain ⟨g0, g1, g2, g3⟩ := qa.four
      obtain ⟨h0, h1, h2, h3⟩ := qb.four
      obtain ⟨p0, p1, p2, p3⟩ := qc.four
      go_upto_region 8 with (fail)
      refine wp_region_z (fun w' => w'.cell? ⟨z, 0, none⟩ = some (.int .i64 a.ins) ∧ w'.cell? ⟨z, 1, none⟩ = some (.slice A1 a.n1 c1) ∧ w'.cell? ⟨z, 2, none⟩ = some (.slice A2 a.n2 c2) ∧ w'.cell? ⟨z, 3, none⟩ = some (.slice A3 a.n3 c3) ∧ w'.cell? ⟨z + 1, 0, none⟩ = some (.int .i64 b.ins) ∧ w'.cell? ⟨z + 1, 1, none⟩ = some (.slice B1 b.n1 d1) ∧ w'.cell? ⟨z + 1, 2, none⟩ = some (.slice B2 b.n2 d2) ∧ w'.cell? ⟨z + 1, 3, none⟩ = some (.slice B3 b.n3 d3) ∧ w'.cell? ⟨z + 1 + 1, 0, none⟩ = some (.slice PA np pc) ∧ w'.cell? ⟨z + 1 + 1, 2, none⟩ = some (.slice (SA 1) (St 1).length (sc 1))) [0, 1, 2, 3, 5, 6] [7, 8] (by kernel_rfl) (by kernel_rfl) (by kernel_rfl) (by rfl) (fun _ _ _ _ e h => ⟨e.symm.trans h.1, h.2⟩) ⟨g0, g1, g2, g3, h0, h1, h2, h3, p0, p2⟩ ?_
      iterate 6
        refine Heads.step (v := ?_) rfl (by rfl) (fun W hW => ?_) ?_
        rotate_left
        · (obtain ⟨s0, s1, s2, s3, s4, s5, s6, s7, s8, s9⟩ := hW; go_simp; try with_reducible rfl)
      refine AnyZ.one (i := 4) (by kernel_rfl) rfl (fun K hK => ?_)
      go_simp
      refine (formed1_any a b A1 A2 A3 B1 B2 B3 c1 c2 c3 d1 d2 d3 PA np pc P Q w6.drew (ha.keeps ((Keeps.of_below (by rw [HZ.out]; exact HB6.out)).trans (Keeps.drew w6))) (hb.keeps ((Keeps.of_below (by rw [HZ.out]; exact HB6.out)).trans (Keeps.drew w6))) HVA.out HVB.out HI.out (hp.keeps ((Keeps.of_below (by rw [HZ.out]; exact HB6.out)).trans (Keeps.drew w6))) HOK.out (by omega)).mono ?_
      rintro e w7 ⟨FA, fc, fv, base, rfl, hcl, hb7⟩
      replace hb7 : Below w6.heap.size w6 w7 := ⟨hb7.os, hb7.tape, hb7.output, hb7.size, hb7.block⟩
      have HB7 := Lib.hid (HB6.out.trans (hb7.mono (by omega)))
      replace qa := qa.keeps (Keeps.of_below hb7)
      replace qb := qb.keeps (Keeps.of_below hb7)
      replace qc := qc.keeps (Keeps.of_below hb7)
      have hs7 := hb7.size
      have HMF := Lib.hid hcl.mat
      have hlen := formC_len (joint a b) a.n3 np P Q 1
      have htot := tot_form (joint a b) a.n3 np P Q 1
      have hl1 : (formC (joint a b) a.n3 np P Q 1).length ≤ 20000000 := by omega
      have hl2 : tot (formC (joint a b) a.n3 np P Q 1) ≤ 20000000 := by omega
      clear hb7 hcl hlen htot
      clear g0 g1 g2 g3 h0 h1 h2 h3 p0 p1 p2 p3
      obtain ⟨g0, g1, g2, g3⟩ := qa.four
      obtain ⟨h0, h1, h2, h3⟩ := qb.four
      obtain ⟨p0, p1, p2, p3⟩ := qc.four
      obtain ⟨L, hL⟩ : ∃ L, L = formC (joint a b) a.n3 np P Q 1 := ⟨_, rfl⟩
      obtain ⟨V, hV⟩ : ∃ V, V = formVars (joint a b) a.n3 np 1 := ⟨_, rfl⟩
      rw [← hL] at hl1 hl2 HMF ⊢
      rw [← hV]
      have HL1 := Lib.hid hL; have HV1 := Lib.hid hV; clear hL hV
      refine hK _ _ (fun _ => ⟨g0, g1, g2, g3, h0, h1, h2, h3, p0, p2⟩) ?_
      clear hK
      refine AnyZ.one (i := 7) (by kernel_rfl) rfl (fun K hK => ?_)
      go_simp
      refine (refuted_any V FA (SA 1) fc (sc 1) L (St 1) _ (vst 1) w7 HMF.out ((HSM.out 1).keeps (Keeps.of_below (by rw [HZ.out]; exact HB7.out))) hl1 (by have := HS1.out 1; omega) hl2 (by have := HS2.out 1; omega)).mono ?_
      rintro e w8 ⟨rfl, hb8⟩
      have HB8 := Lib.hid (HB7.out.trans (hb8.mono (by omega)))
      replace qa := qa.keeps (Keeps.of_below hb8)
      replace qb := qb.keeps (Keeps.of_below hb8)
      replace qc := qc.keeps (Keeps.of_below hb8)
      have hs8 := hb8.size
      clear hb8 HMF hl1 hl2
      clear g0 g1 g2 g3 h0 h1 h2 h3 p0 p1 p2 p3
      generalize hr1 : tf (CheckP V L (St 1)) = r1 at *
      have HR1 : Hid (tf (CheckP (formVars (joint a b) a.n3 np 1) (formC (joint a b) a.n3 np P Q 1) (St 1)) = r1) := Lib.hid (by rw [← HL1.out, ← HV1.out]; exact hr1)
      clear hr1 HL1 HV1
      refine hK _ _ (fun h => by cases h) ?_
      clear hK
      refine AnyZ.one (i := 8) (by kernel_rfl) rfl (fun K hK => ?_)
      go_simp
      refine hK _ _ (fun h => by cases h) (AnyZ.done (by kernel_rfl) ?_)
      clear hK
      obtain ⟨g0, g1, g2, g3⟩ := qa.four
      obtain ⟨h0, h1, h2, h3⟩ := qb.four
      obtain ⟨p0, p1, p2, p3⟩ := qc.four
      go_upto_region 9 with (fail)
      refine wp_region_z (fun w' => w'.cell? ⟨z, 0, none⟩ = some (.int .i64 a.ins) ∧ w'.cell? ⟨z, 1, none⟩ = some (.slice A1 a.n1 c1) ∧ w'.cell? ⟨z, 2, none⟩ = some (.slice A2 a.n2 c2) ∧ w'.cell? ⟨z, 3, none⟩ = some (.slice A3 a.n3 c3) ∧ w'.cell? ⟨z + 1, 0, none⟩ = some (.int .i64 b.ins) ∧ w'.cell? ⟨z + 1, 1, none⟩ = some (.slice B1 b.n1 d1) ∧ w'.cell? ⟨z + 1, 2, none⟩ = some (.slice B2 b.n2 d2) ∧ w'.cell? ⟨z + 1, 3, none⟩ = some (.slice B3 b.n3 d3) ∧ w'.cell? ⟨z + 1 + 1, 0, none⟩ = some (.slice PA np pc) ∧ w'.cell? ⟨z + 1 + 1, 3, none⟩ = some (.slice (SA 2) (St 2).length (sc 2))) [0, 1, 2, 3, 5, 6] [7, 8] (by kernel_rfl) (by kernel_rfl) (by kernel_rfl) (by rfl) (fun _ _ _ _ e h => ⟨e.symm.trans h.1, h.2⟩) ⟨g0, g1, g2, g3, h0, h1, h2, h3, p0, p3⟩ ?_
      iterate 6
        refine Heads.step (v := ?_) rfl (by rfl) (fun W hW => ?_) ?_
        rotate_left
        · (obtain ⟨s0, s1, s2, s3, s4, s5, s6, s7, s8, s9⟩ := hW; go_simp; try with_reducible rfl)
      refine AnyZ.one (i := 4) (by kernel_rfl) rfl (fun K hK => ?_)
      go_simp
      refine (formed2_any a b A1 A2 A3 B1 B2 B3 c1 c2 c3 d1 d2 d3 PA np pc P Q w8.drew (ha.keeps ((Keeps.of_below (by rw [HZ.out]; exact HB8.out)).trans (Keeps.drew w8))) (hb.keeps ((Keeps.of_below (by rw [HZ.out]; exact HB8.out)).trans (Keeps.drew w8))) HVA.out HVB.out HI.out HO.out (hp.keeps ((Keeps.of_below (by rw [HZ.out]; exact HB8.out)).trans (Keeps.drew w8))) HOK.out (by omega)).mono ?_
      rintro e w9 ⟨FA, fc, fv, base, rfl, hcl, hb9⟩
      replace hb9 : Below w8.heap.size w8 w9 := ⟨hb9.os, hb9.tape, hb9.output, hb9.size, hb9.block⟩
      have HB9 := Lib.hid (HB8.out.trans (hb9.mono (by omega)))
      replace qa := qa.keeps (Keeps.of_below hb9)
      replace qb := qb.keeps (Keeps.of_below hb9)
      replace qc := qc.keeps (Keeps.of_below hb9)
      have hs9 := hb9.size
      have HMF := Lib.hid hcl.mat
      have hlen := formC_len (joint a b) a.n3 np P Q 2
      have htot := tot_form (joint a b) a.n3 np P Q 2
      have hl1 : (formC (joint a b) a.n3 np P Q 2).length ≤ 20000000 := by omega
      have hl2 : tot (formC (joint a b) a.n3 np P Q 2) ≤ 20000000 := by omega
      clear hb9 hcl hlen htot
      clear g0 g1 g2 g3 h0 h1 h2 h3 p0 p1 p2 p3
      obtain ⟨g0, g1, g2, g3⟩ := qa.four
      obtain ⟨h0, h1, h2, h3⟩ := qb.four
      obtain ⟨p0, p1, p2, p3⟩ := qc.four
      obtain ⟨L, hL⟩ : ∃ L, L = formC (joint a b) a.n3 np P Q 2 := ⟨_, rfl⟩
      obtain ⟨V, hV⟩ : ∃ V, V = formVars (joint a b) a.n3 np 2 := ⟨_, rfl⟩
      rw [← hL] at hl1 hl2 HMF ⊢
      rw [← hV]
      have HL2 := Lib.hid hL; have HV2 := Lib.hid hV; clear hL hV
      refine hK _ _ (fun _ => ⟨g0, g1, g2, g3, h0, h1, h2, h3, p0, p3⟩) ?_
      clear hK
      refine AnyZ.one (i := 7) (by kernel_rfl) rfl (fun K hK => ?_)
      go_simp
      refine (refuted_any V FA (SA 2) fc (sc 2) L (St 2) _ (vst 2) w9 HMF.out ((HSM.out 2).keeps (Keeps.of_below (by rw [HZ.out]; exact HB9.out))) hl1 (by have := HS1.out 2; omega) hl2 (by have := HS2.out 2; omega)).mono ?_
      rintro e w10 ⟨rfl, hb10⟩
      have HB10 := Lib.hid (HB9.out.trans (hb10.mono (by omega)))
      replace qa := qa.keeps (Keeps.of_below hb10)
      replace qb := qb.keeps (Keeps.of_below hb10)
      replace qc := qc.keeps (Keeps.of_below hb10)
      have hs10 := hb10.size
      clear hb10 HMF hl1 hl2
      clear g0 g1 g2 g3 h0 h1 h2 h3 p0 p1 p2 p3
      generalize hr2 : tf (CheckP V L (St 2)) = r2 at *
      have HR2 : Hid (tf (CheckP (formVars (joint a b) a.n3 np 2) (formC (joint a b) a.n3 np P Q 2) (St 2)) = r2) := Lib.hid (by rw [← HL2.out, ← HV2.out]; exact hr2)
      clear hr2 HL2 HV2
      refine hK _ _ (fun h => by cases h) ?_
      clear hK
      refine AnyZ.one (i := 8) (by kernel_rfl) rfl (fun K hK => ?_)
      go_simp
      refine hK _ _ (fun h => by cases h) (AnyZ.done (by kernel_rfl) ?_)
      clear hK
      have HT : Hid (tf (HoldsP a b np P Q St) = (r0 && r1 && r2)) := Lib.hid (cert_and ⟨HVA.out, HVB.out, HI.out, HO.out⟩ HOK.out HR0.out HR1.out HR2.out)
      clear HR0 HR1 HR2
      cases r0 <;> cases r1 <;> cases r2
      all_goals (go_wp2_with fail; go_ret; exact ⟨ret_bool HT.out.symm, by have := HB10.out; rwa [HZ.out]⟩)
    · rw [tf_no hok]
      have HT := Lib.hid (tf_no (fun h : HoldsP a b np P Q St => hok h.2.1))
      clear hok
      go_wp2_with fail
      go_ret
      exact ⟨ret_bool HT.out.symm, by have := HB4.out; rwa [HZ.out]⟩
  · rw [tf_no hA]
    have HT := Lib.hid (tf_no (fun h : HoldsP a b np P Q St => hA h.1))
    clear hA
    go_wp2_with fail
    go_ret
    exact ⟨ret_bool HT.out.symm, by have := HB2.out; rwa [HZ.out]⟩
end Go.Proofs.Ytkanekacjefcbaa
