/- The law JudgeSound, walked: it returns true. Conditions: the graphs, the pairs, the steps and the trace lie in memory, within the given bulk. -/
import Derived.Test.YtkanekacjefcbaaHoX
import Derived.Test.YtkanekacjefcbaaSoT
import Derived.Test.YtkanekacjefcbaaRefRun
namespace Go.Proofs.Ytkanekacjefcbaa
open Go.RowKit

set_option maxHeartbeats 8000000 in
set_option maxRecDepth 100000 in
theorem judgeSound_walk (a : G) (A1 A2 A3 : Option Addr) (c1 c2 c3 : Nat) (b : G) (B1 B2 B3 : Option Addr) (d1 d2 d3 : Nat) (PA : Option Addr) (np pc : Nat) (P Q : Nat → Int) (SA : Nat → Option Addr) (sc : Nat → Nat) (St : Nat → List (List Int)) (vst : Nat → List Value) (At : Option Addr) (nt ct : Nat) (TL : Nat → Nat) (T : Nat → Nat → Bool) (w : World) (ha : a.At w A1 A2 A3) (hfa : a.Fits) (hb : b.At w B1 B2 B3) (hfb : b.Fits)
    (hp : RowS w 2 PA np (fun k => two (.int .i64 (P k)) (.int .i64 (Q k)))) (hnp : np ≤ 1048576) (hS : ∀ k, MatC w (SA k) (St k) (vst k)) (hs1 : ∀ k, (St k).length ≤ 1048576) (hs2 : ∀ k, tot (St k) ≤ 1048576) (ht : Mat w At nt TL T) (hnt : nt * 24 ≤ 140737488351232) (htl : ∀ i, i < nt → TL i ≤ 140737488351232) :
    Calls Try.prog 5 #[.agg #[.int .i64 a.ins, .slice A1 a.n1 c1, .slice A2 a.n2 c2, .slice A3 a.n3 c3], .agg #[.int .i64 b.ins, .slice B1 b.n1 d1, .slice B2 b.n2 d2, .slice B3 b.n3 d3], .agg #[.slice PA np pc, .slice (SA 0) (St 0).length (sc 0), .slice (SA 1) (St 1).length (sc 1), .slice (SA 2) (St 2).length (sc 2)], .slice At nt ct] w fun e w' => e = .returned (.bool true) ∧ Below w.heap.size w w' := by
  have HSM := Lib.hid hS; have HS1 := Lib.hid hs1; have HS2 := Lib.hid hs2; clear hS hs1 hs2
  have HTL := Lib.hid htl; have HMT := Lib.hid ht; clear htl ht
  go_enter Try.func5, Try.ntmps5
  go_upto_region 1 with (fail)
  have qa := BoxAt.new w [.int .i64 a.ins, .slice A1 a.n1 c1, .slice A2 a.n2 c2, .slice A3 a.n3 c3] 30
  have hbl : Below w.heap.size w (w.alloc (.cells #[.int .i64 a.ins, .slice A1 a.n1 c1, .slice A2 a.n2 c2, .slice A3 a.n3 c3] 30)) := (Below.refl _ _).alloc (Nat.le_refl _) _
  have hz1 : (w.alloc (.cells #[.int .i64 a.ins, .slice A1 a.n1 c1, .slice A2 a.n2 c2, .slice A3 a.n3 c3] 30)).heap.size = w.heap.size + 1 := by simp
  generalize w.alloc (.cells #[.int .i64 a.ins, .slice A1 a.n1 c1, .slice A2 a.n2 c2, .slice A3 a.n3 c3] 30) = v1 at *
  have qb := BoxAt.new v1 [.int .i64 b.ins, .slice B1 b.n1 d1, .slice B2 b.n2 d2, .slice B3 b.n3 d3] 30
  rw [hz1] at qb
  replace qa := qa.keeps (Keeps.alloc v1 (.cells #[.int .i64 b.ins, .slice B1 b.n1 d1, .slice B2 b.n2 d2, .slice B3 b.n3 d3] 30))
  replace hbl := hbl.alloc (by omega) (.cells #[.int .i64 b.ins, .slice B1 b.n1 d1, .slice B2 b.n2 d2, .slice B3 b.n3 d3] 30)
  have hz2 : (v1.alloc (.cells #[.int .i64 b.ins, .slice B1 b.n1 d1, .slice B2 b.n2 d2, .slice B3 b.n3 d3] 30)).heap.size = w.heap.size + 1 + 1 := by simp [hz1]
  generalize v1.alloc (.cells #[.int .i64 b.ins, .slice B1 b.n1 d1, .slice B2 b.n2 d2, .slice B3 b.n3 d3] 30) = v2 at *
  clear hz1
  have qc := BoxAt.new v2 [.slice PA np pc, .slice (SA 0) (St 0).length (sc 0), .slice (SA 1) (St 1).length (sc 1), .slice (SA 2) (St 2).length (sc 2)] 32
  rw [hz2] at qc
  replace qa := qa.keeps (Keeps.alloc v2 (.cells #[.slice PA np pc, .slice (SA 0) (St 0).length (sc 0), .slice (SA 1) (St 1).length (sc 1), .slice (SA 2) (St 2).length (sc 2)] 32))
  replace qb := qb.keeps (Keeps.alloc v2 (.cells #[.slice PA np pc, .slice (SA 0) (St 0).length (sc 0), .slice (SA 1) (St 1).length (sc 1), .slice (SA 2) (St 2).length (sc 2)] 32))
  replace hbl := hbl.alloc (by omega) (.cells #[.slice PA np pc, .slice (SA 0) (St 0).length (sc 0), .slice (SA 1) (St 1).length (sc 1), .slice (SA 2) (St 2).length (sc 2)] 32)
  have hz3 : (v2.alloc (.cells #[.slice PA np pc, .slice (SA 0) (St 0).length (sc 0), .slice (SA 1) (St 1).length (sc 1), .slice (SA 2) (St 2).length (sc 2)] 32)).heap.size = w.heap.size + 1 + 1 + 1 := by simp [hz2]
  generalize v2.alloc (.cells #[.slice PA np pc, .slice (SA 0) (St 0).length (sc 0), .slice (SA 1) (St 1).length (sc 1), .slice (SA 2) (St 2).length (sc 2)] 32) = w1 at *
  clear hz2
  have HB1 := Lib.hid hbl; clear hbl
  have hs1 : w.heap.size + 3 ≤ w1.heap.size := by omega
  clear hz3
  go_wp2_with fail
  obtain ⟨hM, hbW⟩ := one_mat w1
  refine (holds_any oneG oneG none none none none none none 0 0 0 0 0 0 none 0 0 (fun _ => 0) (fun _ => 0) (oneA w1.heap.size) (fun _ => 1) (fun _ => [[]]) (fun _ => [.slice none 0 0]) (oneW w1) (oneG_at _) (oneG_at _) oneG_fits oneG_fits (fun h => absurd h (by omega)) (by omega) hM (fun _ => by simp) (fun _ => by simp [tot])).mono ?_
  rintro e w2 ⟨rfl, hb2⟩
  rw [tf_yes (one_holds _ _)]
  have HB2 : Hid (Below w.heap.size w w2) := Lib.hid ((HB1.out.trans (hbW.mono (by omega))).trans (hb2.mono (by have := hbW.size; omega)))
  have hk2 := (Keeps.of_below hbW).trans (Keeps.of_below hb2)
  replace qa := qa.keeps hk2
  replace qb := qb.keeps hk2
  replace qc := qc.keeps hk2
  clear hk2 hb2 hbW hM HB1 hs1
  obtain ⟨g0, g1, g2, g3⟩ := qa.four
  obtain ⟨h0, h1, h2, h3⟩ := qb.four
  obtain ⟨p0, p1, p2, p3⟩ := qc.four
  go_wp2_with fail
  refine (holds_any a b A1 A2 A3 B1 B2 B3 c1 c2 c3 d1 d2 d3 PA np pc P Q SA sc St vst w2 (ha.keeps (Keeps.of_below HB2.out)) (hb.keeps (Keeps.of_below HB2.out)) hfa hfb (hp.keeps (Keeps.of_below HB2.out)) hnp (fun k => (HSM.out k).keeps (Keeps.of_below HB2.out)) HS1.out HS2.out).mono ?_
  rintro e w3 ⟨rfl, hb3⟩
  have HB3 := Lib.hid (HB2.out.trans (hb3.mono HB2.out.size))
  replace qa := qa.keeps (Keeps.of_below hb3)
  replace qb := qb.keeps (Keeps.of_below hb3)
  replace qc := qc.keeps (Keeps.of_below hb3)
  clear hb3 g0 g1 g2 g3 h0 h1 h2 h3 p0 p1 p2 p3
  obtain ⟨g0, g1, g2, g3⟩ := qa.four
  obtain ⟨h0, h1, h2, h3⟩ := qb.four
  obtain ⟨p0, p1, p2, p3⟩ := qc.four
  obtain ⟨r, hr⟩ : ∃ r, r = tf (HoldsP a b np P Q St) := ⟨_, rfl⟩
  rw [← hr]
  have HR := Lib.hid hr; clear hr
  cases r with
  | false =>
    go_wp2_with fail
    go_ret
    exact ⟨rfl, HB3.out⟩
  | true =>
    have hh := tf_eq_true.1 HR.out.symm
    have HSO := Lib.hid (holds_sound hh (fun c i => decide (i < TL c) && T c i))
    have HVA := Lib.hid hh.1.1; have HVB := Lib.hid hh.1.2.1; have H3 := Lib.hid hh.1.2.2.2
    have hn3 := hh.1.1.n3
    clear hh
    go_upto_region 7 with (fail)
    refine wp_region_z (fun w' => w'.cell? ⟨w.heap.size, 0, none⟩ = some (.int .i64 a.ins) ∧ w'.cell? ⟨w.heap.size, 1, none⟩ = some (.slice A1 a.n1 c1) ∧ w'.cell? ⟨w.heap.size, 2, none⟩ = some (.slice A2 a.n2 c2) ∧ w'.cell? ⟨w.heap.size, 3, none⟩ = some (.slice A3 a.n3 c3) ∧ w'.cell? ⟨w.heap.size + 1, 0, none⟩ = some (.int .i64 b.ins) ∧ w'.cell? ⟨w.heap.size + 1, 1, none⟩ = some (.slice B1 b.n1 d1) ∧ w'.cell? ⟨w.heap.size + 1, 2, none⟩ = some (.slice B2 b.n2 d2) ∧ w'.cell? ⟨w.heap.size + 1, 3, none⟩ = some (.slice B3 b.n3 d3)) [0, 1, 2, 3, 5, 6] [7, 8, 9, 10] (by kernel_rfl) (by kernel_rfl) (by kernel_rfl) (by rfl) (fun _ _ _ _ e h => ⟨e.symm.trans h.1, h.2⟩) ⟨g0, g1, g2, g3, h0, h1, h2, h3⟩ ?_
    iterate 6
      refine Heads.step (v := ?_) rfl (by rfl) (fun W hW => ?_) ?_
      rotate_left
      · (obtain ⟨s0, s1, s2, s3, s4, s5, s6, s7⟩ := hW; go_simp; try with_reducible rfl)
    refine AnyZ.one (i := 4) (by kernel_rfl) rfl (fun K hK => ?_)
    go_simp
    have hkd := Lib.hid ((Keeps.of_below HB3.out).trans (Keeps.drew w3))
    refine (refRun_any a A1 A2 A3 c1 c2 c3 At nt ct TL T w3.drew (ha.keeps hkd.out) HVA.out (HMT.out.keeps hkd.out) hnt HTL.out).mono ?_
    rintro e w4 ⟨RA, rc, RB, RD, rfl, hm, hb4⟩
    replace hb4 : Below w3.heap.size w3 w4 := ⟨hb4.os, hb4.tape, hb4.output, hb4.size, hb4.block⟩
    have HB4 := Lib.hid (HB3.out.trans (hb4.mono HB3.out.size))
    replace qa := qa.keeps (Keeps.of_below hb4)
    replace qb := qb.keeps (Keeps.of_below hb4)
    have hmm := hm.mat
    clear hb4 hm g0 g1 g2 g3 h0 h1 h2 h3 hkd
    obtain ⟨g0, g1, g2, g3⟩ := qa.four
    obtain ⟨h0, h1, h2, h3⟩ := qb.four
    refine hK _ _ (fun _ => ⟨g0, g1, g2, g3, h0, h1, h2, h3⟩) ?_
    clear hK
    refine AnyZ.one (i := 7) (by kernel_rfl) rfl (fun K hK => ?_)
    go_simp
    refine (refRun_any b B1 B2 B3 d1 d2 d3 At nt ct TL T w4 (hb.keeps (Keeps.of_below HB4.out)) HVB.out (HMT.out.keeps (Keeps.of_below HB4.out)) hnt HTL.out).mono ?_
    rintro e w5 ⟨RA', rc', RB', RD', rfl, hm, hb5⟩
    have HB5 := Lib.hid (HB4.out.trans (hb5.mono HB4.out.size))
    replace hmm := hmm.keeps (Keeps.of_below hb5)
    have hnn := hm.mat
    clear hb5 hm g0 g1 g2 g3 h0 h1 h2 h3
    refine hK _ _ (fun h => by cases h) ?_
    clear hK
    refine AnyZ.one (i := 8) (by kernel_rfl) rfl (fun K hK => ?_)
    go_simp
    refine (sameRows_any RA RA' nt nt rc rc' _ _ _ _ w5 hmm hnn (by omega) (fun i _ => by omega)).mono ?_
    rintro e w6 ⟨rfl, q, rfl⟩
    rw [tf_yes ⟨rfl, fun i _ => ⟨H3.out, fun j hj => HSO.out i j hj⟩⟩]
    have HB6 : Hid (Below w.heap.size w (w5.drewN q)) := Lib.hid ⟨HB5.out.os, HB5.out.tape, HB5.out.output, HB5.out.size, HB5.out.block⟩
    refine hK _ _ (fun h => by cases h) ?_
    clear hK
    refine AnyZ.one (i := 9) (by kernel_rfl) rfl (fun K hK => ?_)
    go_simp
    refine hK _ _ (fun h => by cases h) ?_
    clear hK
    refine AnyZ.one (i := 10) (by kernel_rfl) rfl (fun K hK => ?_)
    go_simp
    refine hK _ _ (fun h => by cases h) (AnyZ.done (by kernel_rfl) ?_)
    clear hK
    go_wp2_with fail
    go_ret
    exact ⟨rfl, HB6.out⟩
end Go.Proofs.Ytkanekacjefcbaa
