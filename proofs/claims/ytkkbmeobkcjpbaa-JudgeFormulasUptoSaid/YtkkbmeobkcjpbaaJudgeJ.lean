/- The law's joinedOk and the law itself, walked: they return true. Conditions: the graphs and the pairs lie in memory and are within reach, the pairs are at most two millions. -/
import Derived.Test.YtkkbmeobkcjpbaaJfE0
import Derived.Test.YtkkbmeobkcjpbaaJfE1
import Derived.Test.YtkkbmeobkcjpbaaJfE2
import Derived.Test.YtkkbmeobkcjpbaaJfP0
import Derived.Test.YtkkbmeobkcjpbaaJfP1
import Derived.Test.YtkkbmeobkcjpbaaJfP2
import Derived.Test.YtkkbmeobkcjpbaaSameCJ
import Derived.Test.YtkkbmeobkcjpbaaAlikeJ
import Derived.Test.YtkkbmeobkcjpbaaTinyJ
namespace Go.Proofs.Ytkkbmeobkcjpbaa
open Go.RowKit

section
variable (a b : G) (A1 A2 A3 B1 B2 B3 : Option Addr) (c1 c2 c3 d1 d2 d3 : Nat) (PA : Option Addr) (np pc : Nat) (P Q : Nat → Int) (w : World) (ha : a.At w A1 A2 A3) (hb : b.At w B1 B2 B3) (hva : a.Valid) (hvb : b.Valid) (hi : a.ins = b.ins) (h3 : a.n3 = b.n3)
    (hp : RowS w 2 PA np (fun k => two (.int .i64 (P k)) (.int .i64 (Q k)))) (hok : PairsOk (joint a b) np P Q) (hnp : np ≤ 2000000) (k : Nat) (hk : k < 3)
include ha hb hva hvb hi h3 hp hok hnp hk
theorem formula_any :
    Calls Try.prog 11 #[.agg #[.int .i64 a.ins, .slice A1 a.n1 c1, .slice A2 a.n2 c2, .slice A3 a.n3 c3], .agg #[.int .i64 b.ins, .slice B1 b.n1 d1, .slice B2 b.n2 d2, .slice B3 b.n3 d3], .slice PA np pc, .int .i64 k] w (FormP (formVars (joint a b) a.n3 np k) (formC (joint a b) a.n3 np P Q k) w) := by
  obtain rfl | rfl | rfl : k = 0 ∨ k = 1 ∨ k = 2 := by omega
  · exact formula0_any a b A1 A2 A3 B1 B2 B3 c1 c2 c3 d1 d2 d3 PA np pc P Q w ha hb hva hvb hi hp hok hnp
  · exact formula1_any a b A1 A2 A3 B1 B2 B3 c1 c2 c3 d1 d2 d3 PA np pc P Q w ha hb hva hvb hi hp hok hnp
  · exact formula2_any a b A1 A2 A3 B1 B2 B3 c1 c2 c3 d1 d2 d3 PA np pc P Q w ha hb hva hvb hi h3 hp hok hnp
theorem formed_any :
    Calls Try.prog 12 #[.agg #[.int .i64 a.ins, .slice A1 a.n1 c1, .slice A2 a.n2 c2, .slice A3 a.n3 c3], .agg #[.int .i64 b.ins, .slice B1 b.n1 d1, .slice B2 b.n2 d2, .slice B3 b.n3 d3], .slice PA np pc, .int .i64 k] w (FormP (formVars (joint a b) a.n3 np k) (formC (joint a b) a.n3 np P Q k) w) := by
  obtain rfl | rfl | rfl : k = 0 ∨ k = 1 ∨ k = 2 := by omega
  · exact formed0_any a b A1 A2 A3 B1 B2 B3 c1 c2 c3 d1 d2 d3 PA np pc P Q w ha hb hva hvb hi hp hok hnp
  · exact formed1_any a b A1 A2 A3 B1 B2 B3 c1 c2 c3 d1 d2 d3 PA np pc P Q w ha hb hva hvb hi hp hok hnp
  · exact formed2_any a b A1 A2 A3 B1 B2 B3 c1 c2 c3 d1 d2 d3 PA np pc P Q w ha hb hva hvb hi h3 hp hok hnp
end

/-- no clause is long -/
def Short (N : Nat) (L : List (List Int)) : Prop := ∀ l, l ∈ L → l.length ≤ N
theorem Short.app {N : Nat} {L M : List (List Int)} (h : Short N L) (k : Short N M) : Short N (L ++ M) := fun l hl => (List.mem_append.1 hl).elim (h l) (k l)
theorem Short.up {N : Nat} {f : Nat → List (List Int)} (h : ∀ i, Short N (f i)) : ∀ k, Short N (upC f k)
  | 0 => fun l hl => by simp [upC] at hl
  | k + 1 => (Short.up h k).app (h k)
theorem short_frame (g : G) (fr : Int) (N : Nat) (h : 3 ≤ N) : Short N (frameC g fr) := fun l hl => by
  unfold frameC at hl
  rcases List.mem_cons.1 hl with rfl | hl
  · simp; omega
  · refine Short.up (f := gateC g fr) (fun i l hl => ?_) g.n2 l hl
    simp [gateC] at hl
    rcases hl with rfl | rfl | rfl <;> simp <;> omega
theorem short_unlike (g : G) (fr frs : Int) (n N : Nat) (P Q : Nat → Int) (h : 3 ≤ N) (hn : n ≤ N) : Short N (unlikeC g fr frs n P Q) := by
  unfold unlikeC
  refine Short.app (Short.up (fun i l hl => ?_) n) (fun l hl => ?_)
  · simp [diffC] at hl
    rcases hl with rfl | rfl <;> simp <;> omega
  · simp at hl
    subst hl
    simpa using hn
theorem short_form (g : G) (m n N : Nat) (P Q : Nat → Int) (k : Nat) (h : 3 ≤ N) (hn : n ≤ N) (hm : m ≤ N) : Short N (formC g m n P Q k) := by
  have hs : ∀ fr : Int, Short N (upC (sameC g fr P Q) n) := fun fr => Short.up (fun i l hl => by
    simp [sameC] at hl
    rcases hl with rfl | rfl <;> simp <;> omega) n
  unfold formC
  split
  · exact ((short_frame g _ N h).app (Short.up (fun i l hl => by simp [initC] at hl; subst hl; simp; omega) _)).app (short_unlike g _ _ n N P Q h hn)
  · split
    · refine ((((short_frame g _ N h).app (short_frame g _ N h)).app (Short.up (fun i l hl => ?_) _)).app (hs 0)).app (short_unlike g _ _ n N P Q h hn)
      simp [nextC] at hl
      rcases hl with rfl | rfl <;> simp <;> omega
    · exact ((short_frame g _ N h).app (hs 0)).app (short_unlike g _ _ m N _ _ h hm)
theorem formC_len (g : G) (m n : Nat) (P Q : Nat → Int) (k : Nat) : (formC g m n P Q k).length ≤ 3 + 6 * g.n2 + 2 * g.n1 + 4 * n + 2 * m := by
  unfold formC
  split
  · simp only [List.length_append, frameC_len, initC_len, unlikeC, diffC_len]; simp; omega
  · split
    · simp only [List.length_append, frameC_len, nextC_len, sameC_len, unlikeC, diffC_len]; simp; omega
    · simp only [List.length_append, frameC_len, sameC_len, unlikeC, diffC_len]; simp; omega
theorem Short.at_ {N : Nat} {L : List (List Int)} (h : Short N L) (i : Nat) : (L.getD i []).length ≤ N := by
  rw [List.getD_eq_getElem?_getD]
  cases hh : L[i]? with
  | none => simp
  | some l => exact h l (List.mem_of_getElem? hh)
theorem MatI.keeps {w w1 : World} {A : Option Addr} {n : Nat} {len : Nat → Nat} {R : Nat → Nat → Int} (h : MatI w A n len R) (k : Keeps w w1) : MatI w1 A n len R := by
  obtain ⟨RA, RC, h1, h2⟩ := h
  exact ⟨RA, RC, h1.keeps k, fun i hi => (h2 i hi).keeps k⟩
set_option maxHeartbeats 8000000 in
set_option maxRecDepth 100000 in
theorem joinedOk_any (a b : G) (A1 A2 A3 B1 B2 B3 : Option Addr) (c1 c2 c3 d1 d2 d3 : Nat) (PA : Option Addr) (np pc : Nat) (P Q : Nat → Int) (w : World) (ha : a.At w A1 A2 A3) (hb : b.At w B1 B2 B3) (hfa : a.Fits) (hfb : b.Fits)
    (hp : RowS w 2 PA np (fun k => two (.int .i64 (P k)) (.int .i64 (Q k)))) (hnp : np ≤ 2000000) :
    Calls Try.prog 4 #[.agg #[.int .i64 a.ins, .slice A1 a.n1 c1, .slice A2 a.n2 c2, .slice A3 a.n3 c3], .agg #[.int .i64 b.ins, .slice B1 b.n1 d1, .slice B2 b.n2 d2, .slice B3 b.n3 d3], .slice PA np pc] w fun e w' => e = .returned (.bool true) ∧ Below w.heap.size w w' := by
  go_enter Try.func4, Try.ntmps4
  go_upto_region 1 with (fail)
  have qa := BoxAt.new w [.int .i64 a.ins, .slice A1 a.n1 c1, .slice A2 a.n2 c2, .slice A3 a.n3 c3] 26
  have hbl : Below w.heap.size w (w.alloc (.cells #[.int .i64 a.ins, .slice A1 a.n1 c1, .slice A2 a.n2 c2, .slice A3 a.n3 c3] 26)) := (Below.refl _ _).alloc (Nat.le_refl _) _
  have hz1 : (w.alloc (.cells #[.int .i64 a.ins, .slice A1 a.n1 c1, .slice A2 a.n2 c2, .slice A3 a.n3 c3] 26)).heap.size = w.heap.size + 1 := by simp
  generalize w.alloc (.cells #[.int .i64 a.ins, .slice A1 a.n1 c1, .slice A2 a.n2 c2, .slice A3 a.n3 c3] 26) = v1 at *
  have qb := BoxAt.new v1 [.int .i64 b.ins, .slice B1 b.n1 d1, .slice B2 b.n2 d2, .slice B3 b.n3 d3] 26
  rw [hz1] at qb
  replace qa := qa.keeps (Keeps.alloc v1 (.cells #[.int .i64 b.ins, .slice B1 b.n1 d1, .slice B2 b.n2 d2, .slice B3 b.n3 d3] 26))
  replace hbl := hbl.alloc (by omega) (.cells #[.int .i64 b.ins, .slice B1 b.n1 d1, .slice B2 b.n2 d2, .slice B3 b.n3 d3] 26)
  have hz2 : (v1.alloc (.cells #[.int .i64 b.ins, .slice B1 b.n1 d1, .slice B2 b.n2 d2, .slice B3 b.n3 d3] 26)).heap.size = w.heap.size + 1 + 1 := by simp [hz1]
  generalize v1.alloc (.cells #[.int .i64 b.ins, .slice B1 b.n1 d1, .slice B2 b.n2 d2, .slice B3 b.n3 d3] 26) = w1 at *
  clear hz1
  have HBL := Lib.hid hbl; clear hbl
  have hs6 : w.heap.size + 2 ≤ w1.heap.size := by omega
  have hs6b : w1.heap.size ≤ w.heap.size + 2 := by omega
  have HSZ := Lib.hid hz2; clear hz2
  have hs1 := HBL.out.size
  obtain ⟨g0, g1, g2, g3⟩ := qa.four
  obtain ⟨e0, e1, e2, e3⟩ := qb.four
  go_wp2_with fail
  refine (alike_any a b A1 A2 A3 B1 B2 B3 c1 c2 c3 d1 d2 d3 _ (ha.keeps (Keeps.of_below HBL.out)) (hb.keeps (Keeps.of_below HBL.out)) hfa hfb).mono ?_
  rintro e w2 ⟨rfl, hb2⟩
  have HB2 := Lib.hid (Below.then_call HBL.out hb2 (by omega))
  replace qa := qa.keeps (Keeps.of_below hb2)
  replace qb := qb.keeps (Keeps.of_below hb2)
  have hs2 := hb2.size
  clear hb2 g0 g1 g2 g3 e0 e1 e2 e3
  by_cases hA : AlikeP a b
  · have ht : tf (AlikeP a b) = true := tf_yes hA
    rw [ht]
    clear ht
    obtain ⟨hva, hvb, hi, h3⟩ := hA
    have HI := Lib.hid hi; clear hi
    have H3 := Lib.hid h3; clear h3
    have hja := hva.small
    have hjb := hvb.small
    obtain ⟨a1, a2, a3, a4, a5⟩ := hja
    obtain ⟨b1, b2, b3, b4, b5⟩ := hjb
    obtain ⟨g0, g1, g2, g3⟩ := qa.four
    obtain ⟨e0, e1, e2, e3⟩ := qb.four
    go_wp2_with fail
    refine (join_any a b A1 A2 A3 B1 B2 B3 c1 c2 c3 d1 d2 d3 _ (ha.keeps (Keeps.of_below HB2.out)) (hb.keeps (Keeps.of_below HB2.out)) hva hvb).mono ?_
    rintro e w3 ⟨J1, J2, J3, k1, k2, k3, rfl, HG, hb3⟩
    have HB3 := Lib.hid (Below.then_call HB2.out hb3 (by omega))
    replace qa := qa.keeps (Keeps.of_below hb3)
    replace qb := qb.keeps (Keeps.of_below hb3)
    have hs3 := hb3.size
    clear hb3 g0 g1 g2 g3 e0 e1 e2 e3
    have hn1 : (joint a b).n1 ≤ 12000 := by (show a.n1 + b.n1 ≤ 12000); omega
    have hn2 : (joint a b).n2 ≤ 120000 := by (show a.n2 + b.n2 ≤ 120000); omega
    have hn3 : (joint a b).n3 ≤ 120000 := by (show a.n3 + b.n3 ≤ 120000); omega
    have hn0 : (joint a b).ins = a.ins := rfl
    have hni : 0 ≤ (joint a b).ins ∧ (joint a b).ins ≤ 60000 := by omega
    obtain ⟨hni, hnj⟩ := hni
    clear hn0
    generalize hgj : joint a b = g at *
    have HGJ := Lib.hid hgj; clear hgj
    go_upto_region 5 with (fail)
    have qg := BoxAt.new w3 [.int .i64 g.ins, .slice J1 g.n1 k1, .slice J2 g.n2 k2, .slice J3 g.n3 k3] 26
    have HB4 := Lib.hid (HB3.out.alloc (by omega) (.cells #[.int .i64 g.ins, .slice J1 g.n1 k1, .slice J2 g.n2 k2, .slice J3 g.n3 k3] 26))
    replace qa := qa.keeps (Keeps.alloc w3 (.cells #[.int .i64 g.ins, .slice J1 g.n1 k1, .slice J2 g.n2 k2, .slice J3 g.n3 k3] 26))
    replace qb := qb.keeps (Keeps.alloc w3 (.cells #[.int .i64 g.ins, .slice J1 g.n1 k1, .slice J2 g.n2 k2, .slice J3 g.n3 k3] 26))
    replace HG := HG.keeps (Keeps.alloc w3 (.cells #[.int .i64 g.ins, .slice J1 g.n1 k1, .slice J2 g.n2 k2, .slice J3 g.n3 k3] 26))
    have hs4 : w3.heap.size + 1 ≤ (w3.alloc (.cells #[.int .i64 g.ins, .slice J1 g.n1 k1, .slice J2 g.n2 k2, .slice J3 g.n3 k3] 26)).heap.size := by simp
    generalize w3.alloc (.cells #[.int .i64 g.ins, .slice J1 g.n1 k1, .slice J2 g.n2 k2, .slice J3 g.n3 k3] 26) = w4 at *
    generalize w3.heap.size = bg at *
    obtain ⟨p0, p1, p2, p3⟩ := qg.four
    obtain ⟨g0, g1, g2, g3⟩ := qa.four
    obtain ⟨e0, e1, e2, e3⟩ := qb.four
    refine wp_region_z (fun w' => w'.cell? ⟨bg, 0, none⟩ = some (.int .i64 g.ins) ∧ w'.cell? ⟨bg, 1, none⟩ = some (.slice J1 g.n1 k1) ∧ w'.cell? ⟨bg, 2, none⟩ = some (.slice J2 g.n2 k2) ∧ w'.cell? ⟨bg, 3, none⟩ = some (.slice J3 g.n3 k3) ∧ w'.cell? ⟨w.heap.size, 0, none⟩ = some (.int .i64 a.ins) ∧ w'.cell? ⟨w.heap.size, 1, none⟩ = some (.slice A1 a.n1 c1) ∧ w'.cell? ⟨w.heap.size, 2, none⟩ = some (.slice A2 a.n2 c2) ∧ w'.cell? ⟨w.heap.size, 3, none⟩ = some (.slice A3 a.n3 c3) ∧ w'.cell? ⟨w.heap.size + 1, 0, none⟩ = some (.int .i64 b.ins) ∧ w'.cell? ⟨w.heap.size + 1, 1, none⟩ = some (.slice B1 b.n1 d1) ∧ w'.cell? ⟨w.heap.size + 1, 2, none⟩ = some (.slice B2 b.n2 d2) ∧ w'.cell? ⟨w.heap.size + 1, 3, none⟩ = some (.slice B3 b.n3 d3)) [0, 1, 2] [4, 5] (by kernel_rfl) (by kernel_rfl) (by kernel_rfl) (by rfl) (fun _ _ _ _ e h => ⟨e.symm.trans h.1, h.2⟩) ⟨p0, p1, p2, p3, g0, g1, g2, g3, e0, e1, e2, e3⟩ ?_
    iterate 3
      refine Heads.step (v := ?_) rfl (by rfl) (fun W hW => ?_) ?_
      rotate_left
      · (obtain ⟨s0, s1, s2, s3, s4, s5, s6, s7, s8, s9, s10, s11⟩ := hW; go_simp; try with_reducible rfl)
    refine AnyZ.one (i := 3) (by kernel_rfl) rfl (fun K hK => ?_)
    go_simp
    have hJ := fun W (hW : Keeps w W) => joint_any a b A1 A2 A3 B1 B2 B3 c1 c2 c3 d1 d2 d3 W (ha.keeps hW) (hb.keeps hW) hva hvb
    rw [HGJ.out] at hJ
    replace hJ := Lib.hid hJ
    refine (hJ.out w4.drew ((Keeps.of_below HB4.out).trans (Keeps.drew w4))).mono ?_
    rintro e w5 ⟨L1, L2, L3, l1, l2, l3, rfl, HG5, hb5⟩
    replace hb5 : Below w4.heap.size w4 w5 := ⟨hb5.os, hb5.tape, hb5.output, hb5.size, hb5.block⟩
    have HB5 := Lib.hid (Below.then_call HB4.out hb5 (by have := HB4.out.size; omega))
    replace p0 := Keeps.of_below hb5 _ _ p0
    replace p1 := Keeps.of_below hb5 _ _ p1
    replace p2 := Keeps.of_below hb5 _ _ p2
    replace p3 := Keeps.of_below hb5 _ _ p3
    replace g0 := Keeps.of_below hb5 _ _ g0
    replace g1 := Keeps.of_below hb5 _ _ g1
    replace g2 := Keeps.of_below hb5 _ _ g2
    replace g3 := Keeps.of_below hb5 _ _ g3
    replace e0 := Keeps.of_below hb5 _ _ e0
    replace e1 := Keeps.of_below hb5 _ _ e1
    replace e2 := Keeps.of_below hb5 _ _ e2
    replace e3 := Keeps.of_below hb5 _ _ e3
    replace qa := qa.keeps (Keeps.of_below hb5)
    replace qb := qb.keeps (Keeps.of_below hb5)
    replace HG := HG.keeps (Keeps.of_below hb5)
    have hs5 := hb5.size
    clear hb5
    refine hK _ _ (fun _ => ⟨p0, p1, p2, p3, g0, g1, g2, g3, e0, e1, e2, e3⟩) ?_
    clear hK
    refine AnyZ.one (i := 4) (by kernel_rfl) rfl (fun K hK => ?_)
    go_simp
    refine (sameGraph_any g J1 J2 J3 L1 L2 L3 k1 k2 k3 l1 l2 l3 _ HG HG5 ⟨by omega, by omega, by omega⟩).mono ?_
    rintro e w6 ⟨rfl, hb6⟩
    have HB6 := Lib.hid (Below.then_call HB5.out hb6 (by have := HB5.out.size; omega))
    replace qa := qa.keeps (Keeps.of_below hb6)
    replace qb := qb.keeps (Keeps.of_below hb6)
    have hs6 := hb6.size
    clear hb6 p0 p1 p2 p3 g0 g1 g2 g3 e0 e1 e2 e3 HG HG5
    refine hK _ _ (fun h => by cases h) ?_
    clear hK
    refine AnyZ.one (i := 5) (by kernel_rfl) rfl (fun K hK => ?_)
    go_simp
    refine hK _ _ (fun h => by cases h) (AnyZ.done (by kernel_rfl) ?_)
    clear hK
    obtain ⟨g0, g1, g2, g3⟩ := qa.four
    obtain ⟨e0, e1, e2, e3⟩ := qb.four
    go_wp2_with fail
    refine (hJ.out _ (Keeps.of_below HB6.out)).mono ?_
    rintro e w7 ⟨M1, M2, M3, m1, m2, m3, rfl, _, hb7⟩
    have HB7 := Lib.hid (Below.then_call HB6.out hb7 (by have := HB6.out.size; omega))
    replace qa := qa.keeps (Keeps.of_below hb7)
    replace qb := qb.keeps (Keeps.of_below hb7)
    have hs7 := hb7.size
    clear hb7 g0 g1 g2 g3 e0 e1 e2 e3 hJ
    go_wp2_with fail
    refine (paired_any g M1 M2 M3 m1 m2 m3 PA np pc P Q _ (hp.keeps (Keeps.of_below HB7.out)) hni (by omega) (by omega) (by omega) (by omega)).mono ?_
    rintro e w8 ⟨rfl, hb8⟩
    have HB8 := Lib.hid (Below.then_call HB7.out hb8 (by have := HB7.out.size; omega))
    replace qa := qa.keeps (Keeps.of_below hb8)
    replace qb := qb.keeps (Keeps.of_below hb8)
    have hs8 := hb8.size
    clear hb8
    by_cases hok : PairsOk g np P Q
    · have ht : tf (PairsOk g np P Q) = true := tf_yes hok
      rw [ht]
      clear ht
      have HOK : Hid (PairsOk (joint a b) np P Q) := Lib.hid (by rw [HGJ.out]; exact hok)
      clear hok
      have hFE : Hid (∀ (W : World), Keeps w W → ∀ k : Nat, k < 3 → Calls Try.prog 11 #[.agg #[.int .i64 a.ins, .slice A1 a.n1 c1, .slice A2 a.n2 c2, .slice A3 a.n3 c3], .agg #[.int .i64 b.ins, .slice B1 b.n1 d1, .slice B2 b.n2 d2, .slice B3 b.n3 d3], .slice PA np pc, .int .i64 k] W (FormP (formVars g a.n3 np k) (formC g a.n3 np P Q k) W)) := Lib.hid (fun W hW k hk => by
        have h := formula_any a b A1 A2 A3 B1 B2 B3 c1 c2 c3 d1 d2 d3 PA np pc P Q W (ha.keeps hW) (hb.keeps hW) hva hvb HI.out H3.out (hp.keeps hW) HOK.out hnp k hk
        rwa [HGJ.out] at h)
      have hFD : Hid (∀ (W : World), Keeps w W → ∀ k : Nat, k < 3 → Calls Try.prog 12 #[.agg #[.int .i64 a.ins, .slice A1 a.n1 c1, .slice A2 a.n2 c2, .slice A3 a.n3 c3], .agg #[.int .i64 b.ins, .slice B1 b.n1 d1, .slice B2 b.n2 d2, .slice B3 b.n3 d3], .slice PA np pc, .int .i64 k] W (FormP (formVars g a.n3 np k) (formC g a.n3 np P Q k) W)) := Lib.hid (fun W hW k hk => by
        have h := formed_any a b A1 A2 A3 B1 B2 B3 c1 c2 c3 d1 d2 d3 PA np pc P Q W (ha.keeps hW) (hb.keeps hW) hva hvb HI.out H3.out (hp.keeps hW) HOK.out hnp k hk
        rwa [HGJ.out] at h)
      go_wp2_with fail
      go_loopw [10] (fun ix wi => ∃ k : Nat, k ≤ 3 ∧ ix = .int .i64 k ∧ Below w8.heap.size w8 wi) (fun ix _ => 3 - (intOf ix).toNat)
      case atStart => exact ⟨0, by omega, rfl, Below.refl _ _⟩
      case round =>
        obtain ⟨k, hk, rfl, HD⟩ := hrel
        have HDH := Lib.hid HD; clear HD
        have hkp := Lib.hid (Keeps.of_below HDH.out)
        by_cases hlt : k < 3
        · have hki : (k : Int) < 3 := by omega
          have hfl := formC_len g a.n3 np P Q k
          have hsh := Lib.hid (short_form g a.n3 np 2000000 P Q k (by omega) hnp (by omega))
          obtain ⟨g0, g1, g2, g3⟩ := (qa.keeps hkp.out).four
          obtain ⟨e0, e1, e2, e3⟩ := (qb.keeps hkp.out).four
          have hK0 := Lib.hid ((Keeps.of_below HB8.out).trans hkp.out)
          have hF1 := Lib.hid (hFE.out wr hK0.out k hlt)
          have hF2 := Lib.hid (fun W (hW : Keeps wr W) => hFD.out W (hK0.out.trans hW) k hlt)
          generalize formC g a.n3 np P Q k = FC at *
          generalize formVars g a.n3 np k = FV at *
          have hne : (FV != FV) = false := by simp
          go_wp2_with fail
          refine hF1.out.mono ?_
          rintro e wa ⟨X1, x1, vs1, ba1, rfl, HC1, hba⟩
          have hM1 := HC1.mat
          replace hM1 := Lib.hid hM1
          clear HC1
          have hka := Lib.hid (Keeps.of_below hba)
          have HDA := Lib.hid (Below.then_call HDH.out hba HDH.out.size)
          have hsa := hba.size
          clear hba
          replace g0 := hka.out _ _ g0
          replace g1 := hka.out _ _ g1
          replace g2 := hka.out _ _ g2
          replace g3 := hka.out _ _ g3
          replace e0 := hka.out _ _ e0
          replace e1 := hka.out _ _ e1
          replace e2 := hka.out _ _ e2
          replace e3 := hka.out _ _ e3
          go_upto_region 15 with (fail)
          have z0 := (BoxAt.new wa [.int .i64 FV, .slice X1 FC.length x1] 35) 0 _ rfl
          have z1 := (BoxAt.new wa [.int .i64 FV, .slice X1 FC.length x1] 35) 1 _ rfl
          have hkb := Lib.hid (hka.out.trans (Keeps.alloc wa (.cells #[.int .i64 FV, .slice X1 FC.length x1] 35)))
          have HDB := Lib.hid (HDA.out.alloc (by have := HDA.out.size; omega) (.cells #[.int .i64 FV, .slice X1 FC.length x1] 35))
          replace hM1 := Lib.hid (hM1.out.keeps (Keeps.alloc wa (.cells #[.int .i64 FV, .slice X1 FC.length x1] 35)))
          replace g0 := Keeps.alloc wa (.cells #[.int .i64 FV, .slice X1 FC.length x1] 35) _ _ g0
          replace g1 := Keeps.alloc wa (.cells #[.int .i64 FV, .slice X1 FC.length x1] 35) _ _ g1
          replace g2 := Keeps.alloc wa (.cells #[.int .i64 FV, .slice X1 FC.length x1] 35) _ _ g2
          replace g3 := Keeps.alloc wa (.cells #[.int .i64 FV, .slice X1 FC.length x1] 35) _ _ g3
          replace e0 := Keeps.alloc wa (.cells #[.int .i64 FV, .slice X1 FC.length x1] 35) _ _ e0
          replace e1 := Keeps.alloc wa (.cells #[.int .i64 FV, .slice X1 FC.length x1] 35) _ _ e1
          replace e2 := Keeps.alloc wa (.cells #[.int .i64 FV, .slice X1 FC.length x1] 35) _ _ e2
          replace e3 := Keeps.alloc wa (.cells #[.int .i64 FV, .slice X1 FC.length x1] 35) _ _ e3
          generalize wa.alloc (.cells #[.int .i64 FV, .slice X1 FC.length x1] 35) = wb at *
          generalize wa.heap.size = bx at *
          clear hka HDA hsa
          go_wp2_with fail
          refine (hF2.out _ hkb.out).mono ?_
          rintro e wc ⟨X2, x2, vs2, ba2, rfl, HC2, hbc⟩
          have hM2 := Lib.hid HC2.mat
          clear HC2
          replace z0 := Keeps.of_below hbc _ _ z0
          replace z1 := Keeps.of_below hbc _ _ z1
          replace hM1 := Lib.hid (hM1.out.keeps (Keeps.of_below hbc))
          have HDC := Lib.hid (Below.then_call HDB.out hbc HDB.out.size)
          clear hbc g0 g1 g2 g3 e0 e1 e2 e3 hkb
          go_upto_region 16 with (fail)
          have y0 := (BoxAt.new wc [.int .i64 FV, .slice X2 FC.length x2] 35) 0 _ rfl
          have y1 := (BoxAt.new wc [.int .i64 FV, .slice X2 FC.length x2] 35) 1 _ rfl
          have HDD := Lib.hid (HDC.out.alloc (by have := HDC.out.size; omega) (.cells #[.int .i64 FV, .slice X2 FC.length x2] 35))
          replace hM1 := Lib.hid (hM1.out.keeps (Keeps.alloc wc (.cells #[.int .i64 FV, .slice X2 FC.length x2] 35)))
          replace hM2 := Lib.hid (hM2.out.keeps (Keeps.alloc wc (.cells #[.int .i64 FV, .slice X2 FC.length x2] 35)))
          replace z0 := Keeps.alloc wc (.cells #[.int .i64 FV, .slice X2 FC.length x2] 35) _ _ z0
          replace z1 := Keeps.alloc wc (.cells #[.int .i64 FV, .slice X2 FC.length x2] 35) _ _ z1
          generalize wc.alloc (.cells #[.int .i64 FV, .slice X2 FC.length x2] 35) = wd at *
          generalize wc.heap.size = by2 at *
          clear HDC
          go_wp2_with fail
          refine (sameClauses_any X1 X2 FC.length x1 x2 _ _ _ hM1.out hM2.out (by omega) (fun i _ => by have := hsh.out.at_ i; omega)).mono ?_
          rintro e we ⟨rfl, hbe⟩
          have HDE := Lib.hid (Below.then_call HDD.out hbe HDD.out.size)
          replace z0 := Keeps.of_below hbe _ _ z0
          replace y0 := Keeps.of_below hbe _ _ y0
          clear hbe z1 y1
          go_wp2_with fail
          go_roundw
          case rel => exact ⟨k + 1, by omega, by go_num, HDE.out⟩
          case measure => simp [intOf]; omega
        · obtain rfl : k = 3 := by omega
          go_wp2_with fail
          go_ret
          exact ⟨rfl, Below.then_call HB8.out HDH.out (by have := HB8.out.size; omega)⟩
    · have ht : tf (PairsOk g np P Q) = false := tf_no hok
      rw [ht]
      clear ht
      go_wp2_with fail
      go_ret
      exact ⟨rfl, HB8.out⟩
  · have ht : tf (AlikeP a b) = false := tf_no hA
    rw [ht]
    clear ht
    go_wp2_with fail
    go_ret
    exact ⟨rfl, HB2.out⟩

/-- the pair of the law's own -/
def one6 (_ : Nat) : Int := 6
def one8 (_ : Nat) : Int := 8
set_option maxHeartbeats 2000000 in
set_option maxRecDepth 100000 in
theorem judgeFormulas_walk (a : G) (A1 A2 A3 : Option Addr) (c1 c2 c3 : Nat) (b : G) (B1 B2 B3 : Option Addr) (d1 d2 d3 : Nat) (PA : Option Addr) (np pc : Nat) (P Q : Nat → Int) (w : World) (ha : a.At w A1 A2 A3) (hfa : a.Fits) (hb : b.At w B1 B2 B3) (hfb : b.Fits)
    (hp : RowS w 2 PA np (fun k => two (.int .i64 (P k)) (.int .i64 (Q k)))) (hnp : np ≤ 1048576) :
    Calls Try.prog 3 #[.agg #[.int .i64 a.ins, .slice A1 a.n1 c1, .slice A2 a.n2 c2, .slice A3 a.n3 c3], .agg #[.int .i64 b.ins, .slice B1 b.n1 d1, .slice B2 b.n2 d2, .slice B3 b.n3 d3], .slice PA np pc] w fun e w' => e = .returned (.bool true) ∧ Below w.heap.size w w' := by
  go_enter Try.func3, Try.ntmps3
  go_upto_region 1 with (fail)
  have qa := BoxAt.new w [.int .i64 a.ins, .slice A1 a.n1 c1, .slice A2 a.n2 c2, .slice A3 a.n3 c3] 26
  have hbl : Below w.heap.size w (w.alloc (.cells #[.int .i64 a.ins, .slice A1 a.n1 c1, .slice A2 a.n2 c2, .slice A3 a.n3 c3] 26)) := (Below.refl _ _).alloc (Nat.le_refl _) _
  have hz1 : (w.alloc (.cells #[.int .i64 a.ins, .slice A1 a.n1 c1, .slice A2 a.n2 c2, .slice A3 a.n3 c3] 26)).heap.size = w.heap.size + 1 := by simp
  generalize w.alloc (.cells #[.int .i64 a.ins, .slice A1 a.n1 c1, .slice A2 a.n2 c2, .slice A3 a.n3 c3] 26) = v1 at *
  have qb := BoxAt.new v1 [.int .i64 b.ins, .slice B1 b.n1 d1, .slice B2 b.n2 d2, .slice B3 b.n3 d3] 26
  rw [hz1] at qb
  replace qa := qa.keeps (Keeps.alloc v1 (.cells #[.int .i64 b.ins, .slice B1 b.n1 d1, .slice B2 b.n2 d2, .slice B3 b.n3 d3] 26))
  replace hbl := hbl.alloc (by omega) (.cells #[.int .i64 b.ins, .slice B1 b.n1 d1, .slice B2 b.n2 d2, .slice B3 b.n3 d3] 26)
  have hz2 : (v1.alloc (.cells #[.int .i64 b.ins, .slice B1 b.n1 d1, .slice B2 b.n2 d2, .slice B3 b.n3 d3] 26)).heap.size = w.heap.size + 1 + 1 := by simp [hz1]
  generalize v1.alloc (.cells #[.int .i64 b.ins, .slice B1 b.n1 d1, .slice B2 b.n2 d2, .slice B3 b.n3 d3] 26) = w1 at *
  clear hz1
  have HBL := Lib.hid hbl; clear hbl
  have hs6 : w.heap.size + 2 ≤ w1.heap.size := by omega
  have hs6b : w1.heap.size ≤ w.heap.size + 2 := by omega
  have HSZ := Lib.hid hz2; clear hz2
  have hs1 := HBL.out.size
  go_wp2_with fail
  refine (tiny_any _).mono ?_
  rintro e w2 ⟨T1, T2, T3, t1, t2, t3, rfl, HT, hb2⟩
  have HB2 := Lib.hid (Below.then_call HBL.out hb2 hs1)
  replace qa := qa.keeps (Keeps.of_below hb2)
  replace qb := qb.keeps (Keeps.of_below hb2)
  have hs2 := hb2.size
  clear hb2
  go_wp2_with fail
  refine (tiny_any _).mono ?_
  rintro e w3 ⟨U1, U2, U3, u1, u2, u3, rfl, HU, hb3⟩
  have HB3 := Lib.hid (Below.then_call HB2.out hb3 (by omega))
  replace HT := HT.keeps (Keeps.of_below hb3)
  replace qa := qa.keeps (Keeps.of_below hb3)
  replace qb := qb.keeps (Keeps.of_below hb3)
  have hs3 := hb3.size
  clear hb3
  go_wp2_with fail
  have hpr : RowS (w3.alloc (.cells #[.int .i64 6, .int .i64 8] 29)) 2 (some ⟨w3.heap.size, 0, none⟩) 1 (fun k => two (.int .i64 (one6 k)) (.int .i64 (one8 k))) := fun _ => ⟨_, _, rfl, fun k hk j hj => by
    obtain rfl : k = 0 := by omega
    obtain rfl | rfl : j = 0 ∨ j = 1 := by omega
    all_goals simp [two, one6, one8, go_sem]⟩
  have HB4 := Lib.hid (HB3.out.alloc (by omega) (.cells #[.int .i64 6, .int .i64 8] 29))
  replace HT := HT.keeps (Keeps.alloc w3 (.cells #[.int .i64 6, .int .i64 8] 29))
  replace qa := qa.keeps (Keeps.alloc w3 (.cells #[.int .i64 6, .int .i64 8] 29))
  replace qb := qb.keeps (Keeps.alloc w3 (.cells #[.int .i64 6, .int .i64 8] 29))
  replace HU := HU.keeps (Keeps.alloc w3 (.cells #[.int .i64 6, .int .i64 8] 29))
  have hs4 : w3.heap.size ≤ (w3.alloc (.cells #[.int .i64 6, .int .i64 8] 29)).heap.size := by simp
  generalize w3.alloc (.cells #[.int .i64 6, .int .i64 8] 29) = w4 at *
  refine (joinedOk_any tinyG tinyG T1 T2 T3 U1 U2 U3 t1 t2 t3 u1 u2 u3 _ 1 1 one6 one8 _ HT HU tiny_fits tiny_fits hpr (by omega)).mono ?_
  rintro e w5 ⟨rfl, hb5⟩
  have HB5 := Lib.hid (Below.then_call HB4.out hb5 (by omega))
  replace qa := qa.keeps (Keeps.of_below hb5)
  replace qb := qb.keeps (Keeps.of_below hb5)
  replace hs4 := HB5.out.size
  clear hb5 hpr HT HU
  obtain ⟨g0, g1, g2, g3⟩ := qa.four
  obtain ⟨e0, e1, e2, e3⟩ := qb.four
  go_wp2_with fail
  refine (joinedOk_any a b A1 A2 A3 B1 B2 B3 c1 c2 c3 d1 d2 d3 PA np pc P Q _ (ha.keeps (Keeps.of_below HB5.out)) (hb.keeps (Keeps.of_below HB5.out)) hfa hfb (hp.keeps (Keeps.of_below HB5.out)) (by omega)).mono ?_
  rintro e w6 ⟨rfl, hb6⟩
  have HB6 := Lib.hid (Below.then_call HB5.out hb6 hs4)
  clear hb6
  go_wp2_with fail
  go_ret
  exact ⟨rfl, HB6.out⟩

theorem open_pairsN {N : Nat} {H : Type} {enc : TypeId × Value → H} {w : World} {cs : List Value} (h : Good N enc Try.prog w 23 cs) :
    ∃ (A : Option Addr) (n c : Nat) (X Y : Nat → Int), cs = [.slice A n c] ∧ n ≤ N ∧ RowS w 2 A n (fun k => two (.int .i64 (X k)) (.int .i64 (Y k))) := by
  obtain ⟨A, n, c, f, e, hn, _, hN, _⟩ := good_slice 2 Try.cellsPair (by omega) Try.underlying23 h
  obtain ⟨A', n', c', X, Y, e', _, hr⟩ := open_pairs h
  rw [e] at e'
  obtain ⟨rfl, rfl, rfl⟩ : A = A' ∧ n = n' ∧ c = c' := by simpa using e'
  exact ⟨A, n, c, X, Y, e, by omega, hr⟩
end Go.Proofs.Ytkkbmeobkcjpbaa
