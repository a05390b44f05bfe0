/- The reference's head, first and AigText, walked: the graph's text. Conditions: the graph is valid and lies in memory. -/
import Derived.Test.YtngjbiipgbeemaaDoorDec
import Derived.Test.YtngjbiipgbeemaaDoorPrG
import Derived.Test.YtngjbiipgbeemaaDoorValidV
import Derived.Test.YtngjbiipgbeemaaDoorDrawn2
import Derived.Deep.DeepCutAuto
import Derived.IntWalk
namespace Go.Proofs.YtngjbiipgbeemaaDoor
open Go.RowKit

def latS (n : Int) (b : Bool) : List UInt8 := Lib.itoa n ++ if b = true then [32, 49, 10] else [10]
set_option maxHeartbeats 1000000 in
theorem refFirst_any (n : Int) (b : Bool) (w : World) (h0 : 0 ≤ n) (h1 : n ≤ 120000) :
    Calls Tryd.prog 16 #[.agg #[.int .i64 n, .bool b]] w fun e w' => e = .returned (.string (str (latS n b))) ∧ Below w.heap.size w w' := by
  have hi := itoa_len n (by omega) (by omega)
  have HT := Lib.hid (show latS n true = Lib.itoa n ++ [32, 49, 10] from rfl)
  have HF := Lib.hid (show latS n false = Lib.itoa n ++ [10] from rfl)
  have hc1 := run_catc (P := Tryd.prog) (Lib.itoa n) [32, 49, 10] (by simp; omega)
  have hc2 := run_catc (P := Tryd.prog) (Lib.itoa n) [10] (by simp; omega)
  have hb0 := Lib.hid ((Below.refl w.heap.size w).alloc (Nat.le_refl _) (.cells #[.int .i64 n, .bool b] 47))
  cases b
  all_goals
    go_enter Tryd.func16, Tryd.ntmps16
    go_wp2_with fail
    refine (whole_any n _ h0 (by omega)).mono ?_
    rintro e w1 ⟨rfl, k1⟩
    have HB := Lib.hid (Below.then_call hb0.out k1 (by simp))
    clear k1
    go_wp2_with fail
    go_ret
    first | exact ⟨ret_str HT.out.symm, HB.out⟩ | exact ⟨ret_str HF.out.symm, HB.out⟩

set_option maxHeartbeats 4000000 in
set_option maxRecDepth 100000 in
theorem refHead_any (word : List UInt8) (g : G) (A1 A2 A3 : Option Addr) (c1 c2 c3 : Nat) (w : World) (hs : g.Small) (hw : word.length ≤ 100) :
    Calls Tryd.prog 14 #[.string (str word), .agg #[.int .i64 g.ins, .slice A1 g.n1 c1, .slice A2 g.n2 c2, .slice A3 g.n3 c3]] w fun e w' => e = .returned (.string (str (g.headT word))) ∧ Below w.heap.size w w' := by
  have i0 := hs.v.i0; have i1 := hs.v.i1; have i2 := hs.v.n; have i3 := hs.v.n1; have i4 := hs.v.n3
  have HR := Lib.hid (show g.headT word = word ++ [32] ++ lineOf [1 + g.ins + g.n1 + g.n2 - 1, g.ins, g.n1, g.n3, g.n2] from rfl)
  go_enter Tryd.func14, Tryd.ntmps14
  have hq := BoxAt.new w [.int .i64 g.ins, .slice A1 g.n1 c1, .slice A2 g.n2 c2, .slice A3 g.n3 c3] 28
  have hb0 := Lib.hid ((Below.refl w.heap.size w).alloc (Nat.le_refl _) (.cells #[.int .i64 g.ins, .slice A1 g.n1 c1, .slice A2 g.n2 c2, .slice A3 g.n3 c3] 28))
  obtain ⟨g0, g1, g2, g3⟩ := hq.four
  go_wp2_with fail
  refine (vars_any _ _ _ _ _ _ _ _ _ _ _ i0 i1 (by omega) (by omega)).mono ?_
  rintro e w1 ⟨rfl, k1⟩
  replace hq := hq.keeps (Keeps.of_below k1)
  have HB1 := Lib.hid (Below.then_call hb0.out k1 (by simp))
  clear k1 g0 g1 g2 g3
  obtain ⟨g0, g1, g2, g3⟩ := hq.four
  go_upto_region 2 with (fail)
  have l0 := itoa_len (1 + g.ins + g.n1 + g.n2 - 1) (by omega) (by omega)
  have l1 := itoa_len (g.ins) (by omega) (by omega)
  have l2 := itoa_len ((g.n1 : Int)) (by omega) (by omega)
  have l3 := itoa_len ((g.n3 : Int)) (by omega) (by omega)
  have l4 := itoa_len ((g.n2 : Int)) (by omega) (by omega)
  have da0 := run_catc (P := Tryd.prog) word [32] (by simp; omega)
  obtain ⟨p1, hp⟩ : ∃ p, p = word ++ [32] := ⟨_, rfl⟩
  rw [← hp] at da0
  have q1 : p1.length ≤ 130 := by rw [hp]; simp; omega
  have HP1 := Lib.hid hp; clear hp
  have dm0 := run_cat (P := Tryd.prog) p1 (Lib.itoa (1 + g.ins + g.n1 + g.n2 - 1)) (by omega)
  obtain ⟨p2, hp⟩ : ∃ p, p = p1 ++ (Lib.itoa (1 + g.ins + g.n1 + g.n2 - 1)) := ⟨_, rfl⟩
  rw [← hp] at dm0
  have q2 : p2.length ≤ 160 := by rw [hp]; simp; omega
  have HP2 := Lib.hid hp; clear hp
  have da1 := run_catc (P := Tryd.prog) p2 [32] (by simp; omega)
  obtain ⟨p3, hp⟩ : ∃ p, p = p2 ++ [32] := ⟨_, rfl⟩
  rw [← hp] at da1
  have q3 : p3.length ≤ 190 := by rw [hp]; simp; omega
  have HP3 := Lib.hid hp; clear hp
  have dm1 := run_cat (P := Tryd.prog) p3 (Lib.itoa (g.ins)) (by omega)
  obtain ⟨p4, hp⟩ : ∃ p, p = p3 ++ (Lib.itoa (g.ins)) := ⟨_, rfl⟩
  rw [← hp] at dm1
  have q4 : p4.length ≤ 220 := by rw [hp]; simp; omega
  have HP4 := Lib.hid hp; clear hp
  have da2 := run_catc (P := Tryd.prog) p4 [32] (by simp; omega)
  obtain ⟨p5, hp⟩ : ∃ p, p = p4 ++ [32] := ⟨_, rfl⟩
  rw [← hp] at da2
  have q5 : p5.length ≤ 250 := by rw [hp]; simp; omega
  have HP5 := Lib.hid hp; clear hp
  have dm2 := run_cat (P := Tryd.prog) p5 (Lib.itoa ((g.n1 : Int))) (by omega)
  obtain ⟨p6, hp⟩ : ∃ p, p = p5 ++ (Lib.itoa ((g.n1 : Int))) := ⟨_, rfl⟩
  rw [← hp] at dm2
  have q6 : p6.length ≤ 280 := by rw [hp]; simp; omega
  have HP6 := Lib.hid hp; clear hp
  have da3 := run_catc (P := Tryd.prog) p6 [32] (by simp; omega)
  obtain ⟨p7, hp⟩ : ∃ p, p = p6 ++ [32] := ⟨_, rfl⟩
  rw [← hp] at da3
  have q7 : p7.length ≤ 310 := by rw [hp]; simp; omega
  have HP7 := Lib.hid hp; clear hp
  have dm3 := run_cat (P := Tryd.prog) p7 (Lib.itoa ((g.n3 : Int))) (by omega)
  obtain ⟨p8, hp⟩ : ∃ p, p = p7 ++ (Lib.itoa ((g.n3 : Int))) := ⟨_, rfl⟩
  rw [← hp] at dm3
  have q8 : p8.length ≤ 340 := by rw [hp]; simp; omega
  have HP8 := Lib.hid hp; clear hp
  have da4 := run_catc (P := Tryd.prog) p8 [32] (by simp; omega)
  obtain ⟨p9, hp⟩ : ∃ p, p = p8 ++ [32] := ⟨_, rfl⟩
  rw [← hp] at da4
  have q9 : p9.length ≤ 370 := by rw [hp]; simp; omega
  have HP9 := Lib.hid hp; clear hp
  have dm4 := run_cat (P := Tryd.prog) p9 (Lib.itoa ((g.n2 : Int))) (by omega)
  obtain ⟨p10, hp⟩ : ∃ p, p = p9 ++ (Lib.itoa ((g.n2 : Int))) := ⟨_, rfl⟩
  rw [← hp] at dm4
  have q10 : p10.length ≤ 400 := by rw [hp]; simp; omega
  have HP10 := Lib.hid hp; clear hp
  have da5 := run_catc (P := Tryd.prog) p10 [10] (by simp; omega)
  obtain ⟨p11, hp⟩ : ∃ p, p = p10 ++ [10] := ⟨_, rfl⟩
  rw [← hp] at da5
  have q11 : p11.length ≤ 430 := by rw [hp]; simp; omega
  have HP11 := Lib.hid hp; clear hp
  refine wp_region_z (fun w' => w'.cell? ⟨w.heap.size, 0, none⟩ = some (.int .i64 g.ins) ∧ w'.cell? ⟨w.heap.size, 1, none⟩ = some (.slice A1 g.n1 c1) ∧ w'.cell? ⟨w.heap.size, 2, none⟩ = some (.slice A2 g.n2 c2) ∧ w'.cell? ⟨w.heap.size, 3, none⟩ = some (.slice A3 g.n3 c3)) [0, 1, 2, 6, 7, 11, 12, 13, 17, 18, 19, 23, 24, 25] [] (by kernel_rfl) (by kernel_rfl) (by kernel_rfl) (by rfl) (fun _ _ _ _ e h => ⟨e.symm.trans h.1, h.2⟩) ⟨g0, g1, g2, g3⟩ ?_
  iterate 14
    refine Heads.step (v := ?_) rfl (by rfl) (fun W hW => ?_) ?_
    rotate_left
    · (obtain ⟨s0, s1, s2, s3⟩ := hW; go_simp; try with_reducible rfl)
  have HB2 : Hid (Below w.heap.size w w1.drew) := Lib.hid HB1.out.drew
  refine AnyZ.one (i := 3) (by kernel_rfl) rfl (fun K hK => ?_)
  go_simp
  refine (whole_any (1 + g.ins + g.n1 + g.n2 - 1) _ (by omega) (by omega)).mono ?_
  rintro e v0 ⟨rfl, k1⟩
  replace k1 : Below w1.heap.size w1 v0 := ⟨k1.os, k1.tape, k1.output, k1.size, k1.block⟩
  have HK0 := Lib.hid k1
  have hq0 := hq.keeps (Keeps.of_below k1)
  clear k1 g0 g1 g2 g3
  obtain ⟨g0, g1, g2, g3⟩ := hq0.four
  refine hK _ _ (fun _ => ⟨g0, g1, g2, g3⟩) ?_
  clear hK
  refine AnyZ.mid [4, 5] [] 13 rfl (by kernel_rfl) (by kernel_rfl) (by kernel_rfl) (fun _ _ _ _ e h => ⟨e.symm.trans h.1, h.2⟩) ⟨g0, g1, g2, g3⟩ ?_
  iterate 2
    refine Heads.step (v := ?_) rfl (by rfl) (fun W hW => ?_) ?_
    rotate_left
    · (obtain ⟨s0, s1, s2, s3⟩ := hW; go_simp; try with_reducible rfl)
  refine AnyZ.one (i := 8) (by kernel_rfl) rfl (fun K hK => ?_)
  go_simp
  refine (whole_any g.ins _ (by omega) (by omega)).mono ?_
  rintro e v1 ⟨rfl, k1⟩
  replace k1 : Below w1.heap.size w1 v1 := Below.then_call HK0.out k1 HK0.out.size
  have HK1 := Lib.hid k1
  have hq1 := hq.keeps (Keeps.of_below k1)
  clear k1 g0 g1 g2 g3
  obtain ⟨g0, g1, g2, g3⟩ := hq1.four
  refine hK _ _ (fun _ => ⟨g0, g1, g2, g3⟩) ?_
  clear hK
  refine AnyZ.mid [9, 10] [] 10 rfl (by kernel_rfl) (by kernel_rfl) (by kernel_rfl) (fun _ _ _ _ e h => ⟨e.symm.trans h.1, h.2⟩) ⟨g0, g1, g2, g3⟩ ?_
  iterate 2
    refine Heads.step (v := ?_) rfl (by rfl) (fun W hW => ?_) ?_
    rotate_left
    · (obtain ⟨s0, s1, s2, s3⟩ := hW; go_simp; try with_reducible rfl)
  refine AnyZ.one (i := 14) (by kernel_rfl) rfl (fun K hK => ?_)
  go_simp
  refine (whole_any g.n1 _ (by omega) (by omega)).mono ?_
  rintro e v2 ⟨rfl, k1⟩
  replace k1 : Below w1.heap.size w1 v2 := Below.then_call HK1.out k1 HK1.out.size
  have HK2 := Lib.hid k1
  have hq2 := hq.keeps (Keeps.of_below k1)
  clear k1 g0 g1 g2 g3
  obtain ⟨g0, g1, g2, g3⟩ := hq2.four
  refine hK _ _ (fun _ => ⟨g0, g1, g2, g3⟩) ?_
  clear hK
  refine AnyZ.mid [15, 16] [] 7 rfl (by kernel_rfl) (by kernel_rfl) (by kernel_rfl) (fun _ _ _ _ e h => ⟨e.symm.trans h.1, h.2⟩) ⟨g0, g1, g2, g3⟩ ?_
  iterate 2
    refine Heads.step (v := ?_) rfl (by rfl) (fun W hW => ?_) ?_
    rotate_left
    · (obtain ⟨s0, s1, s2, s3⟩ := hW; go_simp; try with_reducible rfl)
  refine AnyZ.one (i := 20) (by kernel_rfl) rfl (fun K hK => ?_)
  go_simp
  refine (whole_any g.n3 _ (by omega) (by omega)).mono ?_
  rintro e v3 ⟨rfl, k1⟩
  replace k1 : Below w1.heap.size w1 v3 := Below.then_call HK2.out k1 HK2.out.size
  have HK3 := Lib.hid k1
  have hq3 := hq.keeps (Keeps.of_below k1)
  clear k1 g0 g1 g2 g3
  obtain ⟨g0, g1, g2, g3⟩ := hq3.four
  refine hK _ _ (fun _ => ⟨g0, g1, g2, g3⟩) ?_
  clear hK
  refine AnyZ.mid [21, 22] [] 4 rfl (by kernel_rfl) (by kernel_rfl) (by kernel_rfl) (fun _ _ _ _ e h => ⟨e.symm.trans h.1, h.2⟩) ⟨g0, g1, g2, g3⟩ ?_
  iterate 2
    refine Heads.step (v := ?_) rfl (by rfl) (fun W hW => ?_) ?_
    rotate_left
    · (obtain ⟨s0, s1, s2, s3⟩ := hW; go_simp; try with_reducible rfl)
  refine AnyZ.one (i := 26) (by kernel_rfl) rfl (fun K hK => ?_)
  go_simp
  refine (whole_any g.n2 _ (by omega) (by omega)).mono ?_
  rintro e v4 ⟨rfl, k1⟩
  replace k1 : Below w1.heap.size w1 v4 := Below.then_call HK3.out k1 HK3.out.size
  have HK4 := Lib.hid k1
  have hq4 := hq.keeps (Keeps.of_below k1)
  clear k1 g0 g1 g2 g3
  obtain ⟨g0, g1, g2, g3⟩ := hq4.four
  refine hK _ _ (fun _ => ⟨g0, g1, g2, g3⟩) ?_
  clear hK
  refine AnyZ.mid [27, 28, 29] [] 0 rfl (by kernel_rfl) (by kernel_rfl) (by kernel_rfl) (fun _ _ _ _ e h => ⟨e.symm.trans h.1, h.2⟩) ⟨g0, g1, g2, g3⟩ ?_
  iterate 3
    refine Heads.step (v := ?_) rfl (by rfl) (fun W hW => ?_) ?_
    rotate_left
    · (obtain ⟨s0, s1, s2, s3⟩ := hW; go_simp; try with_reducible rfl)
  refine AnyZ.done (by kernel_rfl) ?_
  have HB3 := Lib.hid (Below.then_call HB1.out HK4.out HB1.out.size)
  clear da0 da1 da2 da3 da4 da5 dm0 dm1 dm2 dm3 dm4
  go_wp2_with fail
  go_ret
  exact ⟨ret_str (by rw [HR.out, line5, HP11.out, HP10.out, HP9.out, HP8.out, HP7.out, HP6.out, HP5.out, HP4.out, HP3.out, HP2.out, HP1.out]; simp), HB3.out⟩

end Go.Proofs.YtngjbiipgbeemaaDoor
