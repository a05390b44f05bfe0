/- The reference's AigText, walked: the graph's text. Conditions: the graph is valid and lies in memory. -/
import Derived.Test.YtngjbiipgbeemaaDoorRt
namespace Go.Proofs.YtngjbiipgbeemaaDoor
open Go.RowKit

theorem lat_line (g : G) (i : Nat) : lineOf (g.latL i) = Lib.itoa (2 * (1 + g.ins + i)) ++ [32] ++ latS (g.L i) (g.I i) := by
  have h1 : Lib.itoa 1 = [49] := by
    rw [show (1 : Int) = ((1 : Nat) : Int) from rfl, Lib.itoa_nonneg, dec_last (by omega)]; rfl
  unfold G.latL latS
  cases g.I i
  · simp [line2]
  · simp [line3, h1]
theorem latS_len (n : Int) (b : Bool) (h0 : 0 ≤ n) (h1 : n ≤ 120000) : (latS n b).length ≤ 30 := by
  have := itoa_len n (by omega) (by omega)
  unfold latS; cases b <;> simp <;> omega

set_option maxHeartbeats 8000000 in
set_option maxRecDepth 100000 in
theorem aigText_any (g : G) (A1 A2 A3 : Option Addr) (c1 c2 c3 : Nat) (w : World) (hs : g.Small) (hg : g.At w A1 A2 A3) :
    Calls Tryd.prog 6 #[.agg #[.int .i64 g.ins, .slice A1 g.n1 c1, .slice A2 g.n2 c2, .slice A3 g.n3 c3]] w fun e w' => e = .returned (.string (str (g.text g.n2))) ∧ Below w.heap.size w w' := by
  have i0 := hs.v.i0; have i1 := hs.v.i1; have i2 := hs.v.n; have i3 := hs.v.n1; have i4 := hs.v.n3
  have HSM := Lib.hid hs; have HG := Lib.hid hg
  clear hs hg
  go_enter Tryd.func6, Tryd.ntmps6
  have hq := BoxAt.new w [.int .i64 g.ins, .slice A1 g.n1 c1, .slice A2 g.n2 c2, .slice A3 g.n3 c3] 28
  have HV := Lib.hid ((Below.refl w.heap.size w).alloc (Nat.le_refl _) (.cells #[.int .i64 g.ins, .slice A1 g.n1 c1, .slice A2 g.n2 c2, .slice A3 g.n3 c3] 28))
  have hvz : w.heap.size < (w.alloc (.cells #[.int .i64 g.ins, .slice A1 g.n1 c1, .slice A2 g.n2 c2, .slice A3 g.n3 c3] 28)).heap.size := by simp
  go_wp2_with fail
  generalize w.alloc (.cells #[.int .i64 g.ins, .slice A1 g.n1 c1, .slice A2 g.n2 c2, .slice A3 g.n3 c3] 28) = v at *
  refine (refHead_any [97, 97, 103] g A1 A2 A3 c1 c2 c3 v HSM.out (by simp)).mono ?_
  rintro e w1 ⟨rfl, k1⟩
  have HQ := Lib.hid hq
  have hx : str (g.headT [97, 97, 103]) = str (g.insT 0) := by simp [G.insT, cat]
  rw [hx]; clear hx
  have HB1 := Lib.hid k1
  replace hq := hq.keeps (Keeps.of_below k1)
  clear k1
  obtain ⟨g0, g1, g2, g3⟩ := hq.four
  go_wp2_with fail
  go_loopw [3, 4] (fun s i wr => ∃ k : Nat, k ≤ g.ins.toNat ∧ i = .int .i64 k ∧ s = .string (str (g.insT k)) ∧ Hid (Below v.heap.size v wr)) (fun _ i _ => g.ins.toNat - (intOf i).toNat)
  case atStart => exact ⟨0, by omega, rfl, rfl, HB1⟩
  case round =>
    obtain ⟨k, hk, rfl, rfl, HB⟩ := hrel
    have hq := HQ.out.keeps (Keeps.of_below HB.out)
    obtain ⟨g0, g1, g2, g3⟩ := hq.four
    have HK : Hid (Below w.heap.size w wr) := Lib.hid (HV.out.trans (HB.out.mono (by omega)))
    by_cases hlt : (k : Int) < g.ins
    · have hl := G.insT_len HSM.out (k := k) (by omega)
      have li := itoa_len (2 * (1 + (k : Int))) (by omega) (by omega)
      have dm := run_cat (P := Tryd.prog) (g.insT k) (Lib.itoa (2 * (1 + (k : Int)))) (by omega)
      obtain ⟨p1, hp⟩ : ∃ p, p = (g.insT k) ++ (Lib.itoa (2 * (1 + (k : Int)))) := ⟨_, rfl⟩
      rw [← hp] at dm
      have lp1 : p1.length ≤ 2000100 := by rw [hp]; simp; omega
      have Hp1 := Lib.hid hp; clear hp
      have da : ∀ W, (Op.stringOp .add (str p1) ⟨List.toArray [10]⟩).run Tryd.prog W = .ok (.string (str (g.insT (k + 1)))) W := by
        rw [show g.insT (k + 1) = p1 ++ [10] by rw [Hp1.out]; simp [G.insT, cat, line1]]
        exact run_catc p1 [10] (by simp; omega)
      go_wp2_with fail
      refine (whole_any (2 * (1 + (k : Int))) _ (by omega) (by omega)).mono ?_
      rintro e w2 ⟨rfl, k2⟩
      have HB2 := Lib.hid (Below.then_call HB.out k2 HB.out.size)
      clear k2
      go_wp2_with fail
      go_roundw
      case rel => exact ⟨k + 1, by omega, by go_num, rfl, HB2⟩
      case measure => simp [intOf]; omega
    · have hx : str (g.insT k) = str (g.latT 0) := by rw [show k = g.ins.toNat by omega]; simp [G.latT, cat]
      rw [hx]; clear hx hk
      go_wp2_with fail
      clear hlt
      go_loopw [3, 5] (fun s i wr => ∃ k : Nat, k ≤ g.n1 ∧ i = .int .i64 k ∧ s = .string (str (g.latT k)) ∧ Hid (Below v.heap.size v wr)) (fun _ i _ => g.n1 - (intOf i).toNat)
      case atStart => exact ⟨0, by omega, rfl, rfl, HB⟩
      case round =>
        obtain ⟨k, hk, rfl, rfl, HB⟩ := hrel
        have hq := HQ.out.keeps (Keeps.of_below HB.out)
        obtain ⟨g0, g1, g2, g3⟩ := hq.four
        have HK : Hid (Below w.heap.size w wr) := Lib.hid (HV.out.trans (HB.out.mono (by omega)))
        by_cases hlt : k < g.n1
        · obtain ⟨b1, o1, rfl, x0, x1⟩ := (HG.out.keeps (Keeps.of_below HK.out)).lat.at2 hlt
          simp only [two] at x0 x1
          have hlk := HSM.out.lat k hlt
          have hl := G.latT_len HSM.out hk
          have li := itoa_len (2 * (1 + g.ins + (k : Int))) (by omega) (by omega)
          have ls := latS_len (g.L k) (g.I k) hlk.1 hlk.2
          have dm := run_cat (P := Tryd.prog) (g.latT k) (Lib.itoa (2 * (1 + g.ins + (k : Int)))) (by omega)
          obtain ⟨p1, hp⟩ : ∃ p, p = (g.latT k) ++ (Lib.itoa (2 * (1 + g.ins + (k : Int)))) := ⟨_, rfl⟩
          rw [← hp] at dm
          have lp1 : p1.length ≤ 3000100 := by rw [hp]; simp; omega
          have Hp1 := Lib.hid hp; clear hp
          have da := run_catc (P := Tryd.prog) p1 [32] (by simp; omega)
          obtain ⟨p2, hp⟩ : ∃ p, p = p1 ++ [32] := ⟨_, rfl⟩
          rw [← hp] at da
          have lp2 : p2.length ≤ 3000200 := by rw [hp]; simp; omega
          have Hp2 := Lib.hid hp; clear hp
          have db : ∀ W, (Op.stringOp .add (str p2) (str (latS (g.L k) (g.I k)))).run Tryd.prog W = .ok (.string (str (g.latT (k + 1)))) W := by
            rw [show g.latT (k + 1) = p2 ++ (latS (g.L k) (g.I k)) by rw [Hp2.out, Hp1.out, show g.latT (k + 1) = g.latT k ++ lineOf (g.latL k) from (List.append_assoc ..).symm, lat_line]; simp only [List.append_assoc]]
            exact run_cat p2 (latS (g.L k) (g.I k)) (by omega)
          have e1 : IntKind.i64.wrap (1 + g.ins) = 1 + g.ins := IntWalk.i64_in _ (by omega)
          have e2 : IntKind.i64.wrap (1 + g.ins + (k : Int)) = 1 + g.ins + k := IntWalk.i64_in _ (by omega)
          have e3 : IntKind.i64.wrap (2 * (1 + g.ins + (k : Int))) = 2 * (1 + g.ins + k) := IntWalk.i64_in _ (by omega)
          go_upto_region 9 with (fail)
          refine wp_region_z (fun w' => w'.cell? ⟨w.heap.size, 0, none⟩ = some (.int .i64 g.ins) ∧ w'.cell? ⟨w.heap.size, 1, none⟩ = some (.slice (some ⟨b1, o1, none⟩) g.n1 c1) ∧ w'.cell? ⟨w.heap.size, 2, none⟩ = some (.slice A2 g.n2 c2) ∧ w'.cell? ⟨w.heap.size, 3, none⟩ = some (.slice A3 g.n3 c3) ∧ w'.cell? ⟨b1, o1 + k * 2, none⟩ = some (.int .i64 (g.L k)) ∧ w'.cell? ⟨b1, o1 + k * 2 + 1, none⟩ = some (.bool (g.I k))) [0, 1, 2, 3, 4, 5, 6, 10, 11, 12, 13, 14] [] (by kernel_rfl) (by kernel_rfl) (by kernel_rfl) (by rfl) (fun _ _ _ _ e h => ⟨e.symm.trans h.1, h.2⟩) ⟨g0, g1, g2, g3, x0, x1⟩ ?_
          iterate 12
            refine Heads.step (v := ?_) rfl (by rfl) (fun W hW => ?_) ?_
            rotate_left
            · (obtain ⟨s0, s1, s2, s3, s4, s5⟩ := hW; go_simp; try with_reducible rfl)
          clear e1 e2 e3
          refine AnyZ.one (i := 7) (by kernel_rfl) rfl (fun K hK => ?_)
          go_simp
          refine (whole_any (2 * (1 + g.ins + (k : Int))) _ (by omega) (by omega)).mono ?_
          rintro e w2 ⟨rfl, k2⟩
          replace k2 : Below wr.heap.size wr w2 := ⟨k2.os, k2.tape, k2.output, k2.size, k2.block⟩
          have HB2 := Lib.hid (Below.then_call HB.out k2 HB.out.size)
          have hk2 := Keeps.of_below k2
          replace hq := hq.keeps hk2
          replace x0 := hk2 _ _ x0
          replace x1 := hk2 _ _ x1
          clear k2 hk2 g0 g1 g2 g3
          obtain ⟨g0, g1, g2, g3⟩ := hq.four
          refine hK _ _ (fun _ => ⟨g0, g1, g2, g3, x0, x1⟩) ?_
          clear hK
          refine AnyZ.mid [8, 9] [] 3 rfl (by kernel_rfl) (by kernel_rfl) (by kernel_rfl) (fun _ _ _ _ e h => ⟨e.symm.trans h.1, h.2⟩) ⟨g0, g1, g2, g3, x0, x1⟩ ?_
          iterate 2
            refine Heads.step (v := ?_) rfl (by rfl) (fun W hW => ?_) ?_
            rotate_left
            · (obtain ⟨s0, s1, s2, s3, s4, s5⟩ := hW; go_simp; try with_reducible rfl)
          refine AnyZ.one (i := 15) (by kernel_rfl) rfl (fun K hK => ?_)
          go_simp
          refine (refFirst_any (g.L k) (g.I k) _ hlk.1 hlk.2).mono ?_
          rintro e w3 ⟨rfl, k2⟩
          have HB3 := Lib.hid (Below.then_call HB2.out k2 HB2.out.size)
          have hk2 := Keeps.of_below k2
          replace hq := hq.keeps hk2
          replace x0 := hk2 _ _ x0
          replace x1 := hk2 _ _ x1
          clear k2 hk2 g0 g1 g2 g3
          obtain ⟨g0, g1, g2, g3⟩ := hq.four
          refine hK _ _ (fun _ => ⟨g0, g1, g2, g3, x0, x1⟩) ?_
          clear hK
          refine AnyZ.mid [16, 17] [] 0 rfl (by kernel_rfl) (by kernel_rfl) (by kernel_rfl) (fun _ _ _ _ e h => ⟨e.symm.trans h.1, h.2⟩) ⟨g0, g1, g2, g3, x0, x1⟩ ?_
          iterate 2
            refine Heads.step (v := ?_) rfl (by rfl) (fun W hW => ?_) ?_
            rotate_left
            · (obtain ⟨s0, s1, s2, s3, s4, s5⟩ := hW; go_simp; try with_reducible rfl)
          refine AnyZ.done (by kernel_rfl) ?_
          clear g0 g1 g2 g3 x0 x1 dm da db
          go_wp2_with fail
          have hq := HQ.out.keeps (Keeps.of_below HB3.out)
          go_roundw
          case rel => exact ⟨k + 1, by omega, by go_num, rfl, HB3⟩
          case measure => simp [intOf]; omega
        · obtain rfl : k = g.n1 := by omega
          have hx : str (g.latT g.n1) = str (g.outT 0) := by simp [G.outT, cat]
          rw [hx]; clear hx hk
          go_wp2_with fail
          clear hlt
          go_loopw [3, 6] (fun s i wr => ∃ k : Nat, k ≤ g.n3 ∧ i = .int .i64 k ∧ s = .string (str (g.outT k)) ∧ Hid (Below v.heap.size v wr)) (fun _ i _ => g.n3 - (intOf i).toNat)
          case atStart => exact ⟨0, by omega, rfl, rfl, HB⟩
          case round =>
            obtain ⟨k, hk, rfl, rfl, HB⟩ := hrel
            have hq := HQ.out.keeps (Keeps.of_below HB.out)
            obtain ⟨g0, g1, g2, g3⟩ := hq.four
            have HK : Hid (Below w.heap.size w wr) := Lib.hid (HV.out.trans (HB.out.mono (by omega)))
            by_cases hlt : k < g.n3
            · obtain ⟨b3, o3, rfl, x0⟩ := (HG.out.keeps (Keeps.of_below HK.out)).outs.at_ hlt
              have hlk := HSM.out.outs k hlt
              have hl := G.outT_len HSM.out hk
              have li := itoa_len (g.O k) (by omega) (by omega)
              have dm := run_cat (P := Tryd.prog) (g.outT k) (Lib.itoa (g.O k)) (by omega)
              obtain ⟨p1, hp⟩ : ∃ p, p = (g.outT k) ++ (Lib.itoa (g.O k)) := ⟨_, rfl⟩
              rw [← hp] at dm
              have lp1 : p1.length ≤ 5000100 := by rw [hp]; simp; omega
              have Hp1 := Lib.hid hp; clear hp
              have da : ∀ W, (Op.stringOp .add (str p1) ⟨List.toArray [10]⟩).run Tryd.prog W = .ok (.string (str (g.outT (k + 1)))) W := by
                rw [show g.outT (k + 1) = p1 ++ [10] by rw [Hp1.out]; simp [G.outT, cat, line1]]
                exact run_catc p1 [10] (by simp; omega)
              go_wp2_with fail
              refine (whole_any (g.O k) _ (by omega) (by omega)).mono ?_
              rintro e w2 ⟨rfl, k2⟩
              have HB2 := Lib.hid (Below.then_call HB.out k2 HB.out.size)
              clear k2
              go_wp2_with fail
              go_roundw
              case rel => exact ⟨k + 1, by omega, by go_num, rfl, HB2⟩
              case measure => simp [intOf]; omega
            · obtain rfl : k = g.n3 := by omega
              have hx : str (g.outT g.n3) = str (g.text 0) := by simp [G.text, cat]
              rw [hx]; clear hx hk
              go_wp2_with fail
              clear hlt
              go_loopw [3, 8] (fun s i wr => ∃ k : Nat, k ≤ g.n2 ∧ i = .int .i64 k ∧ s = .string (str (g.text k)) ∧ Hid (Below v.heap.size v wr)) (fun _ i _ => g.n2 - (intOf i).toNat)
              case atStart => exact ⟨0, by omega, rfl, rfl, HB⟩
              case round =>
                obtain ⟨k, hk, rfl, rfl, HB⟩ := hrel
                have hq := HQ.out.keeps (Keeps.of_below HB.out)
                obtain ⟨g0, g1, g2, g3⟩ := hq.four
                have HK : Hid (Below w.heap.size w wr) := Lib.hid (HV.out.trans (HB.out.mono (by omega)))
                by_cases hlt : k < g.n2
                · obtain ⟨b2, o2, rfl, x0, x1⟩ := (HG.out.keeps (Keeps.of_below HK.out)).ands.at2 hlt
                  simp only [two] at x0 x1
                  have hlk := HSM.out.ands k hlt
                  have hl := G.text_len HSM.out hk
                  have li := itoa_len (2 * (1 + g.ins + g.n1 + (k : Int))) (by omega) (by omega)
                  have lx := itoa_len (g.X k) (by omega) (by omega)
                  have ly := itoa_len (g.Y k) (by omega) (by omega)
                  have dm := run_cat (P := Tryd.prog) (g.text k) (Lib.itoa (2 * (1 + g.ins + g.n1 + (k : Int)))) (by omega)
                  obtain ⟨p1, hp⟩ : ∃ p, p = (g.text k) ++ (Lib.itoa (2 * (1 + g.ins + g.n1 + (k : Int)))) := ⟨_, rfl⟩
                  rw [← hp] at dm
                  have lp1 : p1.length ≤ 10000100 := by rw [hp]; simp; omega
                  have Hp1 := Lib.hid hp; clear hp
                  have da := run_catc (P := Tryd.prog) p1 [32] (by simp; omega)
                  obtain ⟨p2, hp⟩ : ∃ p, p = p1 ++ [32] := ⟨_, rfl⟩
                  rw [← hp] at da
                  have lp2 : p2.length ≤ 10000200 := by rw [hp]; simp; omega
                  have Hp2 := Lib.hid hp; clear hp
                  have db := run_cat (P := Tryd.prog) p2 (Lib.itoa (g.X k)) (by omega)
                  obtain ⟨p3, hp⟩ : ∃ p, p = p2 ++ (Lib.itoa (g.X k)) := ⟨_, rfl⟩
                  rw [← hp] at db
                  have lp3 : p3.length ≤ 10000300 := by rw [hp]; simp; omega
                  have Hp3 := Lib.hid hp; clear hp
                  have dc := run_catc (P := Tryd.prog) p3 [32] (by simp; omega)
                  obtain ⟨p4, hp⟩ : ∃ p, p = p3 ++ [32] := ⟨_, rfl⟩
                  rw [← hp] at dc
                  have lp4 : p4.length ≤ 10000400 := by rw [hp]; simp; omega
                  have Hp4 := Lib.hid hp; clear hp
                  have dd := run_cat (P := Tryd.prog) p4 (Lib.itoa (g.Y k)) (by omega)
                  obtain ⟨p5, hp⟩ : ∃ p, p = p4 ++ (Lib.itoa (g.Y k)) := ⟨_, rfl⟩
                  rw [← hp] at dd
                  have lp5 : p5.length ≤ 10000500 := by rw [hp]; simp; omega
                  have Hp5 := Lib.hid hp; clear hp
                  have de : ∀ W, (Op.stringOp .add (str p5) ⟨List.toArray [10]⟩).run Tryd.prog W = .ok (.string (str (g.text (k + 1)))) W := by
                    rw [show g.text (k + 1) = p5 ++ [10] by rw [Hp5.out, Hp4.out, Hp3.out, Hp2.out, Hp1.out, show g.text (k + 1) = g.text k ++ lineOf (g.andL k) from (List.append_assoc ..).symm]; simp only [G.andL, line3, List.append_assoc]]
                    exact run_catc p5 [10] (by simp; omega)
                  have e2 : IntKind.i64.wrap (1 + g.ins + (g.n1 : Int) + (k : Int)) = 1 + g.ins + g.n1 + k := IntWalk.i64_in _ (by omega)
                  have e3 : IntKind.i64.wrap (2 * (1 + g.ins + (g.n1 : Int) + (k : Int))) = 2 * (1 + g.ins + g.n1 + k) := IntWalk.i64_in _ (by omega)
                  go_upto_region 18 with (fail)
                  refine wp_region_z (fun w' => w'.cell? ⟨w.heap.size, 0, none⟩ = some (.int .i64 g.ins) ∧ w'.cell? ⟨w.heap.size, 1, none⟩ = some (.slice A1 g.n1 c1) ∧ w'.cell? ⟨w.heap.size, 2, none⟩ = some (.slice (some ⟨b2, o2, none⟩) g.n2 c2) ∧ w'.cell? ⟨w.heap.size, 3, none⟩ = some (.slice A3 g.n3 c3) ∧ w'.cell? ⟨b2, o2 + k * 2, none⟩ = some (.int .i64 (g.X k)) ∧ w'.cell? ⟨b2, o2 + k * 2 + 1, none⟩ = some (.int .i64 (g.Y k))) [0, 1, 2, 3, 4, 8, 9, 10, 11, 12, 13, 17, 18, 19, 20, 21, 22] [] (by kernel_rfl) (by kernel_rfl) (by kernel_rfl) (by rfl) (fun _ _ _ _ e h => ⟨e.symm.trans h.1, h.2⟩) ⟨g0, g1, g2, g3, x0, x1⟩ ?_
                  iterate 17
                    refine Heads.step (v := ?_) rfl (by rfl) (fun W hW => ?_) ?_
                    rotate_left
                    · (obtain ⟨s0, s1, s2, s3, s4, s5⟩ := hW; go_simp; try with_reducible rfl)
                  clear e2 e3
                  refine AnyZ.one (i := 5) (by kernel_rfl) rfl (fun K hK => ?_)
                  go_simp
                  refine (whole_any (2 * (1 + g.ins + g.n1 + (k : Int))) _ (by omega) (by omega)).mono ?_
                  rintro e w2 ⟨rfl, k2⟩
                  replace k2 : Below wr.heap.size wr w2 := ⟨k2.os, k2.tape, k2.output, k2.size, k2.block⟩
                  have HB2 := Lib.hid (Below.then_call HB.out k2 HB.out.size)
                  have hk2 := Keeps.of_below k2
                  replace hq := hq.keeps hk2
                  replace x0 := hk2 _ _ x0
                  replace x1 := hk2 _ _ x1
                  clear k2 hk2 g0 g1 g2 g3
                  obtain ⟨g0, g1, g2, g3⟩ := hq.four
                  refine hK _ _ (fun _ => ⟨g0, g1, g2, g3, x0, x1⟩) ?_
                  clear hK
                  refine AnyZ.mid [6, 7] [] 7 rfl (by kernel_rfl) (by kernel_rfl) (by kernel_rfl) (fun _ _ _ _ e h => ⟨e.symm.trans h.1, h.2⟩) ⟨g0, g1, g2, g3, x0, x1⟩ ?_
                  iterate 2
                    refine Heads.step (v := ?_) rfl (by rfl) (fun W hW => ?_) ?_
                    rotate_left
                    · (obtain ⟨s0, s1, s2, s3, s4, s5⟩ := hW; go_simp; try with_reducible rfl)
                  refine AnyZ.one (i := 14) (by kernel_rfl) rfl (fun K hK => ?_)
                  go_simp
                  refine (whole_any (g.X k) _ (by omega) (by omega)).mono ?_
                  rintro e w3 ⟨rfl, k2⟩
                  have HB3 := Lib.hid (Below.then_call HB2.out k2 HB2.out.size)
                  have hk2 := Keeps.of_below k2
                  replace hq := hq.keeps hk2
                  replace x0 := hk2 _ _ x0
                  replace x1 := hk2 _ _ x1
                  clear k2 hk2 g0 g1 g2 g3
                  obtain ⟨g0, g1, g2, g3⟩ := hq.four
                  refine hK _ _ (fun _ => ⟨g0, g1, g2, g3, x0, x1⟩) ?_
                  clear hK
                  refine AnyZ.mid [15, 16] [] 4 rfl (by kernel_rfl) (by kernel_rfl) (by kernel_rfl) (fun _ _ _ _ e h => ⟨e.symm.trans h.1, h.2⟩) ⟨g0, g1, g2, g3, x0, x1⟩ ?_
                  iterate 2
                    refine Heads.step (v := ?_) rfl (by rfl) (fun W hW => ?_) ?_
                    rotate_left
                    · (obtain ⟨s0, s1, s2, s3, s4, s5⟩ := hW; go_simp; try with_reducible rfl)
                  refine AnyZ.one (i := 23) (by kernel_rfl) rfl (fun K hK => ?_)
                  go_simp
                  refine (whole_any (g.Y k) _ (by omega) (by omega)).mono ?_
                  rintro e w4 ⟨rfl, k2⟩
                  have HB4 := Lib.hid (Below.then_call HB3.out k2 HB3.out.size)
                  have hk2 := Keeps.of_below k2
                  replace hq := hq.keeps hk2
                  replace x0 := hk2 _ _ x0
                  replace x1 := hk2 _ _ x1
                  clear k2 hk2 g0 g1 g2 g3
                  obtain ⟨g0, g1, g2, g3⟩ := hq.four
                  refine hK _ _ (fun _ => ⟨g0, g1, g2, g3, x0, x1⟩) ?_
                  clear hK
                  refine AnyZ.mid [24, 25, 26] [] 0 rfl (by kernel_rfl) (by kernel_rfl) (by kernel_rfl) (fun _ _ _ _ e h => ⟨e.symm.trans h.1, h.2⟩) ⟨g0, g1, g2, g3, x0, x1⟩ ?_
                  iterate 3
                    refine Heads.step (v := ?_) rfl (by rfl) (fun W hW => ?_) ?_
                    rotate_left
                    · (obtain ⟨s0, s1, s2, s3, s4, s5⟩ := hW; go_simp; try with_reducible rfl)
                  refine AnyZ.done (by kernel_rfl) ?_
                  clear g0 g1 g2 g3 x0 x1 dm da db dc dd de
                  go_wp2_with fail
                  go_roundw
                  case rel => exact ⟨k + 1, by omega, by go_num, rfl, HB4⟩
                  case measure => simp [intOf]; omega
                · obtain rfl : k = g.n2 := by omega
                  go_wp2_with fail
                  go_ret
                  exact ⟨rfl, HK.out⟩
end Go.Proofs.YtngjbiipgbeemaaDoor
