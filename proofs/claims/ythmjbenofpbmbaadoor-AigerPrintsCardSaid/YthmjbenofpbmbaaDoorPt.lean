/- aiger.Print, walked: the graph's text. Conditions: the graph is valid and lies in memory; the table of powers of ten reads as laid. -/
import Derived.Test.YthmjbenofpbmbaaDoorHd
namespace Go.Proofs.YthmjbenofpbmbaaDoor
open Go.RowKit

set_option maxHeartbeats 4000000 in
set_option maxRecDepth 100000 in
theorem aigerPrint_any (S : Nat) (g : G) (A1 A2 A3 : Option Addr) (c1 c2 c3 : Nat) (w : World) (hs : g.Small) (hg : g.At w A1 A2 A3) (ht : Tab S w) (hS : S ≤ w.heap.size) :
    Calls Tryd.prog 19 #[.agg #[.int .i64 g.ins, .slice A1 g.n1 c1, .slice A2 g.n2 c2, .slice A3 g.n3 c3]] w fun e w' => e = .returned (.string (str (g.text g.n2))) ∧ Below w.heap.size w w' := by
  have i0 := hs.v.i0; have i1 := hs.v.i1; have i2 := hs.v.n; have i3 := hs.v.n1; have i4 := hs.v.n3
  have HSM := Lib.hid hs; have HG := Lib.hid hg; have HT0 := Lib.hid ht
  clear hs hg ht
  obtain ⟨B, hBe⟩ : ∃ B, B = w.heap.size + 1 := ⟨_, rfl⟩
  have HBE := Lib.hid hBe
  go_enter Tryd.func19, Tryd.ntmps19
  go_upto_region 2 with (fail)
  have hq := BoxT.new w [.int .i64 g.ins, .slice A1 g.n1 c1, .slice A2 g.n2 c2, .slice A3 g.n3 c3] 31
  have hv0 := (Below.refl w.heap.size w).alloc (Nat.le_refl _) (.cells #[.int .i64 g.ins, .slice A1 g.n1 c1, .slice A2 g.n2 c2, .slice A3 g.n3 c3] 31)
  have hz : (w.alloc (.cells #[.int .i64 g.ins, .slice A1 g.n1 c1, .slice A2 g.n2 c2, .slice A3 g.n3 c3] 31)).heap.size = B := by rw [hBe]; simp
  generalize w.alloc (.cells #[.int .i64 g.ins, .slice A1 g.n1 c1, .slice A2 g.n2 c2, .slice A3 g.n3 c3] 31) = v0 at *
  have hI := Lib.IsBuilderF.of (Lib.fresh_isBuilder 37 5 v0)
  have hv := hv0.alloc (by omega) (.cells #[.pointer none, .slice none 0 0] 37)
  replace hq := hq.below ((Below.refl v0.heap.size v0).alloc (Nat.le_refl _) (.cells #[.pointer none, .slice none 0 0] 37))
  have hvz : B < (v0.alloc (.cells #[.pointer none, .slice none 0 0] 37)).heap.size := by simp [hz]
  rw [hz] at hI
  rw [← hBe]
  generalize v0.alloc (.cells #[.pointer none, .slice none 0 0] 37) = v at *
  have HV := Lib.hid hv
  have HW0 : Hid (Wrote B B [] v v) := Lib.hid (Wrote.refl hI)
  have hSB : S ≤ B := by omega
  have HT := Lib.hid (HT0.out.next HV.out hS)
  clear hz hI hv hv0 hBe HT0
  obtain ⟨g0, g1, g2, g3⟩ := hq.at_.four
  have hqb : w.heap.size ≠ B := by have := HBE.out; omega
  go_wp2_with fail
  refine (head_any S B B [] [97, 97, 103] g A1 A2 A3 c1 c2 c3 v HSM.out HW0.out.1 HT.out hSB (by simp) (by simp) (by omega)).mono ?_
  rintro e w1 ⟨rfl, k1⟩
  replace hq := hq.wrote k1 hqb (by decide)
  have HW1 : Hid (Wrote B B (g.insT 0) v w1) := Lib.hid (k1.text (by simp [G.insT, cat]))
  clear k1 g0 g1 g2 g3 HW0
  obtain ⟨g0, g1, g2, g3⟩ := hq.at_.four
  go_wp2_with fail
  have HWS := HW1
  go_loopw [15] (fun i wr => ∃ k : Nat, k ≤ g.ins.toNat ∧ i = .int .i64 k ∧ Hid (Wrote B B (g.insT k) v wr) ∧ Hid (BoxT wr w.heap.size 31 [.int .i64 g.ins, .slice A1 g.n1 c1, .slice A2 g.n2 c2, .slice A3 g.n3 c3])) (fun i _ => g.ins.toNat - (intOf i).toNat)
  case atStart => exact ⟨0, by omega, rfl, HWS, Lib.hid hq⟩
  case round =>
    obtain ⟨k, hk, rfl, HW, HQ⟩ := hrel
    have hq := HQ.out
    obtain ⟨g0, g1, g2, g3⟩ := hq.at_.four
    have hsz : B < wr.heap.size := Nat.lt_of_lt_of_le hvz HW.out.2.1.size
    have hwz : w.heap.size < wr.heap.size := by have := HBE.out; omega
    have HK : Hid (Below w.heap.size w wr) := Lib.hid (HV.out.trans (HW.out.2.1.mono (by have := HBE.out; omega)))
    have hl := G.insT_len HSM.out (k := k) (by omega)
    by_cases hlt : (k : Int) < g.ins
    · go_wp2_with fail
      refine (lines_list S B B _ [2 * (1 + (k : Int))] _ 1 1 _ wr rfl rfl (fun j hj => ?_) HW.out.1 (fun x hx => by simp at hx; subst hx; omega) (HT.out.next HW.out.2.1 hSB) hSB (by omega) (by omega) (by omega)).mono ?_
      · obtain rfl : j = 0 := by omega
        rfl
      rintro e w4 ⟨rfl, k4⟩
      have HQ4 := Lib.hid (hq.wrote k4 hqb (by decide))
      have HW4 := Lib.hid ((HW.out.trans k4).text (l' := g.insT (k + 1)) (by simp [G.insT, cat]))
      clear k4 g0 g1 g2 g3 hq hl
      go_wp2_with fail
      go_roundw
      case rel => exact ⟨k + 1, by omega, by go_num, HW4, HQ4⟩
      case measure => simp [intOf]; omega
    · have HWS2 : Hid (Wrote B B (g.latT 0) v wr) := Lib.hid (HW.out.text (by rw [show k = g.ins.toNat by omega]; simp [G.latT, cat]))
      clear hl hk HW HQ HK HW1 HWS hsz hwz
      go_wp2_with fail
      clear hlt
      go_loopw [27] (fun i wr => ∃ k : Nat, k ≤ g.n1 ∧ i = .int .i64 k ∧ Hid (Wrote B B (g.latT k) v wr) ∧ Hid (BoxT wr w.heap.size 31 [.int .i64 g.ins, .slice A1 g.n1 c1, .slice A2 g.n2 c2, .slice A3 g.n3 c3])) (fun i _ => g.n1 - (intOf i).toNat)
      case atStart => exact ⟨0, by omega, rfl, HWS2, Lib.hid hq⟩
      case round =>
        obtain ⟨k, hk, rfl, HW, HQ⟩ := hrel
        have hq := HQ.out
        obtain ⟨g0, g1, g2, g3⟩ := hq.at_.four
        have hsz : B < wr.heap.size := Nat.lt_of_lt_of_le hvz HW.out.2.1.size
        have hwz : w.heap.size < wr.heap.size := by have := HBE.out; omega
        have HK : Hid (Below w.heap.size w wr) := Lib.hid (HV.out.trans (HW.out.2.1.mono (by have := HBE.out; omega)))
        have hl := G.latT_len HSM.out hk
        by_cases hlt : k < g.n1
        · obtain ⟨b1, o1, rfl, x0, x1⟩ := (HG.out.keeps (Keeps.of_below HK.out)).lat.at2 hlt
          simp only [two] at x0 x1
          have hlk := HSM.out.lat k hlt
          cases hi : g.I k with
          | true =>
            rw [hi] at x1
            have HLL := Lib.hid (show g.latL k = [2 * (1 + g.ins + k), g.L k, 1] by unfold G.latL; simp [hi])
            clear hi
            go_wp2_with fail
            have hvs : (wr.alloc (.cells #[.int .i64 (g.L k), .bool true] 47)).heap.size = wr.heap.size + 1 := by simp
            have HWv := Lib.hid (HW.out.alloc (by omega) (.cells #[.int .i64 (g.L k), .bool true] 47))
            have hqv := hq.below ((Below.refl _ _).alloc (Nat.le_refl _) (.cells #[.int .i64 (g.L k), .bool true] 47))
            generalize wr.alloc (.cells #[.int .i64 (g.L k), .bool true] 47) = vv at *
            clear hq g0 g1 g2 g3
            refine (lines_list S B B _ [2 * (1 + g.ins + k), g.L k, 1] _ 3 3 _ vv hvs.symm rfl (fun j hj => ?_) HWv.out.1 (fun x hx => by simp at hx; rcases hx with rfl | rfl | rfl <;> omega) (HT.out.next HWv.out.2.1 hSB) hSB (by omega) (by omega) (by omega)).mono ?_
            · obtain rfl | rfl | rfl : j = 0 ∨ j = 1 ∨ j = 2 := by omega
              all_goals rfl
            rintro e w4 ⟨rfl, k4⟩
            have HQ4 := Lib.hid (hqv.wrote k4 hqb (by decide))
            have HW4 := Lib.hid ((HWv.out.trans k4).text (l' := g.latT (k + 1)) (by rw [show g.latT (k + 1) = g.latT k ++ lineOf (g.latL k) from List.append_assoc .. |>.symm, HLL.out]))
            clear k4 hl hqv hvs
            go_wp2_with fail
            go_roundw
            case rel => exact ⟨k + 1, by omega, by go_num, HW4, HQ4⟩
            case measure => simp [intOf]; omega
          | false =>
            rw [hi] at x1
            have HLL := Lib.hid (show g.latL k = [2 * (1 + g.ins + k), g.L k] by unfold G.latL; simp [hi])
            clear hi
            go_wp2_with fail
            have hvs : (wr.alloc (.cells #[.int .i64 (g.L k), .bool false] 47)).heap.size = wr.heap.size + 1 := by simp
            have HWv := Lib.hid (HW.out.alloc (by omega) (.cells #[.int .i64 (g.L k), .bool false] 47))
            have hqv := hq.below ((Below.refl _ _).alloc (Nat.le_refl _) (.cells #[.int .i64 (g.L k), .bool false] 47))
            generalize wr.alloc (.cells #[.int .i64 (g.L k), .bool false] 47) = vv at *
            clear hq g0 g1 g2 g3
            refine (lines_list S B B _ [2 * (1 + g.ins + k), g.L k] _ 2 2 _ vv hvs.symm rfl (fun j hj => ?_) HWv.out.1 (fun x hx => by simp at hx; rcases hx with rfl | rfl <;> omega) (HT.out.next HWv.out.2.1 hSB) hSB (by omega) (by omega) (by omega)).mono ?_
            · obtain rfl | rfl : j = 0 ∨ j = 1 := by omega
              all_goals rfl
            rintro e w4 ⟨rfl, k4⟩
            have HQ4 := Lib.hid (hqv.wrote k4 hqb (by decide))
            have HW4 := Lib.hid ((HWv.out.trans k4).text (l' := g.latT (k + 1)) (by rw [show g.latT (k + 1) = g.latT k ++ lineOf (g.latL k) from List.append_assoc .. |>.symm, HLL.out]))
            clear k4 hl hqv hvs
            go_wp2_with fail
            go_roundw
            case rel => exact ⟨k + 1, by omega, by go_num, HW4, HQ4⟩
            case measure => simp [intOf]; omega
        · obtain rfl : k = g.n1 := by omega
          have HWS3 : Hid (Wrote B B (g.outT 0) v wr) := Lib.hid (HW.out.text (by simp [G.outT, cat]))
          clear hl hk hlt HW HQ HK HWS2 hsz hwz
          go_wp2_with fail
          go_loopw [58] (fun i wr => ∃ k : Nat, k ≤ g.n3 ∧ i = .int .i64 k ∧ Hid (Wrote B B (g.outT k) v wr) ∧ Hid (BoxT wr w.heap.size 31 [.int .i64 g.ins, .slice A1 g.n1 c1, .slice A2 g.n2 c2, .slice A3 g.n3 c3])) (fun i _ => g.n3 - (intOf i).toNat)
          case atStart => exact ⟨0, by omega, rfl, HWS3, Lib.hid hq⟩
          case round =>
            obtain ⟨k, hk, rfl, HW, HQ⟩ := hrel
            have hq := HQ.out
            obtain ⟨g0, g1, g2, g3⟩ := hq.at_.four
            have hsz : B < wr.heap.size := Nat.lt_of_lt_of_le hvz HW.out.2.1.size
            have hwz : w.heap.size < wr.heap.size := by have := HBE.out; omega
            have HK : Hid (Below w.heap.size w wr) := Lib.hid (HV.out.trans (HW.out.2.1.mono (by have := HBE.out; omega)))
            have hl := G.outT_len HSM.out hk
            by_cases hlt : k < g.n3
            · obtain ⟨b3, o3, rfl, x0⟩ := (HG.out.keeps (Keeps.of_below HK.out)).outs.at_ hlt
              have hlk := HSM.out.outs k hlt
              go_wp2_with fail
              refine (lines_list S B B _ [g.O k] _ 1 1 _ wr rfl rfl (fun j hj => ?_) HW.out.1 (fun x hx => by simp at hx; subst hx; omega) (HT.out.next HW.out.2.1 hSB) hSB (by omega) (by omega) (by omega)).mono ?_
              · obtain rfl : j = 0 := by omega
                rfl
              rintro e w4 ⟨rfl, k4⟩
              have HQ4 := Lib.hid (hq.wrote k4 hqb (by decide))
              have HW4 := Lib.hid ((HW.out.trans k4).text (l' := g.outT (k + 1)) (List.append_assoc ..))
              clear k4 g0 g1 g2 g3 hq hl
              go_wp2_with fail
              go_roundw
              case rel => exact ⟨k + 1, by omega, by go_num, HW4, HQ4⟩
              case measure => simp [intOf]; omega
            · obtain rfl : k = g.n3 := by omega
              have HWS4 : Hid (Wrote B B (g.text 0) v wr) := Lib.hid (HW.out.text (by simp [G.text, cat]))
              clear hl hk hlt HW HQ HK HWS3 hsz hwz
              go_wp2_with fail
              go_loopw [69] (fun i wr => ∃ k : Nat, k ≤ g.n2 ∧ i = .int .i64 k ∧ Hid (Wrote B B (g.text k) v wr) ∧ Hid (BoxT wr w.heap.size 31 [.int .i64 g.ins, .slice A1 g.n1 c1, .slice A2 g.n2 c2, .slice A3 g.n3 c3])) (fun i _ => g.n2 - (intOf i).toNat)
              case atStart => exact ⟨0, by omega, rfl, HWS4, Lib.hid hq⟩
              case round =>
                obtain ⟨k, hk, rfl, HW, HQ⟩ := hrel
                have hq := HQ.out
                obtain ⟨g0, g1, g2, g3⟩ := hq.at_.four
                have hsz : B < wr.heap.size := Nat.lt_of_lt_of_le hvz HW.out.2.1.size
                have hwz : w.heap.size < wr.heap.size := by have := HBE.out; omega
                have HK : Hid (Below w.heap.size w wr) := Lib.hid (HV.out.trans (HW.out.2.1.mono (by have := HBE.out; omega)))
                have hl := G.text_len HSM.out hk
                by_cases hlt : k < g.n2
                · obtain ⟨b2, o2, rfl, x0, x1⟩ := (HG.out.keeps (Keeps.of_below HK.out)).ands.at2 hlt
                  simp only [two] at x0 x1
                  have hlk := HSM.out.ands k hlt
                  go_upto_region 23 with (fail)
                  have hvs : (wr.alloc (.cells #[.int .i64 (g.X k), .int .i64 (g.Y k)] 48)).heap.size = wr.heap.size + 1 := by simp
                  have ha := BoxT.new wr [.int .i64 (g.X k), .int .i64 (g.Y k)] 48
                  have HWv := Lib.hid (HW.out.alloc (by omega) (.cells #[.int .i64 (g.X k), .int .i64 (g.Y k)] 48))
                  have hqv := hq.below ((Below.refl _ _).alloc (Nat.le_refl _) (.cells #[.int .i64 (g.X k), .int .i64 (g.Y k)] 48))
                  generalize wr.alloc (.cells #[.int .i64 (g.X k), .int .i64 (g.Y k)] 48) = vv at *
                  clear hq g0 g1 g2 g3 x0 x1
                  obtain ⟨g0, g1, g2, g3⟩ := hqv.at_.four
                  have a0 := ha.at_ 0 _ rfl
                  have a1 := ha.at_ 1 _ rfl
                  refine wp_region_z (fun w' => w'.cell? ⟨w.heap.size, 0, none⟩ = some (.int .i64 g.ins) ∧ w'.cell? ⟨w.heap.size, 1, none⟩ = some (.slice A1 g.n1 c1) ∧ w'.cell? ⟨w.heap.size, 2, none⟩ = some (.slice (some ⟨b2, o2, none⟩) g.n2 c2) ∧ w'.cell? ⟨w.heap.size, 3, none⟩ = some (.slice A3 g.n3 c3) ∧ w'.cell? ⟨wr.heap.size, 0, none⟩ = some (.int .i64 (g.X k)) ∧ w'.cell? ⟨wr.heap.size, 1, none⟩ = some (.int .i64 (g.Y k))) [0, 2, 5, 6, 7, 8] [9, 10] (by kernel_rfl) (by kernel_rfl) (by kernel_rfl) (by rfl) (fun _ _ _ _ e h => ⟨e.symm.trans h.1, h.2⟩) ⟨g0, g1, g2, g3, a0, a1⟩ ?_
                  iterate 6
                    refine Heads.step (v := ?_) rfl (by rfl) (fun W hW => ?_) ?_
                    rotate_left
                    · (obtain ⟨s0, s1, s2, s3, s4, s5⟩ := hW; go_simp; try with_reducible rfl)
                  have hvb : B < vv.heap.size := by omega
                  clear hvs
                  refine AnyZ.one (i := 1) (by kernel_rfl) rfl (fun K hK => ?_)
                  go_simp
                  refine (aigerFirst_any _ _ _ _ _ _ _ _ _ _ _ i0 i1 (by omega)).mono ?_
                  rintro e w3 ⟨rfl, k3⟩
                  replace k3 : Below vv.heap.size vv w3 := ⟨k3.os, k3.tape, k3.output, k3.size, k3.block⟩
                  replace hqv := hqv.below k3
                  replace ha := ha.below k3
                  have HW3 := Lib.hid (HWv.out.call k3 (by omega))
                  have hs3 : B < w3.heap.size := Nat.lt_of_lt_of_le hvz HW3.out.2.1.size
                  clear k3 g0 g1 g2 g3 a0 a1
                  obtain ⟨g0, g1, g2, g3⟩ := hqv.at_.four
                  have a0 := ha.at_ 0 _ rfl
                  have a1 := ha.at_ 1 _ rfl
                  have e1 : IntKind.i64.wrap (1 + g.ins + (g.n1 : Int) + (k : Int)) = 1 + g.ins + g.n1 + k := IntWalk.i64_in _ (by omega)
                  have e2 : IntKind.i64.wrap (2 * (1 + g.ins + (g.n1 : Int) + (k : Int))) = 2 * (1 + g.ins + g.n1 + k) := IntWalk.i64_in _ (by omega)
                  refine hK _ _ (fun _ => ⟨g0, g1, g2, g3, a0, a1⟩) ?_
                  clear hK
                  refine AnyZ.one (i := 3) (by kernel_rfl) rfl (fun K hK => ?_)
                  go_simp
                  refine hK _ _ (fun _ => ⟨g0, g1, g2, g3, a0, a1⟩) ?_
                  clear hK
                  refine AnyZ.one (i := 4) (by kernel_rfl) rfl (fun K hK => ?_)
                  go_simp
                  refine hK _ _ (fun _ => ⟨g0, g1, g2, g3, a0, a1⟩) ?_
                  clear hK
                  refine AnyZ.one (i := 9) (by kernel_rfl) rfl (fun K hK => ?_)
                  go_simp
                  refine hK _ _ (fun h => by cases h) ?_
                  clear hK
                  clear e1 e2
                  refine AnyZ.one (i := 10) (by kernel_rfl) rfl (fun K hK => ?_)
                  go_simp
                  refine (lines_list S B B _ [2 * (1 + g.ins + g.n1 + k), g.X k, g.Y k] _ 3 3 _ w3 rfl rfl (fun j hj => ?_) HW3.out.1 (fun x hx => by simp at hx; rcases hx with rfl | rfl | rfl <;> omega) (HT.out.next HW3.out.2.1 hSB) hSB (by omega) (by omega) (by omega)).mono ?_
                  · obtain rfl | rfl | rfl : j = 0 ∨ j = 1 ∨ j = 2 := by omega
                    all_goals rfl
                  rintro e w4 ⟨rfl, k4⟩
                  have HQ4 := Lib.hid (hqv.wrote k4 hqb (by decide))
                  have HW4 := Lib.hid ((HW3.out.trans k4).text (l' := g.text (k + 1)) (List.append_assoc ..))
                  clear k4 hl hqv
                  refine hK _ _ (fun h => by cases h) (AnyZ.done (by kernel_rfl) ?_)
                  clear hK
                  clear g0 g1 g2 g3 a0 a1
                  go_wp2_with fail
                  go_roundw
                  case rel => exact ⟨k + 1, by omega, by go_num, HW4, HQ4⟩
                  case measure => simp [intOf]; omega
                · obtain rfl : k = g.n2 := by omega
                  go_wp2_with fail
                  refine (string_any B B _ _ HW.out.1 (by omega)).mono ?_
                  rintro e w5 ⟨rfl, k5⟩
                  have HB5 : Hid (Below w.heap.size w w5) := Lib.hid (HK.out.trans (k5.mono (by have := HBE.out; omega)))
                  clear k5 hl hk hlt
                  go_wp2_with fail
                  go_ret
                  exact ⟨rfl, HB5.out⟩
end Go.Proofs.YthmjbenofpbmbaaDoor
