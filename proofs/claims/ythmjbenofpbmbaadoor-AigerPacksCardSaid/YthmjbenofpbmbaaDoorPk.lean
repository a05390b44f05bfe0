/- aiger.Pack, walked: the graph's bytes. Conditions: the graph is valid and lies in memory; the table of powers of ten reads as laid. -/
import Derived.Test.YthmjbenofpbmbaaDoorHd
import Derived.Test.YthmjbenofpbmbaaDoorSv
import Derived.Lib.MinMax
namespace Go.Proofs.YthmjbenofpbmbaaDoor
open Go.RowKit

/-- bytes handed back in new memory -/
def MadeB (l : List UInt8) (w : World) (e : Ending) (w' : World) : Prop := ∃ A c Z, e = .returned (.slice A l.length c) ∧ OwnB Z w' A l.length c (Lib.byteCells l) ∧ Below w.heap.size w w'

set_option maxHeartbeats 8000000 in
set_option maxRecDepth 100000 in
theorem aigerPack_any (S : Nat) (g : G) (A1 A2 A3 : Option Addr) (c1 c2 c3 : Nat) (w : World) (hs : g.Small) (hg : g.At w A1 A2 A3) (ht : Tab S w) (hS : S ≤ w.heap.size) :
    Calls Tryd.prog 21 #[.agg #[.int .i64 g.ins, .slice A1 g.n1 c1, .slice A2 g.n2 c2, .slice A3 g.n3 c3]] w (MadeB (g.pack g.n2) w) := by
  have i0 := hs.v.i0; have i1 := hs.v.i1; have i2 := hs.v.n; have i3 := hs.v.n1; have i4 := hs.v.n3
  have HSM := Lib.hid hs; have HG := Lib.hid hg; have HT0 := Lib.hid ht
  clear hs hg ht
  obtain ⟨B, hBe⟩ : ∃ B, B = w.heap.size + 1 := ⟨_, rfl⟩
  have HBE := Lib.hid hBe
  go_enter Tryd.func21, Tryd.ntmps21
  go_upto_region 2 with (fail)
  have hq := BoxT.new w [.int .i64 g.ins, .slice A1 g.n1 c1, .slice A2 g.n2 c2, .slice A3 g.n3 c3] 31
  have hv0 := (Below.refl w.heap.size w).alloc (Nat.le_refl _) (.cells #[.int .i64 g.ins, .slice A1 g.n1 c1, .slice A2 g.n2 c2, .slice A3 g.n3 c3] 31)
  have hz : (w.alloc (.cells #[.int .i64 g.ins, .slice A1 g.n1 c1, .slice A2 g.n2 c2, .slice A3 g.n3 c3] 31)).heap.size = B := by rw [hBe]; simp
  generalize w.alloc (.cells #[.int .i64 g.ins, .slice A1 g.n1 c1, .slice A2 g.n2 c2, .slice A3 g.n3 c3] 31) = v0 at *
  have hI := Lib.IsBuilderF.of (Lib.fresh_isBuilder 37 5 v0)
  have hv := hv0.alloc (by omega) (.cells #[.pointer none, .slice none 0 0] 37)
  replace hq := hq.below ((Below.refl v0.heap.size v0).alloc (Nat.le_refl _) (.cells #[.pointer none, .slice none 0 0] 37))
  have hvz : B < (v0.alloc (.cells #[.pointer none, .slice none 0 0] 37)).heap.size := by simp [hz]
  rw [hz] at hI
  rw [← hBe]
  generalize v0.alloc (.cells #[.pointer none, .slice none 0 0] 37) = v at *
  have HV := Lib.hid hv
  have HW0 : Hid (Wrote B B [] v v) := Lib.hid (Wrote.refl hI)
  have hSB : S ≤ B := by omega
  have HT := Lib.hid (HT0.out.next HV.out hS)
  clear hz hI hv hv0 hBe HT0
  obtain ⟨g0, g1, g2, g3⟩ := hq.at_.four
  have hqb : w.heap.size ≠ B := by have := HBE.out; omega
  go_wp2_with fail
  refine (head_any S B B [] [97, 105, 103] g A1 A2 A3 c1 c2 c3 v HSM.out HW0.out.1 HT.out hSB (by simp) (by simp) (by omega)).mono ?_
  rintro e w1 ⟨rfl, k1⟩
  replace hq := hq.wrote k1 hqb (by decide)
  have HWS2 : Hid (Wrote B B (g.plat 0) v w1) := Lib.hid (k1.text (by simp [G.plat, cat]))
  clear k1 g0 g1 g2 g3 HW0
  obtain ⟨g0, g1, g2, g3⟩ := hq.at_.four
  go_wp2_with fail
  go_loopw [18] (fun i wr => ∃ k : Nat, k ≤ g.n1 ∧ i = .int .i64 k ∧ Hid (Wrote B B (g.plat k) v wr) ∧ Hid (BoxT wr w.heap.size 31 [.int .i64 g.ins, .slice A1 g.n1 c1, .slice A2 g.n2 c2, .slice A3 g.n3 c3])) (fun i _ => g.n1 - (intOf i).toNat)
  case atStart => exact ⟨0, by omega, rfl, HWS2, Lib.hid hq⟩
  case round =>
    obtain ⟨k, hk, rfl, HW, HQ⟩ := hrel
    have hq := HQ.out
    obtain ⟨g0, g1, g2, g3⟩ := hq.at_.four
    have hsz : B < wr.heap.size := Nat.lt_of_lt_of_le hvz HW.out.2.1.size
    have hwz : w.heap.size < wr.heap.size := by have := HBE.out; omega
    have HK : Hid (Below w.heap.size w wr) := Lib.hid (HV.out.trans (HW.out.2.1.mono (by have := HBE.out; omega)))
    have hl := G.plat_len HSM.out hk
    by_cases hlt : k < g.n1
    · obtain ⟨b1, o1, rfl, x0, x1⟩ := (HG.out.keeps (Keeps.of_below HK.out)).lat.at2 hlt
      simp only [two] at x0 x1
      have hlk := HSM.out.lat k hlt
      cases hi : g.I k with
      | true =>
        rw [hi] at x1
        have HLL := Lib.hid (show g.latL2 k = [g.L k, 1] by unfold G.latL2; simp [hi])
        clear hi
        go_wp2_with fail
        have hvs : (wr.alloc (.cells #[.int .i64 (g.L k), .bool true] 47)).heap.size = wr.heap.size + 1 := by simp
        have HWv := Lib.hid (HW.out.alloc (by omega) (.cells #[.int .i64 (g.L k), .bool true] 47))
        have hqv := hq.below ((Below.refl _ _).alloc (Nat.le_refl _) (.cells #[.int .i64 (g.L k), .bool true] 47))
        generalize wr.alloc (.cells #[.int .i64 (g.L k), .bool true] 47) = vv at *
        clear hq g0 g1 g2 g3
        refine (lines_list S B B _ [g.L k, 1] _ 2 2 _ vv hvs.symm rfl (fun j hj => ?_) HWv.out.1 (fun x hx => by simp at hx; rcases hx with rfl | rfl <;> omega) (HT.out.next HWv.out.2.1 hSB) hSB (by omega) (by omega) (by omega)).mono ?_
        · obtain rfl | rfl : j = 0 ∨ j = 1 := by omega
          all_goals rfl
        rintro e w4 ⟨rfl, k4⟩
        have HQ4 := Lib.hid (hqv.wrote k4 hqb (by decide))
        have HW4 := Lib.hid ((HWv.out.trans k4).text (l' := g.plat (k + 1)) (by rw [show g.plat (k + 1) = g.plat k ++ lineOf (g.latL2 k) from List.append_assoc .. |>.symm, HLL.out]))
        clear k4 hl hqv hvs
        go_wp2_with fail
        go_roundw
        case rel => exact ⟨k + 1, by omega, by go_num, HW4, HQ4⟩
        case measure => simp [intOf]; omega
      | false =>
        rw [hi] at x1
        have HLL := Lib.hid (show g.latL2 k = [g.L k] by unfold G.latL2; simp [hi])
        clear hi
        go_wp2_with fail
        have hvs : (wr.alloc (.cells #[.int .i64 (g.L k), .bool false] 47)).heap.size = wr.heap.size + 1 := by simp
        have HWv := Lib.hid (HW.out.alloc (by omega) (.cells #[.int .i64 (g.L k), .bool false] 47))
        have hqv := hq.below ((Below.refl _ _).alloc (Nat.le_refl _) (.cells #[.int .i64 (g.L k), .bool false] 47))
        generalize wr.alloc (.cells #[.int .i64 (g.L k), .bool false] 47) = vv at *
        clear hq g0 g1 g2 g3
        refine (lines_list S B B _ [g.L k] _ 1 1 _ vv hvs.symm rfl (fun j hj => ?_) HWv.out.1 (fun x hx => by simp at hx; subst hx <;> omega) (HT.out.next HWv.out.2.1 hSB) hSB (by omega) (by omega) (by omega)).mono ?_
        · obtain rfl : j = 0 := by omega
          all_goals rfl
        rintro e w4 ⟨rfl, k4⟩
        have HQ4 := Lib.hid (hqv.wrote k4 hqb (by decide))
        have HW4 := Lib.hid ((HWv.out.trans k4).text (l' := g.plat (k + 1)) (by rw [show g.plat (k + 1) = g.plat k ++ lineOf (g.latL2 k) from List.append_assoc .. |>.symm, HLL.out]))
        clear k4 hl hqv hvs
        go_wp2_with fail
        go_roundw
        case rel => exact ⟨k + 1, by omega, by go_num, HW4, HQ4⟩
        case measure => simp [intOf]; omega
    · obtain rfl : k = g.n1 := by omega
      have HWS3 : Hid (Wrote B B (g.pout 0) v wr) := Lib.hid (HW.out.text (by simp [G.pout, cat]))
      clear hl hk hlt HW HQ HK HWS2 hsz hwz
      go_wp2_with fail
      go_loopw [36] (fun i wr => ∃ k : Nat, k ≤ g.n3 ∧ i = .int .i64 k ∧ Hid (Wrote B B (g.pout k) v wr) ∧ Hid (BoxT wr w.heap.size 31 [.int .i64 g.ins, .slice A1 g.n1 c1, .slice A2 g.n2 c2, .slice A3 g.n3 c3])) (fun i _ => g.n3 - (intOf i).toNat)
      case atStart => exact ⟨0, by omega, rfl, HWS3, Lib.hid hq⟩
      case round =>
        obtain ⟨k, hk, rfl, HW, HQ⟩ := hrel
        have hq := HQ.out
        obtain ⟨g0, g1, g2, g3⟩ := hq.at_.four
        have hsz : B < wr.heap.size := Nat.lt_of_lt_of_le hvz HW.out.2.1.size
        have hwz : w.heap.size < wr.heap.size := by have := HBE.out; omega
        have HK : Hid (Below w.heap.size w wr) := Lib.hid (HV.out.trans (HW.out.2.1.mono (by have := HBE.out; omega)))
        have hl := G.pout_len HSM.out hk
        by_cases hlt : k < g.n3
        · obtain ⟨b3, o3, rfl, x0⟩ := (HG.out.keeps (Keeps.of_below HK.out)).outs.at_ hlt
          have hlk := HSM.out.outs k hlt
          go_wp2_with fail
          refine (lines_list S B B _ [g.O k] _ 1 1 _ wr rfl rfl (fun j hj => ?_) HW.out.1 (fun x hx => by simp at hx; subst hx; omega) (HT.out.next HW.out.2.1 hSB) hSB (by omega) (by omega) (by omega)).mono ?_
          · obtain rfl : j = 0 := by omega
            rfl
          rintro e w4 ⟨rfl, k4⟩
          have HQ4 := Lib.hid (hq.wrote k4 hqb (by decide))
          have HW4 := Lib.hid ((HW.out.trans k4).text (l' := g.pout (k + 1)) (List.append_assoc ..))
          clear k4 g0 g1 g2 g3 hq hl
          go_wp2_with fail
          go_roundw
          case rel => exact ⟨k + 1, by omega, by go_num, HW4, HQ4⟩
          case measure => simp [intOf]; omega
        · obtain rfl : k = g.n3 := by omega
          go_wp2_with fail
          refine (string_any B B _ _ HW.out.1 (by omega)).mono ?_
          rintro e w5 ⟨rfl, k5⟩
          have hq5 : BoxT w5 w.heap.size 31 [.int .i64 g.ins, .slice A1 g.n1 c1, .slice A2 g.n2 c2, .slice A3 g.n3 c3] := (k5.block _ (by have := HBE.out; omega)).trans hq
          have HK5 : Hid (Below w.heap.size w w5) := Lib.hid (HK.out.trans (k5.mono (by have := HBE.out; omega)))
          obtain ⟨cc, w6, hcv, hown, hb6⟩ := conv_bytes w5 (g.pout g.n3) (by omega)
          have hz5 : w.heap.size < w5.heap.size := by have := k5.size; omega
          obtain ⟨Z, hZ⟩ : ∃ Z, Z = w5.heap.size := ⟨_, rfl⟩
          rw [← hZ] at hown hcv
          have HZ := Lib.hid hZ
          have hzw : w.heap.size < Z := by omega
          have HO6 := Lib.hid hown
          have HQ6 := Lib.hid (hq5.below hb6)
          have HK6 : Hid (Below w.heap.size w w6) := Lib.hid (HK5.out.trans (hb6.mono (by omega)))
          have hz6 : Z ≤ w6.heap.size := by have := hb6.size; omega
          clear hk hlt HW HQ HK HWS3 hsz hwz k5 hq5 hown hb6 hZ HK5 hz5 g0 g1 g2 g3 hq
          obtain ⟨g0, g1, g2, g3⟩ := HQ6.out.at_.four
          have hpl : (g.pack 0).length = (g.pout g.n3).length := by simp [G.pack, cat]
          have HPL := Lib.hid hpl; clear hpl
          have HO7 : Hid (OwnB Z w6 (some ⟨Z, 0, none⟩) (g.pack 0).length cc (Lib.byteCells (g.pack 0))) := by
            have e : g.pack 0 = g.pout g.n3 := by simp [G.pack, cat]
            rw [e]; exact HO6
          go_wp2_with fail
          rw [← HPL.out]
          go_loopw [8, 49] (fun b i wr => ∃ (k : Nat) (A : Option Addr) (c : Nat), k ≤ g.n2 ∧ i = .int .i64 k ∧ b = .slice A (g.pack k).length c ∧ Hid (OwnB Z wr A (g.pack k).length c (Lib.byteCells (g.pack k))) ∧ Hid (Below w.heap.size w wr) ∧ Hid (BoxT wr w.heap.size 31 [.int .i64 g.ins, .slice A1 g.n1 c1, .slice A2 g.n2 c2, .slice A3 g.n3 c3]) ∧ Hid (Z ≤ wr.heap.size)) (fun _ i _ => g.n2 - (intOf i).toNat)
          case atStart => exact ⟨0, some ⟨Z, 0, none⟩, cc, by omega, rfl, rfl, HO7, HK6, HQ6, Lib.hid hz6⟩
          case round =>
            obtain ⟨k, A, c, hk, rfl, rfl, HO, HK, HQ, HZR⟩ := hrel
            have hzr := HZR.out
            have hq := HQ.out
            obtain ⟨g0, g1, g2, g3⟩ := hq.at_.four
            have hl := G.pack_len HSM.out hk
            have hwz : w.heap.size < wr.heap.size := by omega
            by_cases hlt : k < g.n2
            · obtain ⟨b2, o2, rfl, x0, x1⟩ := (HG.out.keeps (Keeps.of_below HK.out)).ands.at2 hlt
              simp only [two] at x0 x1
              have hhl := G.hi_b HSM.out hlt
              have HAN := Lib.hid (show g.pack (k + 1) = g.pack k ++ (sevenB (2 * (1 + g.ins + g.n1 + k) - g.hi k).toNat ++ sevenB (g.hi k - g.lo k).toNat) from (List.append_assoc ..).symm)
              go_upto_region 19 with (fail)
              have hvs : (wr.alloc (.cells #[.int .i64 (g.X k), .int .i64 (g.Y k)] 48)).heap.size = wr.heap.size + 1 := by simp
              have ha := BoxT.new wr [.int .i64 (g.X k), .int .i64 (g.Y k)] 48
              have HOv := Lib.hid (OwnB.alloc HO.out (.cells #[.int .i64 (g.X k), .int .i64 (g.Y k)] 48))
              have HKv := Lib.hid (HK.out.alloc (by omega) (.cells #[.int .i64 (g.X k), .int .i64 (g.Y k)] 48))
              have hqv := hq.below ((Below.refl _ _).alloc (Nat.le_refl _) (.cells #[.int .i64 (g.X k), .int .i64 (g.Y k)] 48))
              generalize wr.alloc (.cells #[.int .i64 (g.X k), .int .i64 (g.Y k)] 48) = vv at *
              clear hq g0 g1 g2 g3 x0 x1
              have a0 := ha.at_ 0 _ rfl
              have a1 := ha.at_ 1 _ rfl
              refine wp_region_z (fun w' => w'.cell? ⟨wr.heap.size, 0, none⟩ = some (.int .i64 (g.X k)) ∧ w'.cell? ⟨wr.heap.size, 1, none⟩ = some (.int .i64 (g.Y k))) [0, 1, 2, 3, 4, 5, 6, 7, 8, 9, 10, 11] [] (by kernel_rfl) (by kernel_rfl) (by kernel_rfl) (by rfl) (fun _ _ _ _ e h => ⟨e.symm.trans h.1, h.2⟩) ⟨a0, a1⟩ ?_
              iterate 12
                refine Heads.step (v := ?_) rfl (by rfl) (fun W hW => ?_) ?_
                rotate_left
                · (obtain ⟨s0, s1⟩ := hW; go_simp; try with_reducible rfl)
              refine AnyZ.done (by kernel_rfl) ?_
              clear a0 a1
              obtain ⟨g0, g1, g2, g3⟩ := hqv.at_.four
              have hx1 : max (g.X k) (g.Y k) = g.hi k := rfl
              have hx2 : min (g.X k) (g.Y k) = g.lo k := rfl
              generalize g.hi k = hi at *
              generalize g.lo k = lo at *
              have HVZ : Hid (Z ≤ vv.heap.size) := Lib.hid (by omega)
              clear hvs ha
              go_wp2_with fail
              refine (aigerFirst_any _ _ _ _ _ _ _ _ _ _ _ i0 i1 (by omega)).mono ?_
              rintro e w2 ⟨rfl, k2⟩
              replace k2 : Below vv.heap.size vv w2 := ⟨k2.os, k2.tape, k2.output, k2.size, k2.block⟩
              have HO2 := Lib.hid (HOv.out.below k2)
              have hq2 := hqv.below k2
              have HZ2 : Hid (Z ≤ w2.heap.size) := Lib.hid (by have := k2.size; have := HVZ.out; omega)
              have HK2 : Hid (Below w.heap.size w w2) := Lib.hid (HKv.out.trans (k2.mono (by have := HVZ.out; omega)))
              clear k2 g0 g1 g2 g3 hqv HOv HKv
              go_wp2_with fail
              refine (seven_int Z A c (g.pack k) (2 * (1 + g.ins + g.n1 + k) - hi) w2 HO2.out (by omega) (by omega) (by omega) HZ2.out).mono ?_
              rintro e w3 ⟨A', c', he3, ho3, hk3, hf3⟩
              obtain ⟨L3, hL3⟩ : ∃ L, L = g.pack k ++ sevenB (2 * (1 + g.ins + g.n1 + k) - hi).toNat := ⟨_, rfl⟩
              rw [← hL3] at he3 ho3
              subst he3
              have hl3 : L3.length ≤ 4000010 := by
                have hs1 := seven_len5 (n := (2 * (1 + g.ins + g.n1 + k) - hi).toNat) (by omega)
                rw [hL3]; simp only [List.length_append]; omega
              have HL3 := Lib.hid hL3; clear hL3
              have hb3 := Bytes.below HO2.out hk3 HZ2.out
              have hq3 : BoxT w3 w.heap.size 31 [.int .i64 g.ins, .slice A1 g.n1 c1, .slice (some ⟨b2, o2, none⟩) g.n2 c2, .slice A3 g.n3 c3] := (hb3.block _ hzw).trans hq2
              have HO3 := Lib.hid ho3
              have HZ3 : Hid (Z ≤ w3.heap.size) := Lib.hid (by have := hb3.size; have := HZ2.out; omega)
              have HK3 : Hid (Below w.heap.size w w3) := Lib.hid (HK2.out.trans (hb3.mono (by omega)))
              clear ho3 hk3 hf3 hb3 hq2 HO2 HK2
              go_wp2_with fail
              refine (seven_int Z A' c' L3 (hi - lo) w3 HO3.out (by omega) (by omega) (by omega) HZ3.out).mono ?_
              rintro e w4 ⟨A'', c'', he4, ho4, hk4, hf4⟩
              rw [show L3 ++ sevenB (hi - lo).toNat = g.pack (k + 1) by rw [HAN.out, HL3.out, List.append_assoc]] at he4 ho4
              subst he4
              have HO4 := Lib.hid ho4
              have hb4 := Bytes.below HO3.out hk4 HZ3.out
              have HQ4 : Hid (BoxT w4 w.heap.size 31 [.int .i64 g.ins, .slice A1 g.n1 c1, .slice (some ⟨b2, o2, none⟩) g.n2 c2, .slice A3 g.n3 c3]) := Lib.hid ((hb4.block _ hzw).trans hq3)
              have HZ4 : Hid (Z ≤ w4.heap.size) := Lib.hid (by have := hb4.size; have := HZ3.out; omega)
              have HK4 : Hid (Below w.heap.size w w4) := Lib.hid (HK3.out.trans (hb4.mono (by omega)))
              clear ho4 hk4 hf4 hb4 hq3 HO3 HK3
              go_wp2_with fail
              go_roundw
              case rel => exact ⟨k + 1, A'', c'', by omega, by go_num, rfl, HO4, HK4, HQ4, HZ4⟩
              case measure => simp [intOf]; omega
            · obtain rfl : k = g.n2 := by omega
              go_wp2_with fail
              go_ret
              exact ⟨A, c, Z, rfl, HO.out, HK.out⟩
end Go.Proofs.YthmjbenofpbmbaaDoor
