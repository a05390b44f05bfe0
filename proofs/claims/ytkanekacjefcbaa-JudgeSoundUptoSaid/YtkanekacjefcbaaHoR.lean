/- judge.right, walked: it returns whether the graph is valid. Condition: the graph lies in memory and its lists are within the form's reach. -/
import Derived.Test.YtkanekacjefcbaaValidJ
import Derived.Deep.DeepCutAuto
namespace Go.Proofs.Ytkanekacjefcbaa
open Go.RowKit

set_option maxHeartbeats 1000000 in
theorem inR_any (l n : Int) (w : World) (h0 : 0 ≤ n) (h1 : n ≤ 1000000000000) :
    Calls Try.prog 33 #[.int .i64 l, .int .i64 n] w fun e w' => e = .returned (.bool (tf (0 ≤ l ∧ l < 2 * n))) ∧ w' = w := by
  go_enter Try.func33, Try.ntmps33
  by_cases c1 : 0 ≤ l
  · by_cases c2 : l < 2 * n
    · go_wp2_with fail
      go_ret
      exact ⟨ret_bool (tf_yes ⟨c1, c2⟩).symm, rfl⟩
    · go_wp2_with fail
      go_ret
      exact ⟨ret_bool (tf_no (fun h => by omega)).symm, rfl⟩
  · go_wp2_with fail
    go_ret
    exact ⟨ret_bool (tf_no (fun h => by omega)).symm, rfl⟩
set_option maxHeartbeats 4000000 in
theorem rightJ_any (g : G) (A1 A2 A3 : Option Addr) (c1 c2 c3 : Nat) (w : World) (hg : g.At w A1 A2 A3) (hfit : g.Fits) :
    Calls Try.prog 18 #[.agg #[.int .i64 g.ins, .slice A1 g.n1 c1, .slice A2 g.n2 c2, .slice A3 g.n3 c3]] w (SaysB g.Valid w) := by
  have f1 := hfit.b1; have f2 := hfit.b2; have f3 := hfit.b3; have f4 := hfit.i
  go_enter Try.func18, Try.ntmps18
  go_upto_region 1 with (fail)
  have hbl : Below w.heap.size w (w.alloc (.cells #[.int .i64 g.ins, .slice A1 g.n1 c1, .slice A2 g.n2 c2, .slice A3 g.n3 c3] 30)) := (Below.refl _ _).alloc (Nat.le_refl _) _
  have hbox := BoxAt.new w [.int .i64 g.ins, .slice A1 g.n1 c1, .slice A2 g.n2 c2, .slice A3 g.n3 c3] 30
  generalize w.alloc (.cells #[.int .i64 g.ins, .slice A1 g.n1 c1, .slice A2 g.n2 c2, .slice A3 g.n3 c3] 30) = w1 at *
  have HB1 := Lib.hid hbl; clear hbl
  have hs1 := HB1.out.size
  obtain ⟨g0, g1, g2, g3⟩ := hbox.four
  by_cases hr : 0 ≤ g.ins ∧ g.ins ≤ 60000
  · obtain ⟨hr0, hr1⟩ := hr
    by_cases hsm : g.n1 ≤ 6000 ∧ g.n3 ≤ 60000 ∧ 1 + g.ins + g.n1 + g.n2 ≤ 60000
    · obtain ⟨k1, k3, k2⟩ := hsm
      have d0 : (g.ins < 0) = False := by simp; omega
      go_wp2_with fail
      clear g0 g1 g2 g3
      go_loopw [51] (fun i wr => ∃ m : Nat, m ≤ g.n2 ∧ i = .int .i64 m ∧ Below w1.heap.size w1 wr ∧ Hid (∀ j, j < m → g.AndOk j)) (fun i _ => g.n2 - (intOf i).toNat)
      case atStart => exact ⟨0, by omega, rfl, Below.refl _ _, fun j hj => by omega⟩
      case round =>
        obtain ⟨m, hm, rfl, hbr, HA⟩ := hrel
        have hgr := hg.keeps ((Keeps.of_below HB1.out).trans (Keeps.of_below hbr))
        have hsr := hbr.size
        by_cases hlt : m < g.n2
        · obtain ⟨b2, o2, rfl, x0, y0⟩ := hgr.ands.at2 hlt
          simp only [two] at x0 y0
          have HBr := Lib.hid ((HB1.out.trans (hbr.mono (by omega))).alloc (by omega) (.cells #[.int .i64 (g.X m), .int .i64 (g.Y m)] 49))
          have hbx := hbr.alloc hbr.size (.cells #[.int .i64 (g.X m), .int .i64 (g.Y m)] 49)
          have HBX := Lib.hid hbx; clear hbx
          go_wp2_with fail
          refine (inR_any _ _ _ (by omega) (by omega)).mono ?_
          rintro e w2 ⟨rfl, rfl⟩
          by_cases cX : 0 ≤ g.X m ∧ g.X m < 2 * (1 + g.ins + g.n1 + m)
          · rw [tf_yes cX]
            go_wp2_with fail
            refine (inR_any _ _ _ (by omega) (by omega)).mono ?_
            rintro e w2 ⟨rfl, rfl⟩
            by_cases cY : 0 ≤ g.Y m ∧ g.Y m < 2 * (1 + g.ins + g.n1 + m)
            · rw [tf_yes cY]
              have HA2 : Hid (∀ j, j < m + 1 → g.AndOk j) := Lib.hid (fun j hj => if e : j = m then e ▸ (by unfold G.AndOk; omega) else HA.out j (by omega))
              clear cX cY
              go_wp2_with fail
              go_roundw
              case rel => exact ⟨m + 1, by omega, by go_num, HBX.out, HA2.out⟩
              case measure => simp [intOf]; omega
            · rw [tf_no cY]
              have HNO : Hid (¬ g.Valid) := Lib.hid (fun h => by have := h.ands m hlt; unfold G.AndOk at this; omega)
              clear cX cY
              go_wp2_with fail
              go_ret
              exact says_no HNO.out HBr.out
          · rw [tf_no cX]
            have HNO : Hid (¬ g.Valid) := Lib.hid (fun h => by have := h.ands m hlt; unfold G.AndOk at this; omega)
            clear cX
            go_wp2_with fail
            go_ret
            exact says_no HNO.out HBr.out
        · have HB2 := Lib.hid (HB1.out.trans (hbr.mono (by omega)))
          have hbox2 := hbox.keeps (Keeps.of_below hbr)
          obtain ⟨g0, g1, g2, g3⟩ := hbox2.four
          obtain rfl : m = g.n2 := by omega
          have HBW := Lib.hid hbr
          go_wp2_with fail
          clear g0 g1 g2 g3 hbr
          obtain ⟨wz, hwz⟩ : ∃ wz : World, wz = wr := ⟨_, rfl⟩
          have HWZ := Lib.hid hwz; clear hwz
          go_loopw [78] (fun i wi => ∃ m : Nat, m ≤ g.n1 ∧ i = .int .i64 m ∧ Below wz.heap.size wz wi ∧ Hid (∀ j, j < m → g.LitOk (g.L j))) (fun i _ => g.n1 - (intOf i).toNat)
          case atStart => exact ⟨0, by omega, rfl, by rw [HWZ.out]; exact Below.refl _ _, fun j hj => by omega⟩
          case round =>
            obtain ⟨m, hm, rfl, hbr, HL⟩ := hrel
            have hsr := hbr.size
            have hsz2 : w.heap.size ≤ wz.heap.size := by rw [HWZ.out]; exact HB2.out.size
            have HBr := Lib.hid ((show Below w.heap.size w wz by rw [HWZ.out]; exact HB2.out).trans (hbr.mono hsz2))
            have hgr := hg.keeps (Keeps.of_below HBr.out)
            by_cases hlt : m < g.n1
            · obtain ⟨b1, o1, rfl, x0, y0⟩ := hgr.lat.at2 hlt
              simp only [two] at x0 y0
              have HBr2 := Lib.hid (HBr.out.alloc (by omega) (.cells #[.int .i64 (g.L m), .bool (g.I m)] 70))
              have hbx := hbr.alloc hbr.size (.cells #[.int .i64 (g.L m), .bool (g.I m)] 70)
              have HBX := Lib.hid hbx; clear hbx
              go_wp2_with fail
              refine (inR_any _ _ _ (by omega) (by omega)).mono ?_
              rintro e w2 ⟨rfl, rfl⟩
              by_cases cX : 0 ≤ g.L m ∧ g.L m < 2 * (1 + g.ins + g.n1 + g.n2)
              · rw [tf_yes cX]
                have HA2 : Hid (∀ j, j < m + 1 → g.LitOk (g.L j)) := Lib.hid (fun j hj => if e : j = m then e ▸ cX else HL.out j (by omega))
                clear cX
                go_wp2_with fail
                go_roundw
                case rel => exact ⟨m + 1, by omega, by go_num, HBX.out, HA2.out⟩
                case measure => simp [intOf]; omega
              · rw [tf_no cX]
                have HNO : Hid (¬ g.Valid) := Lib.hid (fun h => cX (h.lat m hlt))
                clear cX
                go_wp2_with fail
                go_ret
                exact says_no HNO.out HBr2.out
            · obtain ⟨g0, g1, g2, g3⟩ := (hbox.keeps (Keeps.of_below (show Below w1.heap.size w1 wz by rw [HWZ.out]; exact HBW.out))).keeps (Keeps.of_below hbr) |>.four
              obtain rfl : m = g.n1 := by omega
              go_wp2_with fail
              clear g0 g1 g2 g3
              go_loop [92] (fun i => ∃ m : Nat, m ≤ g.n3 ∧ i = .int .i64 m ∧ Hid (∀ j, j < m → g.LitOk (g.O j))) (fun i => g.n3 - (intOf i).toNat)
              case atStart => exact ⟨0, by omega, rfl, fun j hj => by omega⟩
              case round =>
                obtain ⟨m, hm, rfl, HO⟩ := hrel
                by_cases hlt : m < g.n3
                · obtain ⟨b3, o3, rfl, x0⟩ := hgr.outs.at_ hlt
                  go_wp2_with fail
                  refine (inR_any _ _ _ (by omega) (by omega)).mono ?_
                  rintro e w2 ⟨rfl, rfl⟩
                  by_cases cX : 0 ≤ g.O m ∧ g.O m < 2 * (1 + g.ins + g.n1 + g.n2)
                  · rw [tf_yes cX]
                    have HA2 : Hid (∀ j, j < m + 1 → g.LitOk (g.O j)) := Lib.hid (fun j hj => if e : j = m then e ▸ cX else HO.out j (by omega))
                    clear cX
                    go_wp2_with fail
                    go_round
                    case rel => exact ⟨m + 1, by omega, by go_num, HA2.out⟩
                    case measure => simp [intOf]; omega
                  · rw [tf_no cX]
                    have HNO : Hid (¬ g.Valid) := Lib.hid (fun h => cX (h.outs m hlt))
                    clear cX
                    go_wp2_with fail
                    go_ret
                    exact says_no HNO.out HBr.out
                · obtain rfl : m = g.n3 := by omega
                  go_wp2_with fail
                  go_ret
                  exact says_yes ⟨by omega, by omega, by omega, by omega, by omega, HA.out, HL.out, HO.out⟩ HBr.out
    · go_wp2_with fail
      all_goals first
        | (go_ret; exact says_no (fun h => by have := h.n1; have := h.n3; have := h.n; omega) HB1.out)
        | (exfalso; omega)
  · go_wp2_with fail
    all_goals (go_ret; exact says_no (fun h => hr ⟨h.i0, h.i1⟩) HB1.out)
end Go.Proofs.Ytkanekacjefcbaa
