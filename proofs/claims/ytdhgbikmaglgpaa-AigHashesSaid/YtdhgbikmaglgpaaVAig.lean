/- aig.Valid, walked: it returns whether the graph is valid. Condition: the graph lies in memory and its lists are within the form's reach. -/
import Derived.Test.YtdhgbikmaglgpaaValid
import Derived.Deep.LoopGhost
import Derived.Deep.QuietTactic
import Derived.BigQuiet
namespace Go.Proofs.Ytdhgbikmaglgpaa
open Go.RowKit

set_option maxHeartbeats 1000000 in
theorem aigValid_any (g : G) (A1 A2 A3 : Option Addr) (c1 c2 c3 : Nat) (w : World) (hg : g.At w A1 A2 A3) (hfit : g.Fits) :
    Calls Try.prog 15 #[.agg #[.int .i64 g.ins, .slice A1 g.n1 c1, .slice A2 g.n2 c2, .slice A3 g.n3 c3]] w (SaysB g.Valid w) := by
  have f1 := hfit.b1; have f2 := hfit.b2; have f3 := hfit.b3; have f4 := hfit.i
  go_enter Try.func15, Try.ntmps15
  go_wp2_with fail
  rotate_left
  iterate 4 (go_ret; exact says_no (fun h => by have := h.i0; have := h.i1; have := h.n1; have := h.n3; omega) ((Below.refl _ _).alloc (Nat.le_refl _) _))
  refine (variables_any _ _ _ _ _ _ _ _ _ _ _ (by omega) (by omega) (by omega) (by omega)).mono ?_
  rintro e w1 ⟨rfl, hb1⟩
  have HB1 := Lib.hid (Below.alloc_then hb1)
  have hbox := (BoxAt.new w [.int .i64 g.ins, .slice A1 g.n1 c1, .slice A2 g.n2 c2, .slice A3 g.n3 c3] 26).keeps (Keeps.of_below hb1)
  have hg1 := hg.keeps (Keeps.below_alloc hb1)
  have hs1 := hb1.size
  simp at hs1
  clear hb1
  obtain ⟨g0, g1, g2, g3⟩ := hbox.four
  go_wp2_with fail
  · go_ret
    exact says_no (fun h => by have := h.n; omega) HB1.out
  clear g0 g1 g2 g3
  go_loopw [46] (fun i wr => ∃ m : Nat, m ≤ g.n2 ∧ i = .int .i64 m ∧ Below w1.heap.size w1 wr ∧ Hid (∀ j, j < m → g.AndOk j)) (fun i _ => g.n2 - (intOf i).toNat)
  case atStart => exact ⟨0, by omega, rfl, Below.refl _ _, fun j hj => by omega⟩
  case round =>
    obtain ⟨m, hm, rfl, hbr, HA⟩ := hrel
    have hgr := hg1.keeps (Keeps.of_below hbr)
    have hsr := hbr.size
    by_cases hlt : m < g.n2
    · obtain ⟨b2, o2, rfl, x0, y0⟩ := hgr.ands.at2 hlt
      simp only [two] at x0 y0
      go_wp2_with fail
      all_goals first
        | (go_ret; exact says_no (fun h => by have := h.ands m hlt; unfold G.AndOk at this; omega) (Below.then_call HB1.out (hbr.alloc (by omega) _) (by omega)))
        | (go_roundw
           case rel => exact ⟨m + 1, by omega, by go_num, hbr.alloc (by omega) _, fun j hj => if e : j = m then e ▸ (by unfold G.AndOk; omega) else HA.out j (by omega)⟩
           case measure => simp [intOf]; omega)
    · have HBr := Lib.hid (Below.then_call HB1.out hbr (by omega))
      have hbox1 := hbox.keeps (Keeps.of_below hbr)
      obtain ⟨g0, g1, g2, g3⟩ := hbox1.four
      go_wp2_with fail
      refine (variables_any _ _ _ _ _ _ _ _ _ _ _ (by omega) (by omega) (by omega) (by omega)).mono ?_
      rintro e w2 ⟨rfl, hb2⟩
      have HB2 := Lib.hid (Below.then_call HBr.out hb2 (by omega))
      have hbox2 := hbox1.keeps (Keeps.of_below hb2)
      have hg2 := hgr.keeps (Keeps.of_below hb2)
      have hs2 := hb2.size
      clear hb2 g0 g1 g2 g3
      obtain ⟨g0, g1, g2, g3⟩ := hbox2.four
      obtain rfl : m = g.n2 := by omega
      go_wp2_with fail
      clear g0 g1 g2 g3
      clear hbr hgr
      obtain ⟨wz, rfl⟩ : ∃ wz : World, wz = wr := ⟨_, rfl⟩
      go_loopw [76] (fun i wr => ∃ m : Nat, m ≤ g.n1 ∧ i = .int .i64 m ∧ Below w2.heap.size w2 wr ∧ Hid (∀ j, j < m → g.LitOk (g.L j))) (fun i _ => g.n1 - (intOf i).toNat)
      case atStart => exact ⟨0, by omega, rfl, Below.refl _ _, fun j hj => by omega⟩
      case round =>
        obtain ⟨m, hm, rfl, hbr, HL⟩ := hrel
        have hgr := hg2.keeps (Keeps.of_below hbr)
        have hsr := hbr.size
        by_cases hlt : m < g.n1
        · obtain ⟨b1, o1, rfl, x0, y0⟩ := hgr.lat.at2 hlt
          simp only [two] at x0 y0
          go_wp2_with fail
          all_goals first
            | (go_ret; exact says_no (fun h => by have := h.lat m hlt; unfold G.LitOk at this; omega) (Below.then_call HB2.out (hbr.alloc (by omega) _) (by omega)))
            | (go_roundw
               case rel => exact ⟨m + 1, by omega, by go_num, hbr.alloc (by omega) _, fun j hj => if e : j = m then e ▸ (by unfold G.LitOk; omega) else HL.out j (by omega)⟩
               case measure => simp [intOf]; omega)
        · have HB3 := Lib.hid (Below.then_call HB2.out hbr (by omega))
          obtain ⟨g0, g1, g2, g3⟩ := (hbox2.keeps (Keeps.of_below hbr)).four
          obtain rfl : m = g.n1 := by omega
          go_wp2_with fail
          clear g0 g1 g2 g3
          go_loop [93] (fun i => ∃ m : Nat, m ≤ g.n3 ∧ i = .int .i64 m ∧ Hid (∀ j, j < m → g.LitOk (g.O j))) (fun i => g.n3 - (intOf i).toNat)
          case atStart => exact ⟨0, by omega, rfl, fun j hj => by omega⟩
          case round =>
            obtain ⟨m, hm, rfl, HO⟩ := hrel
            by_cases hlt : m < g.n3
            · obtain ⟨b3, o3, rfl, x0⟩ := hgr.outs.at_ hlt
              go_wp2_with fail
              all_goals first
                | (go_ret; exact says_no (fun h => by have := h.outs m hlt; unfold G.LitOk at this; omega) HB3.out)
                | (go_round
                   case rel => exact ⟨m + 1, by omega, by go_num, fun j hj => if e : j = m then e ▸ (by unfold G.LitOk; omega) else HO.out j (by omega)⟩
                   case measure => simp [intOf]; omega)
            · go_wp2_with fail
              go_ret
              obtain rfl : m = g.n3 := by omega
              exact says_yes ⟨by omega, by omega, by omega, by omega, by omega, HA.out, HL.out, HO.out⟩ HB3.out

end Go.Proofs.Ytdhgbikmaglgpaa
