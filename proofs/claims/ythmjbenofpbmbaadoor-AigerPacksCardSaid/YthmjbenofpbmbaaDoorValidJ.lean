/- aig.Valid and the reference's GraphValid, walked: each returns whether the graph is valid. Condition: the graph lies in memory and its lists are within the form's reach. -/
import Derived.Test.YthmjbenofpbmbaaDoorGraph
import Derived.Deep.LoopGhost
import Derived.Deep.QuietTactic
import Derived.BigQuiet
namespace Go.Proofs.YthmjbenofpbmbaaDoor
open Go.RowKit

set_option maxHeartbeats 400000 in
theorem vars_any (ins : Int) (A1 A2 A3 : Option Addr) (n1 n2 n3 c1 c2 c3 : Nat) (w : World) (h0 : 0 ≤ ins) (h1 : ins ≤ 60000) (hn1 : n1 ≤ 1000000000000000) (hn2 : n2 ≤ 1000000000000000) :
    Calls Tryd.prog 26 #[.agg #[.int .i64 ins, .slice A1 n1 c1, .slice A2 n2 c2, .slice A3 n3 c3]] w fun e w' => e = .returned (.int .i64 (1 + ins + n1 + n2)) ∧ Below w.heap.size w w' := by
  go_enter Tryd.func26, Tryd.ntmps26
  go_wp2
  go_ret
  exact ⟨rfl, (Below.refl _ _).alloc (Nat.le_refl _) _⟩

/-- what both come to -/
def SaysB (p : Prop) (w : World) (e : Ending) (w' : World) : Prop := e = .returned (.bool (tf p)) ∧ Below w.heap.size w w'
theorem says_no {p : Prop} {w w' : World} (h : ¬ p) (hb : Below w.heap.size w w') : SaysB p w (.returned (.bool false)) w' := ⟨by rw [tf_no h], hb⟩
theorem says_yes {p : Prop} {w w' : World} (h : p) (hb : Below w.heap.size w w') : SaysB p w (.returned (.bool true)) w' := ⟨by rw [tf_yes h], hb⟩

set_option maxHeartbeats 1000000 in
theorem refValid_any (g : G) (A1 A2 A3 : Option Addr) (c1 c2 c3 : Nat) (w : World) (hg : g.At w A1 A2 A3) (hfit : g.Fits) :
    Calls Tryd.prog 18 #[.agg #[.int .i64 g.ins, .slice A1 g.n1 c1, .slice A2 g.n2 c2, .slice A3 g.n3 c3]] w (SaysB g.Valid w) := by
  have f1 := hfit.b1; have f2 := hfit.b2; have f3 := hfit.b3; have f4 := hfit.i
  go_enter Tryd.func18, Tryd.ntmps18
  go_wp2_with fail
  rotate_left
  iterate 4 (go_ret; exact says_no (fun h => by have := h.i0; have := h.i1; have := h.n1; have := h.n3; omega) ((Below.refl _ _).alloc (Nat.le_refl _) _))
  refine (vars_any _ _ _ _ _ _ _ _ _ _ _ (by omega) (by omega) (by omega) (by omega)).mono ?_
  rintro e w1 ⟨rfl, hb1⟩
  have HB1 := Lib.hid (Below.alloc_then hb1)
  have hbox := (BoxAt.new w [.int .i64 g.ins, .slice A1 g.n1 c1, .slice A2 g.n2 c2, .slice A3 g.n3 c3] 31).keeps (Keeps.of_below hb1)
  have hg1 := hg.keeps (Keeps.below_alloc hb1)
  have hs1 := hb1.size
  simp at hs1
  clear hb1
  obtain ⟨g0, g1, g2, g3⟩ := hbox.four
  go_wp2_with fail
  · go_ret
    exact says_no (fun h => by have := h.n; omega) HB1.out
  go_loop [4] (fun i => ∃ m : Nat, m ≤ g.n2 ∧ i = .int .i64 m ∧ Hid (∀ j, j < m → g.AndOk j)) (fun i => g.n2 - (intOf i).toNat)
  case atStart => exact ⟨0, by omega, rfl, fun j hj => by omega⟩
  case round =>
    obtain ⟨m, hm, rfl, HA⟩ := hrel
    by_cases hlt : m < g.n2
    · obtain ⟨b2, o2, rfl, x0, y0⟩ := hg1.ands.at2 hlt
      simp only [two] at x0 y0
      go_wp2_with fail
      go_loop [5] (fun i => ∃ k : Nat, k ≤ 2 ∧ i = .int .i64 k ∧ Hid ((0 < k → (0 ≤ g.X m ∧ g.X m < 2 * (1 + g.ins + g.n1 + m))) ∧ (1 < k → 0 ≤ g.Y m ∧ g.Y m < 2 * (1 + g.ins + g.n1 + m)))) (fun i => 2 - (intOf i).toNat)
      case atStart => exact ⟨0, by omega, rfl, by omega, by omega⟩
      case round =>
        obtain ⟨k, hk, rfl, HK⟩ := hrel
        obtain rfl | rfl | rfl : k = 0 ∨ k = 1 ∨ k = 2 := by omega
        · go_wp2_with fail
          · go_ret
            exact says_no (fun h => by have := (h.ands m hlt).1; omega) HB1.out
          · go_round
            case rel => exact ⟨1, by omega, by go_num, by omega, by omega⟩
            case measure => simp [intOf]
          · go_ret
            exact says_no (fun h => by have := (h.ands m hlt).1; omega) HB1.out
        · have HK0 := HK.out.1
          go_wp2_with fail
          · go_ret
            exact says_no (fun h => by have := (h.ands m hlt).2; omega) HB1.out
          · go_round
            case rel => exact ⟨2, by omega, by go_num, fun _ => HK.out.1 (by omega), by omega⟩
            case measure => simp [intOf]
          · go_ret
            exact says_no (fun h => by have := (h.ands m hlt).2; omega) HB1.out
        · go_wp2_with fail
          go_round
          case rel => exact ⟨m + 1, by omega, by go_num, fun j hj => if e : j = m then e ▸ ⟨HK.out.1 (by omega), HK.out.2 (by omega)⟩ else HA.out j (by omega)⟩
          case measure => simp [intOf]; omega
    · go_wp2_with fail
      refine (vars_any _ _ _ _ _ _ _ _ _ _ _ (by omega) (by omega) (by omega) (by omega)).mono ?_
      rintro e w2 ⟨rfl, hb2⟩
      have HB2 := Lib.hid (Below.then_call HB1.out hb2 (by omega))
      have hbox2 := hbox.keeps (Keeps.of_below hb2)
      have hg2 := hg1.keeps (Keeps.of_below hb2)
      clear hb2 g0 g1 g2 g3
      obtain ⟨g0, g1, g2, g3⟩ := hbox2.four
      obtain rfl : m = g.n2 := by omega
      go_wp2_with fail
      go_loop [8] (fun i => ∃ m : Nat, m ≤ g.n1 ∧ i = .int .i64 m ∧ Hid (∀ j, j < m → g.LitOk (g.L j))) (fun i => g.n1 - (intOf i).toNat)
      case atStart => exact ⟨0, by omega, rfl, fun j hj => by omega⟩
      case round =>
        obtain ⟨m, hm, rfl, HL⟩ := hrel
        by_cases hlt : m < g.n1
        · obtain ⟨b1, o1, rfl, x0, _⟩ := hg2.lat.at2 hlt
          simp only [two] at x0
          go_wp2_with fail
          · go_ret
            exact says_no (fun h => by have := h.lat m hlt; unfold G.LitOk at this; omega) HB2.out
          · go_round
            case rel => exact ⟨m + 1, by omega, by go_num, fun j hj => if e : j = m then e ▸ (by unfold G.LitOk; omega) else HL.out j (by omega)⟩
            case measure => simp [intOf]; omega
          · go_ret
            exact says_no (fun h => by have := h.lat m hlt; unfold G.LitOk at this; omega) HB2.out
        · go_wp2_with fail
          obtain rfl : m = g.n1 := by omega
          go_loop [10] (fun i => ∃ m : Nat, m ≤ g.n3 ∧ i = .int .i64 m ∧ Hid (∀ j, j < m → g.LitOk (g.O j))) (fun i => g.n3 - (intOf i).toNat)
          case atStart => exact ⟨0, by omega, rfl, fun j hj => by omega⟩
          case round =>
            obtain ⟨m, hm, rfl, HO⟩ := hrel
            by_cases hlt : m < g.n3
            · obtain ⟨b3, o3, rfl, x0⟩ := hg2.outs.at_ hlt
              go_wp2_with fail
              · go_ret
                exact says_no (fun h => by have := h.outs m hlt; unfold G.LitOk at this; omega) HB2.out
              · go_round
                case rel => exact ⟨m + 1, by omega, by go_num, fun j hj => if e : j = m then e ▸ (by unfold G.LitOk; omega) else HO.out j (by omega)⟩
                case measure => simp [intOf]; omega
              · go_ret
                exact says_no (fun h => by have := h.outs m hlt; unfold G.LitOk at this; omega) HB2.out
            · go_wp2_with fail
              go_ret
              obtain rfl : m = g.n3 := by omega
              exact says_yes ⟨by omega, by omega, by omega, by omega, by omega, HA.out, HL.out, HO.out⟩ HB2.out

end Go.Proofs.YthmjbenofpbmbaaDoor
