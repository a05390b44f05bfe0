/- The reference's TablesValid, walked: it returns whether the net of tables is valid. Condition: the net lies in memory and its lists are not too long. -/
import Derived.Test.YtlmcbhmaccncbaaDoorTbD
import Derived.Deep.LoopGhost
import Derived.Deep.QuietTactic
import Derived.BigQuiet
import Derived.Deep.RegionHeld3
namespace Go.Proofs.YtlmcbhmaccncbaaDoor
open Go.RowKit

/-- what both come to -/
def SaysB (p : Prop) (w : World) (e : Ending) (w' : World) : Prop := e = .returned (.bool (tf p)) ∧ Below w.heap.size w w'
theorem says_no {p : Prop} {w w' : World} (h : ¬ p) (hb : Below w.heap.size w w') : SaysB p w (.returned (.bool false)) w' := ⟨by rw [tf_no h], hb⟩
theorem says_yes {p : Prop} {w w' : World} (h : p) (hb : Below w.heap.size w w') : SaysB p w (.returned (.bool true)) w' := ⟨by rw [tf_yes h], hb⟩

set_option maxHeartbeats 400000 in
theorem rsignals_any (ins : Int) (A1 A2 A3 A4 : Option Addr) (n1 n2 n3 n4 c1 c2 c3 c4 : Nat) (w : World) (h0 : 0 ≤ ins) (h1 : ins ≤ 60000) (hn1 : n1 ≤ 1000000000000000) (hn2 : n2 ≤ 1000000000000000) :
    Calls Tryd.prog 15 #[.agg #[.int .i64 ins, .slice A1 n1 c1, .slice A2 n2 c2, .slice A3 n3 c3, .slice A4 n4 c4]] w fun e w' => e = .returned (.int .i64 (2 + ins + n1 + n2)) ∧ Below w.heap.size w w' := by
  go_enter Tryd.func15, Tryd.ntmps15
  go_wp2
  go_ret
  exact ⟨rfl, (Below.refl _ _).alloc (Nat.le_refl _) _⟩

theorem BoxAt.five {w : World} {b : Nat} {v0 v1 v2 v3 v4 : Value} (h : BoxAt w b [v0, v1, v2, v3, v4]) :
    w.cell? ⟨b, 0, none⟩ = some v0 ∧ w.cell? ⟨b, 1, none⟩ = some v1 ∧ w.cell? ⟨b, 2, none⟩ = some v2 ∧ w.cell? ⟨b, 3, none⟩ = some v3 ∧ w.cell? ⟨b, 4, none⟩ = some v4 := ⟨h 0 _ rfl, h 1 _ rfl, h 2 _ rfl, h 3 _ rfl, h 4 _ rfl⟩

theorem shl_shl {n : Nat} (h : n ≤ 4) : wrap64 (2 ^ min (IntKind.u64.wrap (2 ^ n)).toNat 64) = 2 ^ (2 ^ n) := by
  obtain rfl | rfl | rfl | rfl | rfl : n = 0 ∨ n = 1 ∨ n = 2 ∨ n = 3 ∨ n = 4 := by omega
  all_goals decide +kernel

set_option maxHeartbeats 4000000 in
set_option maxRecDepth 100000 in
theorem tabRef_any (g : Tb) (A1 A2 A3 A4 : Option Addr) (c1 c2 c3 c4 : Nat) (w : World) (hg : g.At w A1 A2 A3 A4) (hfit : g.Fits) :
    Calls Tryd.prog 6 #[.agg #[.int .i64 g.ins, .slice A1 g.n1 c1, .slice A2 g.n2 c2, .slice A3 g.n3 c3, .slice A4 g.n4 c4]] w (SaysB g.Valid w) := by
  have f1 := hfit.b1; have f2 := hfit.b2; have f3 := hfit.b3; have f4 := hfit.b4; have f5 := hfit.i
  by_cases h0 : 0 ≤ g.ins ∧ g.ins ≤ 60000 ∧ g.n4 ≤ 60000 ∧ g.n3 = g.n1
  · obtain ⟨h1, h2, h3, h4⟩ := h0
    have hq : ((g.n3 : Int) != (g.n1 : Int)) = false := by simp [h4]
    have H4 := Lib.hid h4; clear h4
    go_enter Tryd.func6, Tryd.ntmps6
    go_wp2_with fail
    have hbox := BoxAt.new w [.int .i64 g.ins, .slice A1 g.n1 c1, .slice A2 g.n2 c2, .slice A3 g.n3 c3, .slice A4 g.n4 c4] 26
    have hb1 : Below w.heap.size w (w.alloc (.cells #[.int .i64 g.ins, .slice A1 g.n1 c1, .slice A2 g.n2 c2, .slice A3 g.n3 c3, .slice A4 g.n4 c4] 26)) := (Below.refl _ _).alloc (Nat.le_refl _) _
    have hs1 : (w.alloc (.cells #[.int .i64 g.ins, .slice A1 g.n1 c1, .slice A2 g.n2 c2, .slice A3 g.n3 c3, .slice A4 g.n4 c4] 26)).heap.size = w.heap.size + 1 := by simp
    generalize w.alloc (.cells #[.int .i64 g.ins, .slice A1 g.n1 c1, .slice A2 g.n2 c2, .slice A3 g.n3 c3, .slice A4 g.n4 c4] 26) = w1 at *
    have hs1' : w.heap.size < w1.heap.size := by omega
    clear hs1
    go_loopw [4] (fun i wr => ∃ k : Nat, k ≤ g.n2 ∧ i = .int .i64 k ∧ Below w1.heap.size w1 wr ∧ Hid (∀ j, j < k → g.TabOk j)) (fun i _ => g.n2 - (intOf i).toNat)
    case atStart => exact ⟨0, by omega, rfl, Below.refl _ _, fun j hj => by omega⟩
    case round =>
      obtain ⟨k, hk, rfl, hbr, HA⟩ := hrel
      have HBr := Lib.hid (Below.then_call hb1 hbr (by omega))
      obtain ⟨g0, g1, g2, g3, g4⟩ := (hbox.keeps (Keeps.of_below hbr)).five
      have hsr := hbr.size
      by_cases hlt : k < g.n2
      · obtain ⟨TA, TC, t1, t2⟩ := hg.tabs.keeps (Keeps.of_below HBr.out)
        obtain ⟨b2, o2, rfl, x0, y0⟩ := t1.at2 hlt
        have htk := t2 k hlt
        simp only [two] at x0 y0
        clear t1 t2
        generalize TA k = Ak at *
        have htb := hfit.tb k hlt
        have htl := hfit.bt k hlt
        by_cases hl : g.tl k ≤ 4
        · by_cases hp : 0 ≤ g.tb k
          · have hP := shl_shl hl
            generalize (2 : Int) ^ (2 ^ g.tl k) = P at hP
            have HP : Hid ((2 : Int) ^ (2 ^ g.tl k) = P) := by rw [← hP]; exact (shl_shl hl).symm
            go_wp2_with fail
            · go_ret
              exact says_no (fun h => by have := (h.tabs k hlt).hi; rw [HP.out] at this; omega) (HBr.out.alloc (by omega) _)
            · have htk2 := htk.keeps (Keeps.alloc wr (.cells #[.slice Ak (g.tl k) (TC k), .int .i64 (g.tb k)] 50))
              have hPP : g.tb k < P := by omega
              clear hP
              go_loop [6] (fun i => ∃ m : Nat, m ≤ g.tl k ∧ i = .int .i64 m ∧ Hid (∀ j, j < m → 0 ≤ g.tw k j ∧ g.tw k j < 2 + g.ins + g.n1 + k)) (fun i => g.tl k - (intOf i).toNat)
              case atStart => exact ⟨0, by omega, rfl, fun j hj => by omega⟩
              case round =>
                obtain ⟨m, hm, rfl, HW⟩ := hrel
                by_cases hlt2 : m < g.tl k
                · obtain ⟨b3, o3, rfl, z0⟩ := htk2.at_ hlt2
                  go_wp2_with fail
                  all_goals first
                    | (go_ret; exact says_no (fun h => by have := (h.tabs k hlt).ins m hlt2; omega) (HBr.out.alloc (by omega) _))
                    | (go_round
                       case rel => exact ⟨m + 1, by omega, by go_num, fun j hj => if e : j = m then e ▸ (by omega) else HW.out j (by omega)⟩
                       case measure => simp [intOf]; omega)
                · go_wp2_with fail
                  obtain rfl : m = g.tl k := by omega
                  go_roundw
                  case rel => exact ⟨k + 1, by omega, by go_num, hbr.alloc (by omega) _, fun j hj => if e : j = k then e ▸ ⟨hl, hp, by rw [HP.out]; exact hPP, HW.out⟩ else HA.out j (by omega)⟩
                  case measure => simp [intOf]; omega
          · go_wp2_with fail
            go_ret
            exact says_no (fun h => by have := (h.tabs k hlt).lo; omega) (HBr.out.alloc (by omega) _)
        · go_wp2_with fail
          go_ret
          exact says_no (fun h => by have := (h.tabs k hlt).len; omega) (HBr.out.alloc (by omega) _)
      · have hkn : k = g.n2 := by omega
        have HK := Lib.hid hkn; clear hkn
        have HBo := HBr
        have hboxr := hbox.keeps (Keeps.of_below hbr)
        clear hbr hsr
        obtain ⟨wz, rfl⟩ : ∃ wz : World, wz = wr := ⟨_, rfl⟩
        have hszz := HBo.out.size
        have hwz : w.heap.size < wz.heap.size := World.block_lt_of_cell? wz _ g0
        go_wp2_with fail
        clear g0 g1 g2 g3 g4
        go_loopw [7] (fun i wr => ∃ m : Nat, m ≤ g.n3 ∧ i = .int .i64 m ∧ Below wz.heap.size wz wr ∧ Hid (∀ j, j < m → 0 ≤ g.N j ∧ g.N j < g.sigs)) (fun i _ => g.n3 - (intOf i).toNat)
        case atStart => exact ⟨0, by omega, rfl, Below.refl _ _, fun j hj => by omega⟩
        case round =>
          obtain ⟨m, hm, rfl, hbr, HN⟩ := hrel
          have HBr := Lib.hid (Below.then_call HBo.out hbr (by omega))
          have hboxm := hboxr.keeps (Keeps.of_below hbr)
          obtain ⟨g0, g1, g2, g3, g4⟩ := hboxm.five
          have hszm := hbr.size
          have hc := fun W (hW : Below wr.heap.size wr W) => rsignals_any g.ins A1 A2 A3 A4 g.n1 g.n2 g.n3 g.n4 c1 c2 c3 c4 W h1 h2 (by omega) (by omega)
          have HC := Lib.hid hc; clear hc
          by_cases hlt : m < g.n3
          · obtain ⟨b3, o3, rfl, x0⟩ := (hg.next.keeps (Keeps.of_below HBr.out)).at_ hlt
            by_cases hneg : g.N m < 0
            · have hdd : decide (g.N m < 0) = true := by simpa using hneg
              go_wp2_with fail
              go_quiet (fail)
              go_wp2_with fail
              go_ret
              exact says_no (fun h => by have := (h.next m hlt).1; omega) ⟨HBr.out.os, HBr.out.tape, HBr.out.output, HBr.out.size, HBr.out.block⟩
            · have hdd : decide (g.N m < 0) = false := by simpa using hneg
              go_wp2_with fail
              go_region_held3 (fun w' => w'.cell? ⟨w.heap.size, 0, none⟩ = some (.int .i64 g.ins) ∧ w'.cell? ⟨w.heap.size, 1, none⟩ = some (.slice A1 g.n1 c1) ∧ w'.cell? ⟨w.heap.size, 2, none⟩ = some (.slice A2 g.n2 c2) ∧ w'.cell? ⟨w.heap.size, 3, none⟩ = some (.slice (some ⟨b3, o3, none⟩) g.n3 c3) ∧ w'.cell? ⟨w.heap.size, 4, none⟩ = some (.slice A4 g.n4 c4) ∧ w'.cell? ⟨b3, o3 + m, none⟩ = some (.int .i64 (g.N m))) (first | exact ⟨g0, g1, g2, g3, g4, x0⟩ | assumption)
                (first | (go_at_call 15; refine (rsignals_any g.ins _ _ _ _ g.n1 g.n2 g.n3 g.n4 c1 c2 c3 c4 _ h1 h2 (by omega) (by omega)).mono ?_; rintro e w3 ⟨rfl, hb3⟩; have hs6 : w3.cell? ⟨w.heap.size, 0, none⟩ = some (.int .i64 g.ins) ∧ w3.cell? ⟨w.heap.size, 1, none⟩ = some (.slice A1 g.n1 c1) ∧ w3.cell? ⟨w.heap.size, 2, none⟩ = some (.slice A2 g.n2 c2) ∧ w3.cell? ⟨w.heap.size, 3, none⟩ = some (.slice (some ⟨b3, o3, none⟩) g.n3 c3) ∧ w3.cell? ⟨w.heap.size, 4, none⟩ = some (.slice A4 g.n4 c4) ∧ w3.cell? ⟨b3, o3 + m, none⟩ = some (.int .i64 (g.N m)) := ⟨Keeps.of_below hb3 _ _ g0, Keeps.of_below hb3 _ _ g1, Keeps.of_below hb3 _ _ g2, Keeps.of_below hb3 _ _ g3, Keeps.of_below hb3 _ _ g4, Keeps.of_below hb3 _ _ x0⟩))
              have HB3 := Lib.hid (show Below wr.heap.size wr w3 from ⟨hb3.os, hb3.tape, hb3.output, hb3.size, hb3.block⟩)
              clear hs6 hb3
              go_wp2_with fail
              all_goals first
                | (go_ret; exact says_no (fun h => by have := (h.next m hlt).2; unfold Tb.sigs at this; omega) (Below.then_call HBr.out HB3.out (by omega)))
                | (refine ⟨⟨m + 1, by omega, by go_num, hbr.trans (HB3.out.mono (by omega)), fun j hj => if e : j = m then e ▸ (by unfold Tb.sigs; omega) else HN.out j (by omega)⟩, by simp [intOf]; omega⟩)
          · have hmn : m = g.n3 := by omega
            have HBo2 := HBr
            have HN2 : Hid (∀ j, j < g.n3 → 0 ≤ g.N j ∧ g.N j < g.sigs) := fun j hj => HN.out j (by omega)
            clear hbr HN HC
            obtain ⟨wy, rfl⟩ : ∃ wy : World, wy = wr := ⟨_, rfl⟩
            have hwy : w.heap.size < wy.heap.size := World.block_lt_of_cell? wy _ g0
            go_wp2_with fail
            clear g0 g1 g2 g3 g4
            have HMN := Lib.hid hmn; clear hmn
            go_loopw [8] (fun i wr => ∃ m : Nat, m ≤ g.n4 ∧ i = .int .i64 m ∧ Below wy.heap.size wy wr ∧ Hid (∀ j, j < m → 0 ≤ g.O j ∧ g.O j < g.sigs)) (fun i _ => g.n4 - (intOf i).toNat)
            case atStart => exact ⟨0, by omega, rfl, Below.refl _ _, fun j hj => by omega⟩
            case round =>
              obtain ⟨m, hm, rfl, hbr, HO⟩ := hrel
              have HBr := Lib.hid (Below.then_call HBo2.out hbr (by omega))
              obtain ⟨g0, g1, g2, g3, g4⟩ := (hboxm.keeps (Keeps.of_below hbr)).five
              have hszm := hbr.size
              by_cases hlt : m < g.n4
              · obtain ⟨b3, o3, rfl, x0⟩ := (hg.outs.keeps (Keeps.of_below HBr.out)).at_ hlt
                by_cases hneg : g.O m < 0
                · have hdd : decide (g.O m < 0) = true := by simpa using hneg
                  go_wp2_with fail
                  go_quiet (fail)
                  go_wp2_with fail
                  go_ret
                  exact says_no (fun h => by have := (h.outs m hlt).1; omega) ⟨HBr.out.os, HBr.out.tape, HBr.out.output, HBr.out.size, HBr.out.block⟩
                · have hdd : decide (g.O m < 0) = false := by simpa using hneg
                  go_wp2_with fail
                  go_region_held3 (fun w' => w'.cell? ⟨w.heap.size, 0, none⟩ = some (.int .i64 g.ins) ∧ w'.cell? ⟨w.heap.size, 1, none⟩ = some (.slice A1 g.n1 c1) ∧ w'.cell? ⟨w.heap.size, 2, none⟩ = some (.slice A2 g.n2 c2) ∧ w'.cell? ⟨w.heap.size, 3, none⟩ = some (.slice A3 g.n3 c3) ∧ w'.cell? ⟨w.heap.size, 4, none⟩ = some (.slice (some ⟨b3, o3, none⟩) g.n4 c4) ∧ w'.cell? ⟨b3, o3 + m, none⟩ = some (.int .i64 (g.O m))) (first | exact ⟨g0, g1, g2, g3, g4, x0⟩ | assumption)
                    (first | (go_at_call 15; refine (rsignals_any g.ins _ _ _ _ g.n1 g.n2 g.n3 g.n4 c1 c2 c3 c4 _ h1 h2 (by omega) (by omega)).mono ?_; rintro e w3 ⟨rfl, hb3⟩; have hs6 : w3.cell? ⟨w.heap.size, 0, none⟩ = some (.int .i64 g.ins) ∧ w3.cell? ⟨w.heap.size, 1, none⟩ = some (.slice A1 g.n1 c1) ∧ w3.cell? ⟨w.heap.size, 2, none⟩ = some (.slice A2 g.n2 c2) ∧ w3.cell? ⟨w.heap.size, 3, none⟩ = some (.slice A3 g.n3 c3) ∧ w3.cell? ⟨w.heap.size, 4, none⟩ = some (.slice (some ⟨b3, o3, none⟩) g.n4 c4) ∧ w3.cell? ⟨b3, o3 + m, none⟩ = some (.int .i64 (g.O m)) := ⟨Keeps.of_below hb3 _ _ g0, Keeps.of_below hb3 _ _ g1, Keeps.of_below hb3 _ _ g2, Keeps.of_below hb3 _ _ g3, Keeps.of_below hb3 _ _ g4, Keeps.of_below hb3 _ _ x0⟩))
                  have HB3 := Lib.hid (show Below wr.heap.size wr w3 from ⟨hb3.os, hb3.tape, hb3.output, hb3.size, hb3.block⟩)
                  clear hs6 hb3
                  go_wp2_with fail
                  all_goals first
                    | (go_ret; exact says_no (fun h => by have := (h.outs m hlt).2; unfold Tb.sigs at this; omega) (Below.then_call HBr.out HB3.out (by omega)))
                    | (refine ⟨⟨m + 1, by omega, by go_num, hbr.trans (HB3.out.mono (by omega)), fun j hj => if e : j = m then e ▸ (by unfold Tb.sigs; omega) else HO.out j (by omega)⟩, by simp [intOf]; omega⟩)
              · go_wp2_with fail
                go_ret
                exact says_yes ⟨h1, h2, h3, H4.out, fun j hj => HA.out j (by have := HK.out; omega), HN2.out, fun j hj => HO.out j (by omega)⟩ HBr.out
  · by_cases hn : g.n3 = g.n1
    · have hq : ((g.n3 : Int) != (g.n1 : Int)) = false := by simp [hn]
      have hbad : g.ins < 0 ∨ 60000 < g.ins ∨ 60000 < g.n4 := by omega
      have HN := Lib.hid hn; clear hn h0
      go_enter Tryd.func6, Tryd.ntmps6
      go_wp2_with fail
      all_goals (go_ret; exact says_no (fun h => by have := h.i0; have := h.i1; have := h.n4; omega) ((Below.refl _ _).alloc (Nat.le_refl _) _))
    · have hq : ((g.n3 : Int) != (g.n1 : Int)) = true := by rw [bne_iff_ne]; omega
      have HN := Lib.hid hn; clear hn h0
      go_enter Tryd.func6, Tryd.ntmps6
      go_wp2_with fail
      all_goals (go_ret; exact says_no (fun h => HN.out h.n3) ((Below.refl _ _).alloc (Nat.le_refl _) _))
end Go.Proofs.YtlmcbhmaccncbaaDoor
