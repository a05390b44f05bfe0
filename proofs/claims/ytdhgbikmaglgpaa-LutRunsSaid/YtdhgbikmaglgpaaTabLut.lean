/- lut.Valid, walked: it returns whether the net of tables is valid. Condition: the net lies in memory and its lists are not too long. -/
import Derived.Test.YtdhgbikmaglgpaaTabRef
import Derived.Test.YtdhgbikmaglgpaaConcat
namespace Go.Proofs.Ytdhgbikmaglgpaa
open Go.RowKit

theorem bel_drewN {B : Nat} {w w1 : World} (h : Below B w w1) (n : Nat) : Below B w (w1.drewN n) := ⟨h.os, h.tape, h.output, h.size, h.block⟩

theorem shr_shl {n : Nat} {t : Int} (h : n ≤ 4) (h0 : 0 ≤ t) : (t / 2 ^ min (IntKind.u64.wrap (2 ^ n)).toNat 64 != 0) = !decide (t < 2 ^ (2 ^ n)) := by
  have e : ((2 : Int) ^ min (IntKind.u64.wrap (2 ^ n)).toNat 64) = 2 ^ (2 ^ n) := by
    obtain rfl | rfl | rfl | rfl | rfl : n = 0 ∨ n = 1 ∨ n = 2 ∨ n = 3 ∨ n = 4 := by omega
    all_goals decide +kernel
  rw [e]
  have hp : (0 : Int) < 2 ^ (2 ^ n) := Int.pow_pos (by omega)
  by_cases hlt : t < 2 ^ (2 ^ n)
  · rw [Int.ediv_eq_zero_of_lt h0 hlt]; simp [hlt]
  · have : t / 2 ^ (2 ^ n) ≠ 0 := fun c => hlt (by
      have := Int.lt_mul_ediv_self_add (x := t) hp
      rw [c] at this; simpa using this)
    simp [hlt, this]

set_option maxHeartbeats 4000000 in
set_option maxRecDepth 100000 in
theorem tabLut_any (g : Tb) (A1 A2 A3 A4 : Option Addr) (c1 c2 c3 c4 : Nat) (w : World) (hg : g.At w A1 A2 A3 A4) (hfit : g.Fits) :
    Calls Try.prog 21 #[.agg #[.int .i64 g.ins, .slice A1 g.n1 c1, .slice A2 g.n2 c2, .slice A3 g.n3 c3, .slice A4 g.n4 c4]] w (SaysB g.Valid w) := by
  have f1 := hfit.b1; have f2 := hfit.b2; have f3 := hfit.b3; have f4 := hfit.b4; have f5 := hfit.i
  by_cases h0 : 0 ≤ g.ins ∧ g.ins ≤ 60000 ∧ g.n4 ≤ 60000 ∧ g.n3 = g.n1
  · obtain ⟨h1, h2, h3, h4⟩ := h0
    have hq : ((g.n3 : Int) != (g.n1 : Int)) = false := by simp [h4]
    have H4 := Lib.hid h4; clear h4
    go_enter Try.func21, Try.ntmps21
    go_wp2_with fail
    have hbox := BoxAt.new w [.int .i64 g.ins, .slice A1 g.n1 c1, .slice A2 g.n2 c2, .slice A3 g.n3 c3, .slice A4 g.n4 c4] 34
    have hb1 : Below w.heap.size w (w.alloc (.cells #[.int .i64 g.ins, .slice A1 g.n1 c1, .slice A2 g.n2 c2, .slice A3 g.n3 c3, .slice A4 g.n4 c4] 34)) := (Below.refl _ _).alloc (Nat.le_refl _) _
    have hs1 : (w.alloc (.cells #[.int .i64 g.ins, .slice A1 g.n1 c1, .slice A2 g.n2 c2, .slice A3 g.n3 c3, .slice A4 g.n4 c4] 34)).heap.size = w.heap.size + 1 := by simp
    generalize w.alloc (.cells #[.int .i64 g.ins, .slice A1 g.n1 c1, .slice A2 g.n2 c2, .slice A3 g.n3 c3, .slice A4 g.n4 c4] 34) = w1 at *
    have hs1' : w.heap.size < w1.heap.size := by omega
    clear hs1
    obtain ⟨g0, g1, g2, g3, g4⟩ := hbox.five
    have e1 : IntKind.i64.wrap (2 + g.ins + (g.n1 : Int)) = 2 + g.ins + g.n1 := IntWalk.i64_in _ (by omega)
    go_region_held3 (fun w' => w'.cell? ⟨w.heap.size, 0, none⟩ = some (.int .i64 g.ins) ∧ w'.cell? ⟨w.heap.size, 1, none⟩ = some (.slice A1 g.n1 c1) ∧ w'.cell? ⟨w.heap.size, 2, none⟩ = some (.slice A2 g.n2 c2) ∧ w'.cell? ⟨w.heap.size, 3, none⟩ = some (.slice A3 g.n3 c3) ∧ w'.cell? ⟨w.heap.size, 4, none⟩ = some (.slice A4 g.n4 c4)) (first | exact ⟨g0, g1, g2, g3, g4⟩ | assumption)
      (first | (go_at_call 48; refine (signals_any g.ins _ _ _ _ g.n1 g.n2 g.n3 g.n4 c1 c2 c3 c4 _ h1 h2 (by omega) (by omega)).mono ?_; rintro e w3 ⟨rfl, hb3⟩; have hs6 : w3.cell? ⟨w.heap.size, 0, none⟩ = some (.int .i64 g.ins) ∧ w3.cell? ⟨w.heap.size, 1, none⟩ = some (.slice A1 g.n1 c1) ∧ w3.cell? ⟨w.heap.size, 2, none⟩ = some (.slice A2 g.n2 c2) ∧ w3.cell? ⟨w.heap.size, 3, none⟩ = some (.slice A3 g.n3 c3) ∧ w3.cell? ⟨w.heap.size, 4, none⟩ = some (.slice A4 g.n4 c4) := ⟨Keeps.of_below hb3 _ _ g0, Keeps.of_below hb3 _ _ g1, Keeps.of_below hb3 _ _ g2, Keeps.of_below hb3 _ _ g3, Keeps.of_below hb3 _ _ g4⟩))
    have HB3 := Lib.hid (show Below w1.heap.size w1 w3 from ⟨hb3.os, hb3.tape, hb3.output, hb3.size, hb3.block⟩)
    have hbox3 := hbox.keeps (Keeps.of_below HB3.out)
    have HB0 := Lib.hid (Below.then_call hb1 HB3.out (by omega))
    clear hs6 hb3 g0 g1 g2 g3 g4 e1
    obtain ⟨g0, g1, g2, g3, g4⟩ := hbox3.five
    have hsz3 := HB3.out.size
    go_wp2_with fail
    clear g0 g1 g2 g3 g4
    go_loopw [42] (fun i wr => ∃ k : Nat, k ≤ g.n2 ∧ i = .int .i64 k ∧ Below w3.heap.size w3 wr ∧ Hid (∀ j, j < k → g.TabOk j)) (fun i _ => g.n2 - (intOf i).toNat)
    case atStart => exact ⟨0, by omega, rfl, Below.refl _ _, fun j hj => by omega⟩
    case round =>
      obtain ⟨k, hk, rfl, hbr, HA⟩ := hrel
      have HBr := Lib.hid (Below.then_call HB0.out hbr (by omega))
      have hsr := hbr.size
      by_cases hlt : k < g.n2
      · obtain ⟨TA, TC, t1, t2⟩ := hg.tabs.keeps (Keeps.of_below HBr.out)
        obtain ⟨b2, o2, rfl, x0, y0⟩ := t1.at2 hlt
        have htk := t2 k hlt
        simp only [two] at x0 y0
        clear t1 t2
        generalize TA k = Ak at *
        have htb := hfit.tb k hlt
        have htl := hfit.bt k hlt
        by_cases hl : g.tl k ≤ 4
        · have hd1 : decide ((4 : Int) < (g.tl k : Int)) = false := by simp; omega
          by_cases hp : 0 ≤ g.tb k
          · have hd2 : decide (g.tb k < 0) = false := by simp; omega
            by_cases hP : g.tb k < 2 ^ (2 ^ g.tl k)
            · have hx : (g.tb k / 2 ^ min (IntKind.u64.wrap (2 ^ g.tl k)).toNat 64 != 0) = false := by rw [shr_shl hl hp]; simp [hP]
              have HP := Lib.hid hP; clear hP
              go_wp2_with fail
              go_quiet (fail)
              go_wp2_with fail
              have htk2 : Row1 ((wr.alloc (.cells #[.slice Ak (g.tl k) (TC k), .int .i64 (g.tb k)] 76)).drewN nq) Ak (g.tl k) (fun j => .int .i64 (g.tw k j)) := (htk.keeps (Keeps.alloc wr (.cells #[.slice Ak (g.tl k) (TC k), .int .i64 (g.tb k)] 76)))
              have hbz : Below w3.heap.size w3 ((wr.alloc (.cells #[.slice Ak (g.tl k) (TC k), .int .i64 (g.tb k)] 76)).drewN nq) := bel_drewN (hbr.alloc (by omega) _) _
              clear hx x0 y0 htk hd1 hd2
              generalize ((wr.alloc (.cells #[.slice Ak (g.tl k) (TC k), .int .i64 (g.tb k)] 76)).drewN nq) = wq at *
              go_loop [69] (fun i => ∃ m : Nat, m ≤ g.tl k ∧ i = .int .i64 m ∧ Hid (∀ j, j < m → 0 ≤ g.tw k j ∧ g.tw k j < 2 + g.ins + g.n1 + k)) (fun i => g.tl k - (intOf i).toNat)
              case atStart => exact ⟨0, by omega, rfl, fun j hj => by omega⟩
              case round =>
                obtain ⟨m, hm, rfl, HW⟩ := hrel
                by_cases hlt2 : m < g.tl k
                · obtain ⟨b3, o3, rfl, z0⟩ := htk2.at_ hlt2
                  go_wp2_with fail
                  all_goals first
                    | (go_ret; exact says_no (fun h => by have := (h.tabs k hlt).ins m hlt2; omega) (Below.then_call HB0.out hbz (by omega)))
                    | (go_round
                       case rel => exact ⟨m + 1, by omega, by go_num, fun j hj => if e : j = m then e ▸ (by omega) else HW.out j (by omega)⟩
                       case measure => simp [intOf]; omega)
                · go_wp2_with fail
                  obtain rfl : m = g.tl k := by omega
                  go_roundw
                  case rel => exact ⟨k + 1, by omega, by go_num, hbz, fun j hj => if e : j = k then e ▸ ⟨hl, hp, HP.out, HW.out⟩ else HA.out j (by omega)⟩
                  case measure => simp [intOf]; omega
            · have hx : (g.tb k / 2 ^ min (IntKind.u64.wrap (2 ^ g.tl k)).toNat 64 != 0) = true := by rw [shr_shl hl hp]; simp [hP]
              have HP := Lib.hid hP; clear hP
              go_wp2_with fail
              go_quiet (fail)
              go_wp2_with fail
              go_ret
              exact says_no (fun h => absurd (h.tabs k hlt).hi (Int.not_lt.2 HP.out)) (bel_drewN (HBr.out.alloc (by omega) _) _)
          · have hd2 : decide (g.tb k < 0) = true := by simp; omega
            go_wp2_with fail
            go_quiet (fail)
            go_wp2_with fail
            go_ret
            exact says_no (fun h => by have := (h.tabs k hlt).lo; omega) (bel_drewN (HBr.out.alloc (by omega) _) _)
        · have hd1 : decide ((4 : Int) < (g.tl k : Int)) = true := by simp; omega
          go_wp2_with fail
          go_quiet (fail)
          go_wp2_with fail
          go_ret
          exact says_no (fun h => by have := (h.tabs k hlt).len; omega) (bel_drewN (HBr.out.alloc (by omega) _) _)
      · have hkn : k = g.n2 := by omega
        have HK := Lib.hid hkn; clear hkn
        have hboxr := hbox3.keeps (Keeps.of_below hbr)
        obtain ⟨g0, g1, g2, g3, g4⟩ := hboxr.five
        have hwr : w.heap.size < wr.heap.size := World.block_lt_of_cell? wr _ g0
        have hnx := hg.next.keeps (Keeps.of_below HBr.out)
        have hou := hg.outs.keeps (Keeps.of_below HBr.out)
        go_wp2_with fail
        refine (concat_any wr.heap.size A3 A4 g.n3 c3 g.n4 c4 g.N g.O _ (BoxAt.new wr [.slice A3 g.n3 c3, .slice A4 g.n4 c4] _ 0 _ rfl) (BoxAt.new wr [.slice A3 g.n3 c3, .slice A4 g.n4 c4] _ 1 _ rfl) (hnx.keeps (Keeps.alloc _ _)) (hou.keeps (Keeps.alloc _ _)) (by omega)).mono ?_
        rintro e w5 ⟨Ac, cc, rfl, hoc, hb5⟩
        have hb5' : Below wr.heap.size wr w5 := Below.alloc_then hb5
        have HB5 := Lib.hid (Below.then_call HBr.out hb5' (by omega))
        have hbox5 := hboxr.keeps (Keeps.of_below hb5')
        have hints := hoc.ints
        have hw5 := hb5'.size
        clear hb5 hb5' hoc hbr hsr g0 g1 g2 g3 g4 hnx hou
        go_wp2_with fail
        obtain ⟨wz, rfl⟩ : ∃ wz : World, wz = wr := ⟨_, rfl⟩
        go_loopw [91] (fun i wr => ∃ m : Nat, m ≤ g.n3 + g.n4 ∧ i = .int .i64 m ∧ Below w5.heap.size w5 wr ∧ Hid (∀ j, j < m → 0 ≤ both g.n3 g.N g.O j ∧ both g.n3 g.N g.O j < g.sigs)) (fun i _ => g.n3 + g.n4 - (intOf i).toNat)
        case atStart => exact ⟨0, by omega, rfl, Below.refl _ _, fun j hj => by omega⟩
        case round =>
          obtain ⟨m, hm, rfl, hbr, HN⟩ := hrel
          have HBr := Lib.hid (Below.then_call HB5.out hbr (by omega))
          obtain ⟨g0, g1, g2, g3, g4⟩ := (hbox5.keeps (Keeps.of_below hbr)).five
          have hszm := hbr.size
          by_cases hlt : m < g.n3 + g.n4
          · obtain ⟨b3, o3, rfl, x0⟩ := (hints.keeps (Keeps.of_below hbr)).at_ hlt
            have hbad : ¬ (0 ≤ both g.n3 g.N g.O m ∧ both g.n3 g.N g.O m < g.sigs) → ¬ g.Valid := fun hc hv => hc (by
              unfold both
              by_cases h : m < g.n3
              · rw [if_pos h]; exact hv.next m h
              · rw [if_neg h]; exact hv.outs _ (by omega))
            have HBAD := Lib.hid hbad; clear hbad
            generalize hbm : both g.n3 g.N g.O m = bm at x0
            have HBM := Lib.hid hbm; clear hbm
            by_cases hneg : bm < 0
            · go_wp2_with fail
              go_ret
              exact says_no (HBAD.out (by rw [HBM.out]; omega)) HBr.out
            · go_wp2_with fail
              refine (signals_any g.ins _ _ _ _ g.n1 g.n2 g.n3 g.n4 c1 c2 c3 c4 _ h1 h2 (by omega) (by omega)).mono ?_
              rintro e w6 ⟨rfl, hb6⟩
              have HB6 := Lib.hid hb6; clear hb6
              go_wp2_with fail
              all_goals first
                | (go_ret; exact says_no (HBAD.out (by rw [HBM.out]; unfold Tb.sigs; omega)) (Below.then_call HBr.out HB6.out (by omega)))
                | (refine ⟨⟨m + 1, by omega, by go_num, hbr.trans (HB6.out.mono (by omega)), fun j hj => if e : j = m then e ▸ (by rw [HBM.out]; unfold Tb.sigs; omega) else HN.out j (by omega)⟩, by simp [intOf]; omega⟩)
          · go_wp2_with fail
            go_ret
            refine says_yes ⟨h1, h2, h3, H4.out, fun j hj => HA.out j (by have := HK.out; omega), fun j hj => ?_, fun j hj => ?_⟩ HBr.out
            · have := HN.out j (by omega)
              unfold both at this; rw [if_pos hj] at this; exact this
            · have := HN.out (g.n3 + j) (by omega)
              unfold both at this; rw [if_neg (by omega), Nat.add_sub_cancel_left] at this; exact this
  · by_cases hn : g.n3 = g.n1
    · have hq : ((g.n3 : Int) != (g.n1 : Int)) = false := by simp [hn]
      have hbad : g.ins < 0 ∨ 60000 < g.ins ∨ 60000 < g.n4 := by omega
      have HN := Lib.hid hn; clear hn h0
      go_enter Try.func21, Try.ntmps21
      go_wp2_with fail
      all_goals (go_ret; exact says_no (fun h => by have := h.i0; have := h.i1; have := h.n4; omega) ((Below.refl _ _).alloc (Nat.le_refl _) _))
    · have hq : ((g.n3 : Int) != (g.n1 : Int)) = true := by rw [bne_iff_ne]; omega
      have HN := Lib.hid hn; clear hn h0
      go_enter Try.func21, Try.ntmps21
      go_wp2_with fail
      all_goals (go_ret; exact says_no (fun h => HN.out h.n3) ((Below.refl _ _).alloc (Nat.le_refl _) _))
end Go.Proofs.Ytdhgbikmaglgpaa
