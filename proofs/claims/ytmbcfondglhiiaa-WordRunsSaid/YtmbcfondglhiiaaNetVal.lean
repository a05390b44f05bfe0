/- word.Valid, walked: is a netlist right? Conditions: the netlist lies in memory. -/
import Derived.Test.YtmbcfondglhiiaaNetOk2
import Derived.Test.YtmbcfondglhiiaaNetVd
namespace Go.Proofs.Ytmbcfondglhiiaa
open Go.RowKit

theorem Keeps.drewN (w : World) (n : Nat) : Keeps w (w.drewN n) := fun _ _ h => h

set_option maxHeartbeats 20000000 in
set_option maxRecDepth 100000 in
theorem valid_any (g : Nl) (p : Pl) (w : World) (hg : g.At w p) (hfit : g.Fits) :
    Calls Try.prog 5 #[.agg #[.slice p.A0 g.n0 p.c0, .slice p.A1 g.nn p.c1, .slice p.A2 g.nr p.c2, .slice p.A3 g.nm p.c3, .slice p.A4 g.nw p.c4, .slice p.A5 g.no p.c5]] w fun e w' => e = .returned (.bool (tf g.Ok)) ∧ Below w.heap.size w w' := by
  have hb0 := hfit.b0; have hb1 := hfit.b1; have hb2 := hfit.b2; have hb3 := hfit.b3; have hb4 := hfit.b4; have hb5 := hfit.b5
  have hin := hg.inp; have hrg := hg.regs; have hmm := hg.mems; have hwr := hg.writes; have hou := hg.outs
  have HOK : ∀ (i : Nat) (W : World), g.At W p → i < g.nn → Calls Try.prog 10 #[.agg #[.slice p.A0 g.n0 p.c0, .slice p.A1 g.nn p.c1, .slice p.A2 g.nr p.c2, .slice p.A3 g.nm p.c3, .slice p.A4 g.nw p.c4, .slice p.A5 g.no p.c5], .int .i64 i] W fun e w' => e = .returned (.bool (tf (g.NodeOk i))) ∧ Below W.heap.size W w' := fun i W h hi => nodeOk_any g p i W h hfit hi
  have HIS : ∀ (bn : Nat) (i wd : Int) (W : World), W.cell? ⟨bn, 1, none⟩ = some (.slice p.A1 g.nn p.c1) → g.At W p → Calls Try.prog 11 #[.int .i64 i, .int .i64 wd, .pointer (some ⟨bn, 0, none⟩)] W fun e w' => e = .returned (.bool (isB g i wd)) ∧ W = w' := fun bn i wd W h1 h2 => is_any g p bn i wd W h1 h2.nodes
  generalize p.A0 = A0 at *
  generalize p.A1 = A1 at *
  generalize p.A2 = A2 at *
  generalize p.A3 = A3 at *
  generalize p.A4 = A4 at *
  generalize p.A5 = A5 at *
  go_enter Try.func5, Try.ntmps5
  go_upto_region 1 with (fail)
  have hbel : Below w.heap.size w (w.alloc (.cells #[.slice A0 g.n0 p.c0, .slice A1 g.nn p.c1, .slice A2 g.nr p.c2, .slice A3 g.nm p.c3, .slice A4 g.nw p.c4, .slice A5 g.no p.c5] 28)) := (Below.refl _ _).alloc (Nat.le_refl _) _
  have hbx := BoxAt.new w [.slice A0 g.n0 p.c0, .slice A1 g.nn p.c1, .slice A2 g.nr p.c2, .slice A3 g.nm p.c3, .slice A4 g.nw p.c4, .slice A5 g.no p.c5] 28
  generalize w.alloc (.cells #[.slice A0 g.n0 p.c0, .slice A1 g.nn p.c1, .slice A2 g.nr p.c2, .slice A3 g.nm p.c3, .slice A4 g.nw p.c4, .slice A5 g.no p.c5] 28) = w1 at *
  have HB1 := Lib.hid hbel
  have hg1 := hg.keeps (Keeps.of_below hbel)
  clear hbel
  obtain ⟨g0, g1, g2, g3, g4, g5⟩ := hbx.six
  go_wp2_with fail
  clear g0 g1 g2 g3 g4 g5
  go_loopw [20] (fun ix wr => ∃ k : Nat, k ≤ g.n0 ∧ ix = .int .i64 k ∧ Below w1.heap.size w1 wr ∧ Hid (∀ j, j < k → wideB (g.In j) = true)) (fun ix _ => g.n0 - (intOf ix).toNat)
  case atStart => exact ⟨0, by omega, rfl, Below.refl _ _, fun j hj => by omega⟩
  case round =>
    obtain ⟨k, hkk, rfl, HO, HP1⟩ := hrel
    have HOH := Lib.hid HO
    have hkr := Keeps.of_below HO
    have HBR := Lib.hid (Below.then_call HB1.out HO HB1.out.size)
    have hgr := hg1.keeps hkr
    obtain ⟨g0, g1, g2, g3, g4, g5⟩ := (hbx.keeps hkr).six
    by_cases hlt : k < g.n0
    · have hlti : (k : Int) < g.n0 := by omega
      obtain ⟨b, o, rfl, y⟩ := hin.keeps (Keeps.of_below HBR.out) |>.at_ hlt
      cases hx : wideB (g.In k)
      · have HX := Lib.hid hx
        have HNE : Hid (tf g.Ok = false) := Lib.hid (tf_no (fun h => by have := h.inp k hlt; rw [HX.out] at this; cases this))
        clear hx
        go_wp2_with fail
        refine (wide_any _ _).mono ?_
        rintro e wX ⟨rfl, rfl⟩
        rw [HX.out]
        go_wp2_with fail
        go_ret
        exact ⟨congrArg (fun b => Ending.returned (Value.bool b)) HNE.out.symm, HBR.out⟩
      · have HX := Lib.hid hx
        clear hx
        go_wp2_with fail
        refine (wide_any _ _).mono ?_
        rintro e wX ⟨rfl, rfl⟩
        rw [HX.out]
        go_wp2_with fail
        go_roundw
        case rel => exact ⟨k + 1, by omega, by go_num, HOH.out, fun j hj => if e : j = k then e ▸ HX.out else HP1.out j (by omega)⟩
        case measure => simp [intOf]; omega
    · obtain rfl : k = g.n0 := by omega
      go_wp2_with fail
      go_loopw [31] (fun ix wr => ∃ k : Nat, k ≤ g.nr ∧ ix = .int .i64 k ∧ Below w1.heap.size w1 wr ∧ Hid (∀ j, j < k → wideB (g.RW j) = true ∧ g.RI j ≤ maskN (g.RW j))) (fun ix _ => g.nr - (intOf ix).toNat)
      case atStart => exact ⟨0, by omega, rfl, HO, fun j hj => by omega⟩
      case round =>
        clear HO HOH hkr HBR hgr g0 g1 g2 g3 g4 g5
        obtain ⟨k, hkk, rfl, HO, HP2⟩ := hrel
        have HOH := Lib.hid HO
        have hkr := Keeps.of_below HO
        have HBR := Lib.hid (Below.then_call HB1.out HO HB1.out.size)
        have hgr := hg1.keeps hkr
        obtain ⟨g0, g1, g2, g3, g4, g5⟩ := (hbx.keeps hkr).six
        by_cases hlt : k < g.nr
        · have hlti : (k : Int) < g.nr := by omega
          have hri := hfit.ri k hlt
          obtain ⟨b, o, rfl, y0, y1, y2⟩ := hrg.keeps (Keeps.of_below HBR.out) |>.at3 hlt
          simp only [qu] at y0 y1 y2
          go_upto_region 10 with (fail)
          have q := BoxAt.new wr [.int .i64 (g.RW k), .int .u64 (g.RI k), .int .i64 (g.RN k)] 37
          have hOq : Below w1.heap.size w1 (wr.alloc (.cells #[.int .i64 (g.RW k), .int .u64 (g.RI k), .int .i64 (g.RN k)] 37)) := HOH.out.alloc HOH.out.size _
          generalize wr.alloc (.cells #[.int .i64 (g.RW k), .int .u64 (g.RI k), .int .i64 (g.RN k)] 37) = wq at *
          clear HOH hkr HBR hgr g0 g1 g2 g3 g4 g5
          have HOH := Lib.hid hOq
          have hkr := Keeps.of_below hOq
          have HBR := Lib.hid (Below.then_call HB1.out hOq HB1.out.size)
          have hgr := hg1.keeps hkr
          clear hOq
          obtain ⟨g0, g1, g2, g3, g4, g5⟩ := (hbx.keeps hkr).six
          generalize wr.heap.size = bq at *
          have v0 : wq.cell? ⟨bq, 0, none⟩ = some (.int .i64 (g.RW k)) := q 0 _ rfl
          have v1 : wq.cell? ⟨bq, 1, none⟩ = some (.int .u64 (g.RI k)) := q 1 _ rfl
          clear q y0 y1 y2
          cases hx : wideB (g.RW k)
          · have HX := Lib.hid hx
            have HNE : Hid (tf g.Ok = false) := Lib.hid (tf_no (fun h => by have := (h.regs k hlt).1; rw [HX.out] at this; cases this))
            clear hx
            go_wp2_with fail
            refine (wide_any _ _).mono ?_
            rintro e wX ⟨rfl, rfl⟩
            rw [HX.out]
            go_wp2_with fail
            go_ret
            exact ⟨congrArg (fun b => Ending.returned (Value.bool b)) HNE.out.symm, HBR.out⟩
          · have HX := Lib.hid hx
            have HXW := Lib.hid hx
            have hnn := hx
            simp only [wideB, Bool.and_eq_true, decide_eq_true_eq] at hnn
            obtain ⟨m, hm⟩ : ∃ m : Nat, (m : Int) = g.RW k := ⟨(g.RW k).toNat, by omega⟩
            obtain ⟨u, hue⟩ : ∃ u : Nat, (u : Int) = g.RI k := ⟨(g.RI k).toNat, by omega⟩
            have hsh : ((u : Int) / 2 ^ m == 0) = decide (g.RI k ≤ maskN (g.RW k)) := by rw [maskN_eq hx, ← hm, ← hue]; exact shr_zero u m
            have HSH := Lib.hid hsh
            have hm32 : m ≤ 32 := by omega
            rw [← hm] at v0
            rw [← hue] at v1
            rw [← hm] at HX
            clear hx hnn hm hue hsh hri
            by_cases hi : g.RI k ≤ maskN (g.RW k)
            · have HI := Lib.hid hi
              have e9 : ((u : Int) / 2 ^ m != 0) = false := by rw [bne, HSH.out, decide_eq_true hi]; rfl
              have HXK : Hid (wideB (g.RW k) = true) := Lib.hid HXW.out
              clear hi
              go_wp2_with fail
              refine (wide_any _ _).mono ?_
              rintro e wX ⟨rfl, rfl⟩
              rw [HX.out]
              go_wp2_with fail
              go_roundw
              case rel => exact ⟨k + 1, by omega, by go_num, HOH.out, fun j hj => if e : j = k then e ▸ ⟨HXK.out, HI.out⟩ else HP2.out j (by omega)⟩
              case measure => simp [intOf]; omega
            · have HNE : Hid (tf g.Ok = false) := Lib.hid (tf_no (fun h => hi (h.regs k hlt).2))
              have e9 : ((u : Int) / 2 ^ m != 0) = true := by rw [bne, HSH.out, decide_eq_false hi]; rfl
              clear hi
              go_wp2_with fail
              refine (wide_any _ _).mono ?_
              rintro e wX ⟨rfl, rfl⟩
              rw [HX.out]
              go_wp2_with fail
              go_ret
              exact ⟨congrArg (fun b => Ending.returned (Value.bool b)) HNE.out.symm, HBR.out⟩
        · obtain rfl : k = g.nr := by omega
          go_wp2_with fail
          go_loopw [51] (fun ix wr => ∃ k : Nat, k ≤ g.nm ∧ ix = .int .i64 k ∧ Below w1.heap.size w1 wr ∧ Hid (∀ j, j < k → wideB (g.MW j) = true ∧ 1 ≤ g.MS j ∧ g.MS j ≤ 256)) (fun ix _ => g.nm - (intOf ix).toNat)
          case atStart => exact ⟨0, by omega, rfl, HO, fun j hj => by omega⟩
          case round =>
            clear HO HOH hkr HBR hgr g0 g1 g2 g3 g4 g5
            obtain ⟨k, hkk, rfl, HO, HP3⟩ := hrel
            have HOH := Lib.hid HO
            have hkr := Keeps.of_below HO
            have HBR := Lib.hid (Below.then_call HB1.out HO HB1.out.size)
            have hgr := hg1.keeps hkr
            obtain ⟨g0, g1, g2, g3, g4, g5⟩ := (hbx.keeps hkr).six
            by_cases hlt : k < g.nm
            · have hlti : (k : Int) < g.nm := by omega
              obtain ⟨b, o, rfl, y0, y1⟩ := hmm.keeps (Keeps.of_below HBR.out) |>.at2 hlt
              simp only [two] at y0 y1
              go_upto_region 16 with (fail)
              have q := BoxAt.new wr [.int .i64 (g.MW k), .int .i64 (g.MS k)] 39
              have hOq : Below w1.heap.size w1 (wr.alloc (.cells #[.int .i64 (g.MW k), .int .i64 (g.MS k)] 39)) := HOH.out.alloc HOH.out.size _
              generalize wr.alloc (.cells #[.int .i64 (g.MW k), .int .i64 (g.MS k)] 39) = wq at *
              clear HOH hkr HBR hgr g0 g1 g2 g3 g4 g5
              have HOH := Lib.hid hOq
              have hkr := Keeps.of_below hOq
              have HBR := Lib.hid (Below.then_call HB1.out hOq HB1.out.size)
              have hgr := hg1.keeps hkr
              clear hOq
              obtain ⟨g0, g1, g2, g3, g4, g5⟩ := (hbx.keeps hkr).six
              generalize wr.heap.size = bq at *
              have v0 : wq.cell? ⟨bq, 0, none⟩ = some (.int .i64 (g.MW k)) := q 0 _ rfl
              have v1 : wq.cell? ⟨bq, 1, none⟩ = some (.int .i64 (g.MS k)) := q 1 _ rfl
              clear q y0 y1
              cases hx : wideB (g.MW k)
              · have HX := Lib.hid hx
                have HNE : Hid (tf g.Ok = false) := Lib.hid (tf_no (fun h => by have := (h.mems k hlt).1; rw [HX.out] at this; cases this))
                clear hx
                go_wp2_with fail
                refine (wide_any _ _).mono ?_
                rintro e wX ⟨rfl, rfl⟩
                rw [HX.out]
                go_wp2_with fail
                go_ret
                exact ⟨congrArg (fun b => Ending.returned (Value.bool b)) HNE.out.symm, HBR.out⟩
              · have HX := Lib.hid hx
                clear hx
                by_cases s0 : 1 ≤ g.MS k
                · by_cases s1 : g.MS k ≤ 256
                  · have HS : Hid (1 ≤ g.MS k ∧ g.MS k ≤ 256) := Lib.hid ⟨s0, s1⟩
                    go_wp2_with fail
                    refine (wide_any _ _).mono ?_
                    rintro e wX ⟨rfl, rfl⟩
                    rw [HX.out]
                    go_wp2_with fail
                    go_roundw
                    case rel => exact ⟨k + 1, by omega, by go_num, HOH.out, fun j hj => if e : j = k then e ▸ ⟨HX.out, HS.out⟩ else HP3.out j (by omega)⟩
                    case measure => simp [intOf]; omega
                  · have HNE : Hid (tf g.Ok = false) := Lib.hid (tf_no (fun h => s1 (h.mems k hlt).2.2))
                    go_wp2_with fail
                    refine (wide_any _ _).mono ?_
                    rintro e wX ⟨rfl, rfl⟩
                    rw [HX.out]
                    go_wp2_with fail
                    go_ret
                    exact ⟨congrArg (fun b => Ending.returned (Value.bool b)) HNE.out.symm, HBR.out⟩
                · have HNE : Hid (tf g.Ok = false) := Lib.hid (tf_no (fun h => s0 (h.mems k hlt).2.1))
                  go_wp2_with fail
                  refine (wide_any _ _).mono ?_
                  rintro e wX ⟨rfl, rfl⟩
                  rw [HX.out]
                  go_wp2_with fail
                  go_ret
                  exact ⟨congrArg (fun b => Ending.returned (Value.bool b)) HNE.out.symm, HBR.out⟩
            · obtain rfl : k = g.nm := by omega
              go_wp2_with fail
              go_loopw [73] (fun ix wr => ∃ k : Nat, k ≤ g.nn ∧ ix = .int .i64 k ∧ Below w1.heap.size w1 wr ∧ Hid (∀ j, j < k → g.NodeOk j)) (fun ix _ => g.nn - (intOf ix).toNat)
              case atStart => exact ⟨0, by omega, rfl, HO, fun j hj => by omega⟩
              case round =>
                clear HO HOH hkr HBR hgr g0 g1 g2 g3 g4 g5
                obtain ⟨k, hkk, rfl, HO, HP4⟩ := hrel
                have HOH := Lib.hid HO
                have hkr := Keeps.of_below HO
                have HBR := Lib.hid (Below.then_call HB1.out HO HB1.out.size)
                have hgr := hg1.keeps hkr
                obtain ⟨g0, g1, g2, g3, g4, g5⟩ := (hbx.keeps hkr).six
                by_cases hlt : k < g.nn
                · have hlti : (k : Int) < g.nn := by omega
                  go_wp2_with fail
                  refine (HOK k _ hgr hlt).mono ?_
                  rintro e wX ⟨rfl, hbX⟩
                  have hOX := Below.then_call HOH.out hbX HOH.out.size
                  have HBX := Lib.hid (Below.then_call HBR.out hbX HBR.out.size)
                  clear hbX
                  by_cases hx : g.NodeOk k
                  · have HX := Lib.hid hx
                    rw [tf_yes hx]
                    clear hx
                    go_wp2_with fail
                    go_roundw
                    case rel => exact ⟨k + 1, by omega, by go_num, hOX, fun j hj => if e : j = k then e ▸ HX.out else HP4.out j (by omega)⟩
                    case measure => simp [intOf]; omega
                  · have HNE : Hid (tf g.Ok = false) := Lib.hid (tf_no (fun h => hx (h.nodes k hlt)))
                    rw [tf_no hx]
                    clear hx
                    go_wp2_with fail
                    go_ret
                    exact ⟨congrArg (fun b => Ending.returned (Value.bool b)) HNE.out.symm, HBX.out⟩
                · obtain rfl : k = g.nn := by omega
                  go_wp2_with fail
                  go_loopw [85] (fun ix wr => ∃ k : Nat, k ≤ g.nr ∧ ix = .int .i64 k ∧ Below w1.heap.size w1 wr ∧ Hid (∀ j, j < k → isB g (g.RN j) (g.RW j) = true)) (fun ix _ => g.nr - (intOf ix).toNat)
                  case atStart => exact ⟨0, by omega, rfl, HO, fun j hj => by omega⟩
                  case round =>
                    clear HO HOH hkr HBR hgr g0 g1 g2 g3 g4 g5
                    obtain ⟨k, hkk, rfl, HO, HP5⟩ := hrel
                    have HOH := Lib.hid HO
                    have hkr := Keeps.of_below HO
                    have HBR := Lib.hid (Below.then_call HB1.out HO HB1.out.size)
                    have hgr := hg1.keeps hkr
                    obtain ⟨g0, g1, g2, g3, g4, g5⟩ := (hbx.keeps hkr).six
                    by_cases hlt : k < g.nr
                    · have hlti : (k : Int) < g.nr := by omega
                      obtain ⟨b, o, rfl, y0, y1, y2⟩ := hrg.keeps (Keeps.of_below HBR.out) |>.at3 hlt
                      simp only [qu] at y0 y1 y2
                      go_upto_region 29 with (fail)
                      have q := BoxAt.new wr [.int .i64 (g.RW k), .int .u64 (g.RI k), .int .i64 (g.RN k)] 37
                      have hOq : Below w1.heap.size w1 (wr.alloc (.cells #[.int .i64 (g.RW k), .int .u64 (g.RI k), .int .i64 (g.RN k)] 37)) := HOH.out.alloc HOH.out.size _
                      generalize wr.alloc (.cells #[.int .i64 (g.RW k), .int .u64 (g.RI k), .int .i64 (g.RN k)] 37) = wq at *
                      clear HOH hkr HBR hgr g0 g1 g2 g3 g4 g5
                      have HOH := Lib.hid hOq
                      have hkr := Keeps.of_below hOq
                      have HBR := Lib.hid (Below.then_call HB1.out hOq HB1.out.size)
                      have hgr := hg1.keeps hkr
                      clear hOq
                      obtain ⟨g0, g1, g2, g3, g4, g5⟩ := (hbx.keeps hkr).six
                      generalize wr.heap.size = bq at *
                      have v0 : wq.cell? ⟨bq, 0, none⟩ = some (.int .i64 (g.RW k)) := q 0 _ rfl
                      have v2 : wq.cell? ⟨bq, 2, none⟩ = some (.int .i64 (g.RN k)) := q 2 _ rfl
                      clear q y0 y1 y2
                      cases hx : isB g (g.RN k) (g.RW k)
                      · have HX := Lib.hid hx
                        have HNE : Hid (tf g.Ok = false) := Lib.hid (tf_no (fun h => by have := h.next k hlt; rw [HX.out] at this; cases this))
                        clear hx
                        go_wp2_with fail
                        refine (HIS w.heap.size _ _ _ g1 hgr).mono ?_
                        rintro e wX ⟨rfl, rfl⟩
                        rw [HX.out]
                        go_wp2_with fail
                        go_ret
                        exact ⟨congrArg (fun b => Ending.returned (Value.bool b)) HNE.out.symm, HBR.out⟩
                      · have HX := Lib.hid hx
                        clear hx
                        go_wp2_with fail
                        refine (HIS w.heap.size _ _ _ g1 hgr).mono ?_
                        rintro e wX ⟨rfl, rfl⟩
                        rw [HX.out]
                        go_wp2_with fail
                        go_roundw
                        case rel => exact ⟨k + 1, by omega, by go_num, HOH.out, fun j hj => if e : j = k then e ▸ HX.out else HP5.out j (by omega)⟩
                        case measure => simp [intOf]; omega
                    · obtain rfl : k = g.nr := by omega
                      go_wp2_with fail
                      go_loopw [100] (fun ix wr => ∃ k : Nat, k ≤ g.nw ∧ ix = .int .i64 k ∧ Below w1.heap.size w1 wr ∧ Hid (∀ j, j < k → g.WrOk j)) (fun ix _ => g.nw - (intOf ix).toNat)
                      case atStart => exact ⟨0, by omega, rfl, HO, fun j hj => by omega⟩
                      case round =>
                        clear HO HOH hkr HBR hgr g0 g1 g2 g3 g4 g5
                        obtain ⟨k, hkk, rfl, HO, HP6⟩ := hrel
                        have HOH := Lib.hid HO
                        have hkr := Keeps.of_below HO
                        have HBR := Lib.hid (Below.then_call HB1.out HO HB1.out.size)
                        have hgr := hg1.keeps hkr
                        obtain ⟨g0, g1, g2, g3, g4, g5⟩ := (hbx.keeps hkr).six
                        by_cases hlt : k < g.nw
                        · have hlti : (k : Int) < g.nw := by omega
                          obtain ⟨b, o, rfl, y0, y1, y2, y3⟩ := hwr.keeps (Keeps.of_below HBR.out) |>.at4 hlt
                          simp only [qu] at y0 y1 y2 y3
                          go_upto_region 35 with (fail)
                          have q := BoxAt.new wr [.int .i64 (g.WM k), .int .i64 (g.WN k), .int .i64 (g.WA k), .int .i64 (g.WD k)] 45
                          have hOq : Below w1.heap.size w1 (wr.alloc (.cells #[.int .i64 (g.WM k), .int .i64 (g.WN k), .int .i64 (g.WA k), .int .i64 (g.WD k)] 45)) := HOH.out.alloc HOH.out.size _
                          generalize wr.alloc (.cells #[.int .i64 (g.WM k), .int .i64 (g.WN k), .int .i64 (g.WA k), .int .i64 (g.WD k)] 45) = wq at *
                          clear HOH hkr HBR hgr g0 g1 g2 g3 g4 g5
                          have HOH := Lib.hid hOq
                          have hkr := Keeps.of_below hOq
                          have HBR := Lib.hid (Below.then_call HB1.out hOq HB1.out.size)
                          have hgr := hg1.keeps hkr
                          clear hOq
                          obtain ⟨g0, g1, g2, g3, g4, g5⟩ := (hbx.keeps hkr).six
                          generalize wr.heap.size = bq at *
                          have v0 : wq.cell? ⟨bq, 0, none⟩ = some (.int .i64 (g.WM k)) := q 0 _ rfl
                          have v1 : wq.cell? ⟨bq, 1, none⟩ = some (.int .i64 (g.WN k)) := q 1 _ rfl
                          have v2 : wq.cell? ⟨bq, 2, none⟩ = some (.int .i64 (g.WA k)) := q 2 _ rfl
                          have v3 : wq.cell? ⟨bq, 3, none⟩ = some (.int .i64 (g.WD k)) := q 3 _ rfl
                          clear q y0 y1 y2 y3
                          have HCI := Lib.hid (fun (i wd : Int) (W : World) (hW : Keeps wq W) => HIS w.heap.size i wd W (hW _ _ g1) (hgr.keeps hW))
                          have hmr := hmm.keeps (Keeps.of_below HBR.out)
                          by_cases m0n : ¬ 0 ≤ g.WM k
                          · have m0 := m0n
                            have HNE : Hid (tf g.Ok = false) := Lib.hid (tf_no (fun h => m0 (h.writes k hlt).lo))
                            have m0' : decide (g.WM k < 0) = true := by simp; omega
                            have m0'' : g.WM k < 0 := by omega
                            clear m0 m0n
                            go_quiet ((go_at_call 11; refine (HCI.out _ _ _ (Keeps.drewN _ _)).mono ?_; rintro e wX ⟨rfl, rfl⟩; exact ⟨rfl, _, rfl⟩))
                            go_wp2_with fail
                            go_ret
                            exact ⟨congrArg (fun b => Ending.returned (Value.bool b)) HNE.out.symm, below_drewN HBR.out _⟩
                          have m0 : 0 ≤ g.WM k := by omega
                          clear m0n
                          have m0' : decide (g.WM k < 0) = false := by simp; omega
                          by_cases m1n : ¬ g.WM k < g.nm
                          · have m1 := m1n
                            have HNE : Hid (tf g.Ok = false) := Lib.hid (tf_no (fun h => m1 (h.writes k hlt).hi))
                            have m1'' : (g.nm : Int) ≤ g.WM k := by omega
                            clear m1 m1n
                            go_quiet ((go_at_call 11; refine (HCI.out _ _ _ (Keeps.drewN _ _)).mono ?_; rintro e wX ⟨rfl, rfl⟩; exact ⟨rfl, _, rfl⟩))
                            go_wp2_with fail
                            go_ret
                            exact ⟨congrArg (fun b => Ending.returned (Value.bool b)) HNE.out.symm, below_drewN HBR.out _⟩
                          have m1 : g.WM k < g.nm := by omega
                          clear m1n
                          have m1' : decide ((g.nm : Int) ≤ g.WM k) = false := by simp; omega
                          cases i1 : isB g (g.WN k) 1
                          · have I1 := Lib.hid i1
                            have HNE : Hid (tf g.Ok = false) := Lib.hid (tf_no (fun h => by have := (h.writes k hlt).when; rw [I1.out] at this; cases this))
                            go_quiet ((go_at_call 11; refine (HCI.out _ _ _ (Keeps.drewN _ _)).mono ?_; rintro e wX ⟨rfl, rfl⟩; exact ⟨rfl, _, rfl⟩))
                            go_wp2_with fail
                            go_ret
                            exact ⟨congrArg (fun b => Ending.returned (Value.bool b)) HNE.out.symm, below_drewN HBR.out _⟩
                          cases i2 : isB g (g.WA k) 0
                          · have I2 := Lib.hid i2
                            have HNE : Hid (tf g.Ok = false) := Lib.hid (tf_no (fun h => by have := (h.writes k hlt).addr; rw [I2.out] at this; cases this))
                            go_quiet ((go_at_call 11; refine (HCI.out _ _ _ (Keeps.drewN _ _)).mono ?_; rintro e wX ⟨rfl, rfl⟩; exact ⟨rfl, _, rfl⟩))
                            go_wp2_with fail
                            go_ret
                            exact ⟨congrArg (fun b => Ending.returned (Value.bool b)) HNE.out.symm, below_drewN HBR.out _⟩
                          obtain ⟨b3, o3, rfl, z0, _⟩ := hmr.at2 (k := (g.WM k).toNat) (by omega)
                          simp only [two] at z0
                          cases i3 : isB g (g.WD k) (g.MW (g.WM k).toNat)
                          · have I3 := Lib.hid i3
                            have HNE : Hid (tf g.Ok = false) := Lib.hid (tf_no (fun h => by have := (h.writes k hlt).data; rw [I3.out] at this; cases this))
                            go_quiet ((go_at_call 11; refine (HCI.out _ _ _ (Keeps.drewN _ _)).mono ?_; rintro e wX ⟨rfl, rfl⟩; exact ⟨rfl, _, rfl⟩))
                            go_wp2_with fail
                            go_ret
                            exact ⟨congrArg (fun b => Ending.returned (Value.bool b)) HNE.out.symm, below_drewN HBR.out _⟩
                          have HWR : Hid (g.WrOk k) := Lib.hid ⟨m0, m1, i1, i2, i3⟩
                          go_quiet ((go_at_call 11; refine (HCI.out _ _ _ (Keeps.drewN _ _)).mono ?_; rintro e wX ⟨rfl, rfl⟩; exact ⟨rfl, _, rfl⟩))
                          have hbd := below_drewN HOH.out nq
                          go_wp2_with fail
                          go_roundw
                          case rel => exact ⟨k + 1, by omega, by go_num, hbd, fun j hj => if e : j = k then e ▸ HWR.out else HP6.out j (by omega)⟩
                          case measure => simp [intOf]; omega
                        · obtain rfl : k = g.nw := by omega
                          go_wp2_with fail
                          go_loopw [147] (fun ix wr => ∃ k : Nat, k ≤ g.no ∧ ix = .int .i64 k ∧ Below w1.heap.size w1 wr ∧ Hid (∀ j, j < k → isB g (g.O j) 0 = true)) (fun ix _ => g.no - (intOf ix).toNat)
                          case atStart => exact ⟨0, by omega, rfl, HO, fun j hj => by omega⟩
                          case round =>
                            clear HO HOH hkr HBR hgr g0 g1 g2 g3 g4 g5
                            obtain ⟨k, hkk, rfl, HO, HP7⟩ := hrel
                            have HOH := Lib.hid HO
                            have hkr := Keeps.of_below HO
                            have HBR := Lib.hid (Below.then_call HB1.out HO HB1.out.size)
                            have hgr := hg1.keeps hkr
                            obtain ⟨g0, g1, g2, g3, g4, g5⟩ := (hbx.keeps hkr).six
                            by_cases hlt : k < g.no
                            · have hlti : (k : Int) < g.no := by omega
                              obtain ⟨b, o, rfl, y⟩ := hou.keeps (Keeps.of_below HBR.out) |>.at_ hlt
                              cases hx : isB g (g.O k) 0
                              · have HX := Lib.hid hx
                                have HNE : Hid (tf g.Ok = false) := Lib.hid (tf_no (fun h => by have := h.outs k hlt; rw [HX.out] at this; cases this))
                                clear hx
                                go_wp2_with fail
                                refine (HIS w.heap.size _ _ _ g1 hgr).mono ?_
                                rintro e wX ⟨rfl, rfl⟩
                                rw [HX.out]
                                go_wp2_with fail
                                go_ret
                                exact ⟨congrArg (fun b => Ending.returned (Value.bool b)) HNE.out.symm, HBR.out⟩
                              · have HX := Lib.hid hx
                                clear hx
                                go_wp2_with fail
                                refine (HIS w.heap.size _ _ _ g1 hgr).mono ?_
                                rintro e wX ⟨rfl, rfl⟩
                                rw [HX.out]
                                go_wp2_with fail
                                go_roundw
                                case rel => exact ⟨k + 1, by omega, by go_num, HOH.out, fun j hj => if e : j = k then e ▸ HX.out else HP7.out j (by omega)⟩
                                case measure => simp [intOf]; omega
                            · obtain rfl : k = g.no := by omega
                              have HYE : Hid (tf g.Ok = true) := Lib.hid (tf_yes ⟨HP1.out, HP2.out, HP3.out, HP4.out, HP5.out, HP6.out, HP7.out⟩)
                              go_wp2_with fail
                              go_ret
                              exact ⟨congrArg (fun b => Ending.returned (Value.bool b)) HYE.out.symm, HBR.out⟩
end Go.Proofs.Ytmbcfondglhiiaa
