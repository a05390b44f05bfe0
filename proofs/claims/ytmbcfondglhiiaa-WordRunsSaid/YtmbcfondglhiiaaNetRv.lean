/- The reference's NetValid, walked: is a netlist right? Conditions: the netlist lies in memory. -/
import Derived.Test.YtmbcfondglhiiaaNetNv
import Derived.Test.YtmbcfondglhiiaaNetVd
import Derived.Deep.DeepCutAuto
import Derived.Deep.CutBlock
namespace Go.Proofs.Ytmbcfondglhiiaa
open Go.RowKit

/-- how far the reference has found everything right -/
def P1 (g : Nl) (k : Nat) : Prop := ∀ j, j < k → wideB (g.In j) = true
def P2 (g : Nl) (k : Nat) : Prop := P1 g g.n0 ∧ ∀ j, j < k → wideB (g.RW j) = true ∧ g.RI j ≤ maskN (g.RW j)
def P3 (g : Nl) (k : Nat) : Prop := P2 g g.nr ∧ ∀ j, j < k → wideB (g.MW j) = true ∧ 1 ≤ g.MS j ∧ g.MS j ≤ 256
def P4 (g : Nl) (k : Nat) : Prop := P3 g g.nm ∧ ∀ j, j < k → g.NodeOk j
def P5 (g : Nl) (k : Nat) : Prop := P4 g g.nn ∧ ∀ j, j < k → isB g (g.RN j) (g.RW j) = true
def P6 (g : Nl) (k : Nat) : Prop := P5 g g.nr ∧ ∀ j, j < k → g.WrOk j
def P7 (g : Nl) (k : Nat) : Prop := P6 g g.nw ∧ ∀ j, j < k → isB g (g.O j) 0 = true
theorem tf_dec {p q : Prop} [Decidable q] (h : p ↔ q) : tf p = decide q := by
  by_cases hq : q
  · rw [tf_yes (h.2 hq), decide_eq_true hq]
  · rw [tf_no (fun c => hq (h.1 c)), decide_eq_false hq]
theorem tf_bool {b : Bool} : tf (b = true) = b := by
  cases b
  · exact tf_no (by decide)
  · exact tf_yes rfl
theorem pre_zero {A : Prop} {R : Nat → Prop} : tf (A ∧ ∀ j, j < 0 → R j) = tf A := tf_congr ⟨fun h => h.1, fun h => ⟨h, fun j hj => by omega⟩⟩
theorem pre_step {A : Prop} {R : Nat → Prop} {k : Nat} : tf (A ∧ ∀ j, j < k + 1 → R j) = (tf (A ∧ ∀ j, j < k → R j) && tf (R k)) := by
  by_cases h1 : A ∧ ∀ j, j < k → R j
  · rw [tf_yes h1, Bool.true_and]
    exact tf_congr ⟨fun h => h.2 k (by omega), fun h => ⟨h1.1, fun j hj => if e : j = k then e ▸ h else h1.2 j (by omega)⟩⟩
  · rw [tf_no h1, Bool.false_and]
    exact tf_no (fun h => h1 ⟨h.1, fun j hj => h.2 j (by omega)⟩)
section
variable (g : Nl)
theorem p1_zero : tf (P1 g 0) = true := tf_yes (fun j hj => by omega)
theorem p1_step (k : Nat) : tf (P1 g (k + 1)) = (tf (P1 g k) && wideB (g.In k)) := by
  have h := @pre_step True (fun j => wideB (g.In j) = true) k
  have e : ∀ m, tf (P1 g m) = tf (True ∧ ∀ j, j < m → wideB (g.In j) = true) := fun m => tf_congr ⟨fun h => ⟨trivial, h⟩, fun h => h.2⟩
  rw [e, e, h, tf_bool]
theorem p2_zero : tf (P2 g 0) = tf (P1 g g.n0) := pre_zero
theorem p3_zero : tf (P3 g 0) = tf (P2 g g.nr) := pre_zero
theorem p4_zero : tf (P4 g 0) = tf (P3 g g.nm) := pre_zero
theorem p5_zero : tf (P5 g 0) = tf (P4 g g.nn) := pre_zero
theorem p6_zero : tf (P6 g 0) = tf (P5 g g.nr) := pre_zero
theorem p7_zero : tf (P7 g 0) = tf (P6 g g.nw) := pre_zero
theorem p2_step (k : Nat) : tf (P2 g (k + 1)) = (tf (P2 g k) && tf (wideB (g.RW k) = true ∧ g.RI k ≤ maskN (g.RW k))) := pre_step
theorem p3_step (k : Nat) : tf (P3 g (k + 1)) = (tf (P3 g k) && tf (wideB (g.MW k) = true ∧ 1 ≤ g.MS k ∧ g.MS k ≤ 256)) := pre_step
theorem p4_step (k : Nat) : tf (P4 g (k + 1)) = (tf (P4 g k) && tf (g.NodeOk k)) := pre_step
theorem p5_step (k : Nat) : tf (P5 g (k + 1)) = (tf (P5 g k) && isB g (g.RN k) (g.RW k)) := by have := @pre_step (P4 g g.nn) (fun j => isB g (g.RN j) (g.RW j) = true) k; rw [tf_bool] at this; exact this
theorem p6_step (k : Nat) : tf (P6 g (k + 1)) = (tf (P6 g k) && tf (g.WrOk k)) := pre_step
theorem p7_step (k : Nat) : tf (P7 g (k + 1)) = (tf (P7 g k) && isB g (g.O k) 0) := by have := @pre_step (P6 g g.nw) (fun j => isB g (g.O j) 0 = true) k; rw [tf_bool] at this; exact this
theorem ok_p7 : g.Ok ↔ P7 g g.no := ⟨fun h => ⟨⟨⟨⟨⟨⟨h.inp, h.regs⟩, h.mems⟩, h.nodes⟩, h.next⟩, h.writes⟩, h.outs⟩, fun h => ⟨h.1.1.1.1.1.1, h.1.1.1.1.1.2, h.1.1.1.1.2, h.1.1.1.2, h.1.1.2, h.1.2, h.2⟩⟩
theorem p7_ok : tf g.Ok = tf (P7 g g.no) := tf_congr (ok_p7 g)
variable {k : Nat}
theorem p6_bad (hk : k ≤ g.nw) (h : tf (P6 g k) = false) : tf (P6 g g.nw) = false := tf_no (fun c => tf_eq_false.1 h ⟨c.1, fun j hj => c.2 j (by omega)⟩)
theorem p5_bad (hk : k ≤ g.nr) (h : tf (P5 g k) = false) : tf (P5 g g.nr) = false := tf_no (fun c => tf_eq_false.1 h ⟨c.1, fun j hj => c.2 j (by omega)⟩)
theorem p4_bad (hk : k ≤ g.nn) (h : tf (P4 g k) = false) : tf (P4 g g.nn) = false := tf_no (fun c => tf_eq_false.1 h ⟨c.1, fun j hj => c.2 j (by omega)⟩)
theorem p6_mems (h : tf (P6 g k) = true) : ∀ j, j < g.nm → wideB (g.MW j) = true := fun j hj => ((tf_eq_true.1 h).1.1.1.2 j hj).1
theorem p5_regs (h : tf (P5 g k) = true) : ∀ j, j < g.nr → wideB (g.RW j) = true := fun j hj => ((tf_eq_true.1 h).1.1.1.2 j hj).1
end
theorem wrok_of {g : Nl} {k : Nat} (hw : wideB (g.MW (g.WM k).toNat) = true) (h0 : 0 ≤ g.WM k) (h1 : g.WM k < g.nm) (i1 : wnB g (g.WN k) 1 = true) (h2 : 0 ≤ g.WA k) (h3 : g.WA k < g.nn) : tf (g.WrOk k) = wnB g (g.WD k) (g.MW (g.WM k).toNat) := by
  have ha : isB g (g.WA k) 0 = true := by rw [isB_zero]; simp [inB, h2, h3]
  cases h : wnB g (g.WD k) (g.MW (g.WM k).toNat)
  · exact tf_no (fun c => by have := c.data; rw [isB_wide hw, h] at this; cases this)
  · exact tf_yes ⟨h0, h1, by rw [isB_one]; exact i1, ha, by rw [isB_wide hw]; exact h⟩

set_option maxHeartbeats 40000000 in
set_option maxRecDepth 100000 in
theorem netValid_any (g : Nl) (p : Pl) (w : World) (hg : g.At w p) (hfit : g.Fits) :
    Calls Try.prog 7 #[.agg #[.slice p.A0 g.n0 p.c0, .slice p.A1 g.nn p.c1, .slice p.A2 g.nr p.c2, .slice p.A3 g.nm p.c3, .slice p.A4 g.nw p.c4, .slice p.A5 g.no p.c5]] w fun e w' => e = .returned (.bool (tf g.Ok)) ∧ Below w.heap.size w w' := by
  have hb0 := hfit.b0; have hb1 := hfit.b1; have hb2 := hfit.b2; have hb3 := hfit.b3; have hb4 := hfit.b4; have hb5 := hfit.b5
  go_enter Try.func7, Try.ntmps7
  go_upto_region 1 with (fail)
  have hbel : Below w.heap.size w (w.alloc (.cells #[.slice p.A0 g.n0 p.c0, .slice p.A1 g.nn p.c1, .slice p.A2 g.nr p.c2, .slice p.A3 g.nm p.c3, .slice p.A4 g.nw p.c4, .slice p.A5 g.no p.c5] 28)) := (Below.refl _ _).alloc (Nat.le_refl _) _
  have hbx := BoxAt.new w [.slice p.A0 g.n0 p.c0, .slice p.A1 g.nn p.c1, .slice p.A2 g.nr p.c2, .slice p.A3 g.nm p.c3, .slice p.A4 g.nw p.c4, .slice p.A5 g.no p.c5] 28
  generalize w.alloc (.cells #[.slice p.A0 g.n0 p.c0, .slice p.A1 g.nn p.c1, .slice p.A2 g.nr p.c2, .slice p.A3 g.nm p.c3, .slice p.A4 g.nw p.c4, .slice p.A5 g.no p.c5] 28) = w1 at *
  have HB1 := Lib.hid hbel
  have hg1 := hg.keeps (Keeps.of_below hbel)
  clear hbel
  go_wp2_with fail
  go_loopw [3, 4] (fun s ix wr => ∃ k : Nat, k ≤ g.n0 ∧ ix = .int .i64 k ∧ s = .bool (tf (P1 g k)) ∧ Below w1.heap.size w1 wr) (fun _ ix _ => g.n0 - (intOf ix).toNat)
  case atStart => exact ⟨0, by omega, rfl, congrArg Value.bool (p1_zero g).symm, Below.refl _ _⟩
  case round =>
    obtain ⟨k, hkk, rfl, rfl, HO⟩ := hrel
    have HOH := Lib.hid HO
    have hkr := Keeps.of_below HO
    have HBR := Lib.hid (Below.then_call HB1.out HO HB1.out.size)
    have hgr := hg1.keeps hkr
    have hbr := hbx.keeps hkr
    obtain ⟨g0, g1, g2, g3, g4, g5⟩ := hbr.six
    by_cases hlt : k < g.n0
    · have hlti : (k : Int) < g.n0 := by omega
      obtain ⟨b, o, hA, y⟩ := hgr.inp.at_ hlt
      rw [hA] at g0
      clear hA
      go_wp2_with fail
      refine (width_any _ _).mono ?_
      rintro e w7 ⟨rfl, rfl⟩
      have HP := Lib.hid (p1_step g k)
      cases hp : tf (P1 g k)
      · rw [hp, Bool.false_and] at HP
        go_wp2_with fail
        go_roundw
        case rel => exact ⟨k + 1, by omega, by go_num, congrArg Value.bool (HP.out.symm), HOH.out⟩
        case measure => simp [intOf]; omega
      · rw [hp, Bool.true_and] at HP
        go_wp2_with fail
        go_roundw
        case rel => exact ⟨k + 1, by omega, by go_num, congrArg Value.bool (HP.out.symm), HOH.out⟩
        case measure => simp [intOf]; omega
    · obtain rfl : k = g.n0 := by omega
      go_wp2_with fail
      go_loopw [3, 6] (fun s ix wr => ∃ k : Nat, k ≤ g.nr ∧ ix = .int .i64 k ∧ s = .bool (tf (P2 g k)) ∧ Below w1.heap.size w1 wr) (fun _ ix _ => g.nr - (intOf ix).toNat)
      case atStart => exact ⟨0, by omega, rfl, congrArg Value.bool (p2_zero g).symm, HO⟩
      case round =>
        clear HO HOH hkr HBR hgr hbr g0 g1 g2 g3 g4 g5
        obtain ⟨k, hkk, rfl, rfl, HO⟩ := hrel
        have HOH := Lib.hid HO
        have hkr := Keeps.of_below HO
        have HBR := Lib.hid (Below.then_call HB1.out HO HB1.out.size)
        have hgr := hg1.keeps hkr
        have hbr := hbx.keeps hkr
        obtain ⟨g0, g1, g2, g3, g4, g5⟩ := hbr.six
        by_cases hlt : k < g.nr
        · have hlti : (k : Int) < g.nr := by omega
          obtain ⟨b, o, hA, y0, y1, y2⟩ := hgr.regs.at3 hlt
          simp only [qu] at y0 y1 y2
          rw [hA] at g2
          clear hA
          go_upto_region 11 with (fail)
          have q := BoxAt.new wr [.int .i64 (g.RW k), .int .u64 (g.RI k), .int .i64 (g.RN k)] 37
          have hOq : Below w1.heap.size w1 (wr.alloc (.cells #[.int .i64 (g.RW k), .int .u64 (g.RI k), .int .i64 (g.RN k)] 37)) := HOH.out.alloc HOH.out.size _
          generalize wr.alloc (.cells #[.int .i64 (g.RW k), .int .u64 (g.RI k), .int .i64 (g.RN k)] 37) = wq at *
          clear HO HOH hkr HBR hgr hbr g0 g1 g2 g3 g4 g5
          have HOH := Lib.hid hOq
          have hkr := Keeps.of_below hOq
          have hgr := hg1.keeps hkr
          have hbr := hbx.keeps hkr
          clear hOq
          obtain ⟨g0, g1, g2, g3, g4, g5⟩ := hbr.six
          generalize wr.heap.size = bq at *
          have v0 : wq.cell? ⟨bq, 0, none⟩ = some (.int .i64 (g.RW k)) := q 0 _ rfl
          have v1 : wq.cell? ⟨bq, 1, none⟩ = some (.int .u64 (g.RI k)) := q 1 _ rfl
          clear q y0 y1 y2
          go_wp2_with fail
          refine (width_any _ _).mono ?_
          rintro e w7 ⟨rfl, rfl⟩
          have HP := Lib.hid (p2_step g k)
          cases hp : tf (P2 g k)
          · rw [hp, Bool.false_and] at HP
            go_wp2_with fail
            go_quiet (fail)
            have hbd := below_drewN HOH.out nq
            go_wp2_with fail
            go_roundw
            case rel => exact ⟨k + 1, by omega, by go_num, congrArg Value.bool (HP.out.symm), hbd⟩
            case measure => simp [intOf]; omega
          · rw [hp, Bool.true_and] at HP
            cases hx : wideB (g.RW k)
            · have HX : Hid (tf (P2 g (k + 1)) = false) := Lib.hid (by rw [HP.out]; exact tf_no (fun h => by rw [hx] at h; cases h.1))
              go_wp2_with fail
              go_quiet (fail)
              have hbd := below_drewN HOH.out nq
              go_wp2_with fail
              go_roundw
              case rel => exact ⟨k + 1, by omega, by go_num, congrArg Value.bool (HX.out.symm), hbd⟩
              case measure => simp [intOf]; omega
            · have HX : Hid (tf (P2 g (k + 1)) = decide (g.RI k ≤ maskN (g.RW k))) := Lib.hid (by rw [HP.out]; exact tf_dec ⟨fun h => h.2, fun h => ⟨hx, h⟩⟩)
              go_wp2_with fail
              go_quiet ((go_at_call 13; refine (mask_any _ _).mono ?_; rintro e wX ⟨rfl, rfl⟩; exact ⟨rfl, _, rfl⟩))
              have hbd := below_drewN HOH.out nq
              go_wp2_with fail
              go_roundw
              case rel => exact ⟨k + 1, by omega, by go_num, congrArg Value.bool (HX.out.symm), hbd⟩
              case measure => simp [intOf]; omega
        · obtain rfl : k = g.nr := by omega
          go_wp2_with fail
          go_loopw [3, 9] (fun s ix wr => ∃ k : Nat, k ≤ g.nm ∧ ix = .int .i64 k ∧ s = .bool (tf (P3 g k)) ∧ Below w1.heap.size w1 wr) (fun _ ix _ => g.nm - (intOf ix).toNat)
          case atStart => exact ⟨0, by omega, rfl, congrArg Value.bool (p3_zero g).symm, HO⟩
          case round =>
            clear HO HOH hkr HBR hgr hbr g0 g1 g2 g3 g4 g5
            obtain ⟨k, hkk, rfl, rfl, HO⟩ := hrel
            have HOH := Lib.hid HO
            have hkr := Keeps.of_below HO
            have HBR := Lib.hid (Below.then_call HB1.out HO HB1.out.size)
            have hgr := hg1.keeps hkr
            have hbr := hbx.keeps hkr
            obtain ⟨g0, g1, g2, g3, g4, g5⟩ := hbr.six
            by_cases hlt : k < g.nm
            · have hlti : (k : Int) < g.nm := by omega
              obtain ⟨b, o, hA, y0, y1⟩ := hgr.mems.at2 hlt
              simp only [two] at y0 y1
              rw [hA] at g3
              clear hA
              go_wp2_with fail
              refine (width_any _ _).mono ?_
              rintro e w7 ⟨rfl, rfl⟩
              have HP := Lib.hid (p3_step g k)
              cases hp : tf (P3 g k)
              · rw [hp, Bool.false_and] at HP
                go_wp2_with fail
                go_roundw
                case rel => exact ⟨k + 1, by omega, by go_num, congrArg Value.bool (HP.out.symm), HOH.out⟩
                case measure => simp [intOf]; omega
              · rw [hp, Bool.true_and] at HP
                cases hx : wideB (g.MW k)
                · have HX : Hid (tf (P3 g (k + 1)) = false) := Lib.hid (by rw [HP.out]; exact tf_no (fun h => by rw [hx] at h; cases h.1))
                  go_wp2_with fail
                  go_roundw
                  case rel => exact ⟨k + 1, by omega, by go_num, congrArg Value.bool (HX.out.symm), HOH.out⟩
                  case measure => simp [intOf]; omega
                · by_cases s0 : 1 ≤ g.MS k
                  · have HX : Hid (tf (P3 g (k + 1)) = decide (g.MS k ≤ 256)) := Lib.hid (by rw [HP.out]; exact tf_dec ⟨fun h => h.2.2, fun h => ⟨hx, s0, h⟩⟩)
                    go_wp2_with fail
                    go_roundw
                    case rel => exact ⟨k + 1, by omega, by go_num, congrArg Value.bool (HX.out.symm), HOH.out⟩
                    case measure => simp [intOf]; omega
                  · have HX : Hid (tf (P3 g (k + 1)) = false) := Lib.hid (by rw [HP.out]; exact tf_no (fun h => s0 h.2.1))
                    go_wp2_with fail
                    go_roundw
                    case rel => exact ⟨k + 1, by omega, by go_num, congrArg Value.bool (HX.out.symm), HOH.out⟩
                    case measure => simp [intOf]; omega
            · obtain rfl : k = g.nm := by omega
              go_upto_block 6 with (fail)
              go_cut [3] (fun s wx => s = .bool (tf (P4 g g.nn)) ∧ Below w1.heap.size w1 wx)
              case first =>
                go_wp2_with fail
                go_loopw [3, 11] (fun s ix wr => ∃ k : Nat, k ≤ g.nn ∧ ix = .int .i64 k ∧ s = .bool (tf (P4 g k)) ∧ Below w1.heap.size w1 wr) (fun _ ix _ => g.nn - (intOf ix).toNat)
                case atStart => exact ⟨0, by omega, rfl, congrArg Value.bool (p4_zero g).symm, HO⟩
                case round =>
                  clear HO HOH hkr HBR hgr hbr g0 g1 g2 g3 g4 g5
                  obtain ⟨k, hkk, rfl, rfl, HO⟩ := hrel
                  have HOH := Lib.hid HO
                  have hkr := Keeps.of_below HO
                  have HBR := Lib.hid (Below.then_call HB1.out HO HB1.out.size)
                  have hgr := hg1.keeps hkr
                  have hbr := hbx.keeps hkr
                  obtain ⟨g0, g1, g2, g3, g4, g5⟩ := hbr.six
                  cases hp : tf (P4 g k)
                  · have HNE : Hid (tf (P4 g g.nn) = false) := Lib.hid (p4_bad g hkk hp)
                    by_cases hlt : k < g.nn
                    · have hlti : (k : Int) < g.nn := by omega
                      go_wp2_with fail
                      go_meet
                      case rel => exact ⟨congrArg Value.bool HNE.out.symm, HOH.out⟩
                    · have hlti : ¬ (k : Int) < g.nn := by omega
                      go_wp2_with fail
                      go_meet
                      case rel => exact ⟨congrArg Value.bool HNE.out.symm, HOH.out⟩
                  by_cases hlt : k < g.nn
                  · have hlti : (k : Int) < g.nn := by omega
                    have HP : Hid (tf (P4 g (k + 1)) = tf (g.NodeOk k)) := Lib.hid (by rw [p4_step, hp, Bool.true_and])
                    go_wp2_with fail
                    refine (nodeValid_any g p k _ hgr hfit hlt).mono ?_
                    rintro e w7 ⟨rfl, hb7⟩
                    have hO7 := Below.then_call HOH.out hb7 HOH.out.size
                    clear hb7
                    go_wp2_with fail
                    go_roundw
                    case rel => exact ⟨k + 1, by omega, by go_num, congrArg Value.bool (HP.out.symm), hO7⟩
                    case measure => simp [intOf]; omega
                  · obtain rfl : k = g.nn := by omega
                    have HPE := Lib.hid hp
                    go_wp2_with fail
                    go_meet
                    case rel => exact ⟨congrArg Value.bool HPE.out.symm, HOH.out⟩
              case rest =>
                clear HO HOH hkr HBR hgr hbr g0 g1 g2 g3 g4 g5
                obtain ⟨rfl, HO⟩ := hcut
  
                go_upto_block 8 with (fail)
                go_cut [3] (fun s wx => s = .bool (tf (P5 g g.nr)) ∧ Below w1.heap.size w1 wx)
                case first =>
                  go_wp2_with fail
                  go_loopw [3, 12] (fun s ix wr => ∃ k : Nat, k ≤ g.nr ∧ ix = .int .i64 k ∧ s = .bool (tf (P5 g k)) ∧ Below w1.heap.size w1 wr) (fun _ ix _ => g.nr - (intOf ix).toNat)
                  case atStart => exact ⟨0, by omega, rfl, congrArg Value.bool (p5_zero g).symm, HO⟩
                  case round =>
                    clear HO
                    obtain ⟨k, hkk, rfl, rfl, HO⟩ := hrel
                    have HOH := Lib.hid HO
                    have hkr := Keeps.of_below HO
                    have HBR := Lib.hid (Below.then_call HB1.out HO HB1.out.size)
                    have hgr := hg1.keeps hkr
                    have hbr := hbx.keeps hkr
                    obtain ⟨g0, g1, g2, g3, g4, g5⟩ := hbr.six
                    cases hp : tf (P5 g k)
                    · have HNE : Hid (tf (P5 g g.nr) = false) := Lib.hid (p5_bad g hkk hp)
                      by_cases hlt : k < g.nr
                      · have hlti : (k : Int) < g.nr := by omega
                        go_wp2_with fail
                        go_meet
                        case rel => exact ⟨congrArg Value.bool HNE.out.symm, HOH.out⟩
                      · have hlti : ¬ (k : Int) < g.nr := by omega
                        go_wp2_with fail
                        go_meet
                        case rel => exact ⟨congrArg Value.bool HNE.out.symm, HOH.out⟩
                    by_cases hlt : k < g.nr
                    · have hlti : (k : Int) < g.nr := by omega
                      have hwd := p5_regs g hp k hlt
                      obtain ⟨b, o, hA, y0, y1, y2⟩ := hgr.regs.at3 hlt
                      simp only [qu] at y0 y1 y2
                      have HP : Hid (tf (P5 g (k + 1)) = wnB g (g.RN k) (g.RW k)) := Lib.hid (by rw [p5_step, hp, Bool.true_and, isB_wide hwd])
                      have HWN := Lib.hid (fun (W : World) (h : g.At W p) => wideNode_any g p (g.RN k) (g.RW k) W h.nodes)
                      generalize hA2e : p.A2 = A2 at *
                      have HA2 := Lib.hid hA2e; clear hA2e
                      subst hA
                      go_upto_region 25 with (fail)
                      refine wp_region_z (fun w' => (w'.cell? ⟨w.heap.size, 0, none⟩ = some (.slice p.A0 g.n0 p.c0) ∧ w'.cell? ⟨w.heap.size, 1, none⟩ = some (.slice p.A1 g.nn p.c1) ∧ w'.cell? ⟨w.heap.size, 2, none⟩ = some (.slice (some ⟨b, o, none⟩) g.nr p.c2) ∧ w'.cell? ⟨w.heap.size, 3, none⟩ = some (.slice p.A3 g.nm p.c3) ∧ w'.cell? ⟨w.heap.size, 4, none⟩ = some (.slice p.A4 g.nw p.c4) ∧ w'.cell? ⟨w.heap.size, 5, none⟩ = some (.slice p.A5 g.no p.c5)) ∧ w'.cell? ⟨b, o + k * 3, none⟩ = some (.int .i64 (g.RW k)) ∧ w'.cell? ⟨b, o + k * 3 + 2, none⟩ = some (.int .i64 (g.RN k))) [0, 1, 2, 3, 4, 5, 6, 7, 8, 9, 10, 11, 12] [13, 14] (by kernel_rfl) (by kernel_rfl) (by kernel_rfl) (by rfl) (fun _ _ _ _ e h => ⟨e.symm.trans h.1, h.2⟩) ⟨⟨g0, g1, g2, g3, g4, g5⟩, y0, y2⟩ ?_
                      iterate 13
                        refine Heads.step (v := ?_) rfl (by rfl) (fun W hW => ?_) ?_
                        rotate_left
                        · (obtain ⟨⟨s0, s1, s2, s3, s4, s5⟩, s6, s7⟩ := hW; go_simp; try with_reducible rfl)
                      refine AnyZ.one (i := 13) (by kernel_rfl) rfl (fun K hK => ?_)
                      go_simp
                      refine (HWN.out _ (hgr.keeps (Keeps.drew _))).mono ?_
                      rintro e w7 ⟨rfl, hb7⟩
                      have hb7' : Below wr.heap.size wr w7 := ⟨hb7.os, hb7.tape, hb7.output, hb7.size, hb7.block⟩
                      have hO7 := Below.then_call HOH.out hb7' HOH.out.size
                      refine hK _ _ (fun h => by cases h) ?_
                      clear hK
                      refine AnyZ.one (i := 14) (by kernel_rfl) rfl (fun K hK => ?_)
                      go_simp
                      refine hK _ _ (fun h => by cases h) (AnyZ.done (by kernel_rfl) ?_)
                      clear hK
                      go_wp2_with fail
                      go_roundw
                      case rel => exact ⟨k + 1, by omega, by go_num, congrArg Value.bool (HP.out.symm), hO7⟩
                      case measure => simp [intOf]; omega
                    · obtain rfl : k = g.nr := by omega
                      have HPE := Lib.hid hp
                      go_wp2_with fail
                      go_meet
                      case rel => exact ⟨congrArg Value.bool HPE.out.symm, HOH.out⟩
                case rest =>
                  clear HO
                  obtain ⟨rfl, HO⟩ := hcut
  
                  go_upto_block 10 with (fail)
                  go_cut [3] (fun s wx => s = .bool (tf (P6 g g.nw)) ∧ Below w1.heap.size w1 wx)
                  case first =>
                    go_wp2_with fail
                    go_loopw [3, 13] (fun s ix wr => ∃ k : Nat, k ≤ g.nw ∧ ix = .int .i64 k ∧ s = .bool (tf (P6 g k)) ∧ Below w1.heap.size w1 wr) (fun _ ix _ => g.nw - (intOf ix).toNat)
                    case atStart => exact ⟨0, by omega, rfl, congrArg Value.bool (p6_zero g).symm, HO⟩
                    case round =>
                      clear HO
                      obtain ⟨k, hkk, rfl, rfl, HO⟩ := hrel
                      have HOH := Lib.hid HO
                      have hkr := Keeps.of_below HO
                      have HBR := Lib.hid (Below.then_call HB1.out HO HB1.out.size)
                      have hgr := hg1.keeps hkr
                      have hbr := hbx.keeps hkr
                      obtain ⟨g0, g1, g2, g3, g4, g5⟩ := hbr.six
                      cases hp : tf (P6 g k)
                      · have HNE : Hid (tf (P6 g g.nw) = false) := Lib.hid (p6_bad g hkk hp)
                        by_cases hlt : k < g.nw
                        · have hlti : (k : Int) < g.nw := by omega
                          go_wp2_with fail
                          go_meet
                          case rel => exact ⟨congrArg Value.bool HNE.out.symm, HOH.out⟩
                        · have hlti : ¬ (k : Int) < g.nw := by omega
                          go_wp2_with fail
                          go_meet
                          case rel => exact ⟨congrArg Value.bool HNE.out.symm, HOH.out⟩
                      by_cases hlt : k < g.nw
                      · have hlti : (k : Int) < g.nw := by omega
                        have hwm := p6_mems g hp
                        obtain ⟨b, o, hA, y0, y1, y2, y3⟩ := hgr.writes.at4 hlt
                        simp only [qu] at y0 y1 y2 y3
                        rw [hA] at g4
                        clear hA
                        go_upto_region 30 with (fail)
                        have q := BoxAt.new wr [.int .i64 (g.WM k), .int .i64 (g.WN k), .int .i64 (g.WA k), .int .i64 (g.WD k)] 45
                        have hOq : Below w1.heap.size w1 (wr.alloc (.cells #[.int .i64 (g.WM k), .int .i64 (g.WN k), .int .i64 (g.WA k), .int .i64 (g.WD k)] 45)) := HOH.out.alloc HOH.out.size _
                        generalize wr.alloc (.cells #[.int .i64 (g.WM k), .int .i64 (g.WN k), .int .i64 (g.WA k), .int .i64 (g.WD k)] 45) = wq at *
                        clear HO HOH hkr HBR hgr hbr g0 g1 g2 g3 g4 g5
                        have HOH := Lib.hid hOq
                        have hkr := Keeps.of_below hOq
                        have hgr := hg1.keeps hkr
                        have hbr := hbx.keeps hkr
                        clear hOq
                        obtain ⟨g0, g1, g2, g3, g4, g5⟩ := hbr.six
                        generalize wr.heap.size = bq at *
                        have v0 : wq.cell? ⟨bq, 0, none⟩ = some (.int .i64 (g.WM k)) := q 0 _ rfl
                        have v1 : wq.cell? ⟨bq, 1, none⟩ = some (.int .i64 (g.WN k)) := q 1 _ rfl
                        have v2 : wq.cell? ⟨bq, 2, none⟩ = some (.int .i64 (g.WA k)) := q 2 _ rfl
                        have v3 : wq.cell? ⟨bq, 3, none⟩ = some (.int .i64 (g.WD k)) := q 3 _ rfl
                        clear q y0 y1 y2 y3
                        by_cases h0 : ¬ 0 ≤ g.WM k
                        · have HP : Hid (tf (P6 g (k + 1)) = false) := Lib.hid (by rw [p6_step, tf_no (p := g.WrOk k) (fun h => h0 h.lo), Bool.and_false])
                          have h0' : decide (0 ≤ g.WM k) = false := by simp; omega
                          go_wp2_with fail
                          go_quiet (fail)
                          have hbd := below_drewN HOH.out nq
                          go_wp2_with fail
                          go_roundw
                          case rel => exact ⟨k + 1, by omega, by go_num, congrArg Value.bool (HP.out.symm), hbd⟩
                          case measure => simp [intOf]; omega
                        have h0 : 0 ≤ g.WM k := by omega
                        by_cases h1 : ¬ g.WM k < g.nm
                        · have HP : Hid (tf (P6 g (k + 1)) = false) := Lib.hid (by rw [p6_step, tf_no (p := g.WrOk k) (fun h => h1 h.hi), Bool.and_false])
                          have h1' : decide (g.WM k < g.nm) = false := by simp; omega
                          go_wp2_with fail
                          go_quiet (fail)
                          have hbd := below_drewN HOH.out nq
                          go_wp2_with fail
                          go_roundw
                          case rel => exact ⟨k + 1, by omega, by go_num, congrArg Value.bool (HP.out.symm), hbd⟩
                          case measure => simp [intOf]; omega
                        have h1 : g.WM k < g.nm := by omega
                        by_cases h2 : ¬ 0 ≤ g.WA k
                        · have HP : Hid (tf (P6 g (k + 1)) = false) := Lib.hid (by rw [p6_step, tf_no (p := g.WrOk k) (fun h => by have := h.addr; rw [isB_zero] at this; simp [inB] at this; omega), Bool.and_false])
                          have h2' : decide (0 ≤ g.WA k) = false := by simp; omega
                          go_wp2_with fail
                          go_quiet (fail)
                          have hbd := below_drewN HOH.out nq
                          go_wp2_with fail
                          go_roundw
                          case rel => exact ⟨k + 1, by omega, by go_num, congrArg Value.bool (HP.out.symm), hbd⟩
                          case measure => simp [intOf]; omega
                        have h2 : 0 ≤ g.WA k := by omega
                        by_cases h3 : ¬ g.WA k < g.nn
                        · have HP : Hid (tf (P6 g (k + 1)) = false) := Lib.hid (by rw [p6_step, tf_no (p := g.WrOk k) (fun h => by have := h.addr; rw [isB_zero] at this; simp [inB] at this; omega), Bool.and_false])
                          have h3' : decide (g.WA k < g.nn) = false := by simp; omega
                          go_wp2_with fail
                          go_quiet (fail)
                          have hbd := below_drewN HOH.out nq
                          go_wp2_with fail
                          go_roundw
                          case rel => exact ⟨k + 1, by omega, by go_num, congrArg Value.bool (HP.out.symm), hbd⟩
                          case measure => simp [intOf]; omega
                        have h3 : g.WA k < g.nn := by omega
                        obtain ⟨b3, o3, hA3, z0, _⟩ := hgr.mems.at2 (k := (g.WM k).toNat) (by omega)
                        simp only [two] at z0
                        have HWN1 := Lib.hid (fun (W : World) (h : g.At W p) => wideNode_any g p (g.WN k) 1 W h.nodes)
                        have HWN3 := Lib.hid (fun (W : World) (h : g.At W p) => wideNode_any g p (g.WD k) (g.MW (g.WM k).toNat) W h.nodes)
                        generalize hA3e : p.A3 = A3 at *
                        have HA3 := Lib.hid hA3e; clear hA3e
                        subst hA3
                        go_wp2_with fail
                        have HSK : Hid (∀ W : World, Keeps wq W → (fun w' => (w'.cell? ⟨w.heap.size, 0, none⟩ = some (.slice p.A0 g.n0 p.c0) ∧ w'.cell? ⟨w.heap.size, 1, none⟩ = some (.slice p.A1 g.nn p.c1) ∧ w'.cell? ⟨w.heap.size, 2, none⟩ = some (.slice p.A2 g.nr p.c2) ∧ w'.cell? ⟨w.heap.size, 3, none⟩ = some (.slice (some ⟨b3, o3, none⟩) g.nm p.c3) ∧ w'.cell? ⟨w.heap.size, 4, none⟩ = some (.slice p.A4 g.nw p.c4) ∧ w'.cell? ⟨w.heap.size, 5, none⟩ = some (.slice p.A5 g.no p.c5)) ∧ w'.cell? ⟨bq, 0, none⟩ = some (.int .i64 (g.WM k)) ∧ w'.cell? ⟨bq, 1, none⟩ = some (.int .i64 (g.WN k)) ∧ w'.cell? ⟨bq, 3, none⟩ = some (.int .i64 (g.WD k)) ∧ w'.cell? ⟨b3, o3 + (g.WM k).toNat * 2, none⟩ = some (.int .i64 (g.MW (g.WM k).toNat))) W) := Lib.hid (fun W hW => ⟨⟨hW _ _ g0, hW _ _ g1, hW _ _ g2, hW _ _ g3, hW _ _ g4, hW _ _ g5⟩, hW _ _ v0, hW _ _ v1, hW _ _ v3, hW _ _ z0⟩)
                        refine wp_region_z (fun w' => (w'.cell? ⟨w.heap.size, 0, none⟩ = some (.slice p.A0 g.n0 p.c0) ∧ w'.cell? ⟨w.heap.size, 1, none⟩ = some (.slice p.A1 g.nn p.c1) ∧ w'.cell? ⟨w.heap.size, 2, none⟩ = some (.slice p.A2 g.nr p.c2) ∧ w'.cell? ⟨w.heap.size, 3, none⟩ = some (.slice (some ⟨b3, o3, none⟩) g.nm p.c3) ∧ w'.cell? ⟨w.heap.size, 4, none⟩ = some (.slice p.A4 g.nw p.c4) ∧ w'.cell? ⟨w.heap.size, 5, none⟩ = some (.slice p.A5 g.no p.c5)) ∧ w'.cell? ⟨bq, 0, none⟩ = some (.int .i64 (g.WM k)) ∧ w'.cell? ⟨bq, 1, none⟩ = some (.int .i64 (g.WN k)) ∧ w'.cell? ⟨bq, 3, none⟩ = some (.int .i64 (g.WD k)) ∧ w'.cell? ⟨b3, o3 + (g.WM k).toNat * 2, none⟩ = some (.int .i64 (g.MW (g.WM k).toNat))) [0, 1, 2, 3, 4] [20] (by kernel_rfl) (by kernel_rfl) (by kernel_rfl) (by rfl) (fun _ _ _ _ e h => ⟨e.symm.trans h.1, h.2⟩) (HSK.out _ (Keeps.drew _)) ?_
                        iterate 5
                          refine Heads.step (v := ?_) rfl (by first | (go_simp; done) | rfl) (fun W hW => ?_) ?_
                          rotate_left
                          · (obtain ⟨⟨s0, s1, s2, s3, s4, s5⟩, s6, s7, s8, s9⟩ := hW; go_simp; try with_reducible rfl)
                        refine AnyZ.one (i := 5) (by kernel_rfl) rfl (fun K hK => ?_)
                        go_simp
                        refine (HWN1.out _ (hgr.keeps (Keeps.drew _))).mono ?_
                        rintro e w7 ⟨rfl, hb7⟩
                        have hb7' : Below wq.heap.size wq w7 := ⟨hb7.os, hb7.tape, hb7.output, hb7.size, hb7.block⟩
                        have hO7 := Below.then_call HOH.out hb7' HOH.out.size
                        have HS7 := Lib.hid (HSK.out _ (Keeps.of_below hb7'))
                        cases i1 : wnB g (g.WN k) 1
                        · have HP : Hid (tf (P6 g (k + 1)) = false) := Lib.hid (by rw [p6_step, tf_no (p := g.WrOk k) (fun h => by have := h.when; rw [isB_one, i1] at this; cases this), Bool.and_false])
                          refine hK _ _ (fun _ => HS7.out) ?_
                          clear hK
                          refine AnyZ.one (i := 6) (by kernel_rfl) rfl (fun K hK => ?_)
                          go_simp
                          refine hK _ _ (fun _ => HS7.out) ?_
                          clear hK
                          refine AnyZ.one (i := 7) (by kernel_rfl) rfl (fun K hK => ?_)
                          go_simp
                          refine hK _ _ (fun _ => HS7.out) ?_
                          clear hK
                          refine AnyZ.mid [8, 9, 10, 11, 12, 13, 14, 15, 16, 17] [20] 3 rfl (by kernel_rfl) (by kernel_rfl) (by kernel_rfl) (fun _ _ _ _ e h => ⟨e.symm.trans h.1, h.2⟩) HS7.out ?_
                          iterate 10
                            refine Heads.skip rfl (by first | (go_simp; done) | rfl) ?_
                          refine AnyZ.one (i := 18) (by kernel_rfl) rfl (fun K hK => ?_)
                          go_simp
                          have hOf := hO7
                          refine hK _ _ (fun _ => HS7.out) ?_
                          clear hK
                          refine AnyZ.one (i := 19) (by kernel_rfl) rfl (fun K hK => ?_)
                          go_simp
                          refine hK _ _ (fun _ => HS7.out) ?_
                          clear hK
                          refine AnyZ.one (i := 20) (by kernel_rfl) rfl (fun K hK => ?_)
                          go_simp
                          refine hK _ _ (fun h => by cases h) (AnyZ.done (by kernel_rfl) ?_)
                          clear hK
                          go_wp2_with fail
                          exact ⟨⟨_, _, ⟨k + 1, by omega, by go_num, congrArg Value.bool HP.out.symm⟩, HA3.out.symm, rfl, rfl, HA3.out.symm⟩, by simp [intOf]; omega⟩
                        · have HP : Hid (tf (P6 g (k + 1)) = wnB g (g.WD k) (g.MW (g.WM k).toNat)) := Lib.hid (by
                            rw [p6_step, hp, Bool.true_and]
                            exact wrok_of (hwm _ (by omega)) h0 h1 i1 h2 h3)
                          refine hK _ _ (fun _ => HS7.out) ?_
                          clear hK
                          refine AnyZ.one (i := 6) (by kernel_rfl) rfl (fun K hK => ?_)
                          go_simp
                          refine hK _ _ (fun _ => HS7.out) ?_
                          clear hK
                          refine AnyZ.one (i := 7) (by kernel_rfl) rfl (fun K hK => ?_)
                          go_simp
                          refine hK _ _ (fun _ => HS7.out) ?_
                          clear hK
                          refine AnyZ.mid [8, 9, 10, 11, 12, 13, 14, 15, 16, 17] [20] 3 rfl (by kernel_rfl) (by kernel_rfl) (by kernel_rfl) (fun _ _ _ _ e h => ⟨e.symm.trans h.1, h.2⟩) HS7.out ?_
                          iterate 10
                            refine Heads.step (v := ?_) rfl (by first | (go_simp; done) | rfl) (fun W hW => ?_) ?_
                            rotate_left
                            · (obtain ⟨⟨s0, s1, s2, s3, s4, s5⟩, s6, s7, s8, s9⟩ := hW; go_simp; try with_reducible rfl)
                          refine AnyZ.one (i := 18) (by kernel_rfl) rfl (fun K hK => ?_)
                          go_simp
                          refine (HWN3.out _ (hgr.keeps (Keeps.of_below hb7'))).mono ?_
                          rintro e w9 ⟨rfl, hb9⟩
                          have hOf := Below.then_call hO7 hb9 hO7.size
                          refine hK _ _ (fun _ => HSK.out _ ((Keeps.of_below hb7').trans (Keeps.of_below hb9))) ?_
                          clear hK
                          refine AnyZ.one (i := 19) (by kernel_rfl) rfl (fun K hK => ?_)
                          go_simp
                          refine hK _ _ (fun _ => HSK.out _ ((Keeps.of_below hb7').trans (Keeps.of_below hb9))) ?_
                          clear hK
                          refine AnyZ.one (i := 20) (by kernel_rfl) rfl (fun K hK => ?_)
                          go_simp
                          refine hK _ _ (fun h => by cases h) (AnyZ.done (by kernel_rfl) ?_)
                          clear hK
                          go_wp2_with fail
                          exact ⟨⟨_, _, ⟨k + 1, by omega, by go_num, congrArg Value.bool HP.out.symm⟩, HA3.out.symm, rfl, rfl, HA3.out.symm⟩, by simp [intOf]; omega⟩
                      · obtain rfl : k = g.nw := by omega
                        have HPE := Lib.hid hp
                        go_wp2_with fail
                        go_meet
                        case rel => exact ⟨congrArg Value.bool HPE.out.symm, HOH.out⟩
                  case rest =>
                    clear HO
                    obtain ⟨rfl, HO⟩ := hcut
                    go_wp2_with fail
                    go_loopw [3, 15] (fun s ix wr => ∃ k : Nat, k ≤ g.no ∧ ix = .int .i64 k ∧ s = .bool (tf (P7 g k)) ∧ Below w1.heap.size w1 wr) (fun _ ix _ => g.no - (intOf ix).toNat)
                    case atStart => exact ⟨0, by omega, rfl, congrArg Value.bool (p7_zero g).symm, HO⟩
                    case round =>
                      clear HO
                      obtain ⟨k, hkk, rfl, rfl, HO⟩ := hrel
                      have HOH := Lib.hid HO
                      have hkr := Keeps.of_below HO
                      have HBR := Lib.hid (Below.then_call HB1.out HO HB1.out.size)
                      have hgr := hg1.keeps hkr
                      have hbr := hbx.keeps hkr
                      obtain ⟨g0, g1, g2, g3, g4, g5⟩ := hbr.six
                      by_cases hlt : k < g.no
                      · have hlti : (k : Int) < g.no := by omega
                        obtain ⟨b, o, hA, y⟩ := hgr.outs.at_ hlt
                        rw [hA] at g5
                        clear hA
                        cases hp : tf (P7 g k)
                        · have HP := Lib.hid (p7_step g k)
                          rw [hp, Bool.false_and] at HP
                          go_wp2_with fail
                          go_quiet (fail)
                          have hbd := below_drewN HOH.out nq
                          go_wp2_with fail
                          go_roundw
                          case rel => exact ⟨k + 1, by omega, by go_num, congrArg Value.bool (HP.out.symm), hbd⟩
                          case measure => simp [intOf]; omega
                        · have HP := Lib.hid (p7_step g k)
                          rw [hp, Bool.true_and, isB_zero] at HP
                          by_cases h0 : 0 ≤ g.O k
                          · have hv : inB g (g.O k) = decide (g.O k < g.nn) := by unfold inB; rw [decide_eq_true h0, Bool.true_and]
                            rw [hv] at HP
                            clear hv
                            go_wp2_with fail
                            go_quiet (fail)
                            have hbd := below_drewN HOH.out nq
                            go_wp2_with fail
                            go_roundw
                            case rel => exact ⟨k + 1, by omega, by go_num, congrArg Value.bool (HP.out.symm), hbd⟩
                            case measure => simp [intOf]; omega
                          · have h0' : decide (0 ≤ g.O k) = false := by simpa using h0
                            have hv : inB g (g.O k) = false := by unfold inB; rw [h0', Bool.false_and]
                            rw [hv] at HP
                            clear hv
                            go_wp2_with fail
                            go_quiet (fail)
                            have hbd := below_drewN HOH.out nq
                            go_wp2_with fail
                            go_roundw
                            case rel => exact ⟨k + 1, by omega, by go_num, congrArg Value.bool (HP.out.symm), hbd⟩
                            case measure => simp [intOf]; omega
                      · obtain rfl : k = g.no := by omega
                        have HYE : Hid (tf g.Ok = tf (P7 g g.no)) := Lib.hid (p7_ok g)
                        go_wp2_with fail
                        go_ret
                        exact ⟨congrArg (fun b => Ending.returned (Value.bool b)) HYE.out.symm, HBR.out⟩
end Go.Proofs.Ytmbcfondglhiiaa
