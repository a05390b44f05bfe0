/- The reference's netCycle, walked: what the nodes are worth, as a new slice of words. Conditions: the netlist is valid and lies in memory, so do the inputs, the registers and the memories, which hold words of their widths. -/
import Derived.Test.YtmbcfondglhiiaaOperate
import Derived.Test.YtmbcfondglhiiaaWMem
import Derived.Test.YtmbcfondglhiiaaNetNv
import Derived.Deep.DeepCutAuto
import Derived.Deep.CutBlock
namespace Go.Proofs.Ytmbcfondglhiiaa
open Go.RowKit

/-- the arguments' words and widths, that grow side by side -/
structure Two (C : Nat → Int) (D : Nat → Int) (wq wr : World) (q : Nat) (B E : Option Addr) (d e : Nat) : Prop where
  one : wr.ownsRow wq.heap.size 33 1 (.slice B q d) q ((List.range q).map fun j => .int .u64 (C j))
  two : wr.ownsRow wq.heap.size 3 1 (.slice E q e) q ((List.range q).map fun j => .int .i64 (D j))
  bel : Below wq.heap.size wq wr
theorem Row1.of_own {w : World} {base : Nat} {e : TypeId} {n c : Nat} {A : Option Addr} {f : Nat → Value} (h : w.ownsRow base e 1 (.slice A n c) n ((List.range n).map f)) : Row1 w A n f := fun hn => by
  obtain ⟨b, off, e, hc⟩ := own_row1 h hn
  refine ⟨b, off, e, fun k hk => ?_⟩
  rw [hc k hk]
  simp [hk]

theorem Nl.vals_fix {g : Nl} (hok : g.Ok) (R : Nat → Int) (M : Nat → Nat → Int) (ni : Nat) (I : Nat → Int) {k : Nat} (hk : k < g.nn) : g.vals R M ni I g.nn k = g.node R M ni I k (g.vals R M ni I g.nn) := by
  rw [g.vals_step R M ni I hk]
  refine g.node_congr R M ni I k (fun j hj => ?_)
  obtain ⟨h0, h1⟩ := (hok.nodes k hk).args j hj
  rw [g.vals_lt R M ni I (j := (g.a k j).toNat) (m := k) (by omega), g.vals_lt R M ni I (j := (g.a k j).toNat) (m := g.nn) (by omega)]

set_option maxHeartbeats 20000000 in
set_option maxRecDepth 100000 in
theorem cycle_any (g : Nl) (p : Pl) (Ia : Option Addr) (ni ci : Nat) (I : Nat → Int) (RA : Option Addr) (rc : Nat) (R : Nat → Int) (MA : Option Addr) (mc : Nat) (MB : Nat → Nat) (M : Nat → Nat → Int) (w : World) (hg : g.At w p) (hfit : g.Fits) (hok : g.Ok)
    (hI : Words w Ia ni I) (hIb : ∀ j, j < ni → 0 ≤ I j ∧ I j ≤ 18446744073709551615) (hni : ni ≤ 1000000000000000) (hR : Words w RA g.nr R) (hM : MemsAt g w MA mc MB M) (hinv : g.Inv R M) :
    Calls Try.prog 23 #[.agg #[.slice p.A0 g.n0 p.c0, .slice p.A1 g.nn p.c1, .slice p.A2 g.nr p.c2, .slice p.A3 g.nm p.c3, .slice p.A4 g.nw p.c4, .slice p.A5 g.no p.c5], .slice Ia ni ci, .slice RA g.nr rc, .slice MA g.nm mc] w fun e w' => ∃ A c, e = .returned (.slice A g.nn c) ∧ OwnW w' w.heap.size A g.nn (g.vals R M ni I g.nn) ∧ Below w.heap.size w w' := by
  have hb1 := hfit.b1; have hb2 := hfit.b2; have hb3 := hfit.b3
  have HCS : Hid (∀ k, k < g.nn → g.vals R M ni I g.nn k = g.node R M ni I k (g.vals R M ni I g.nn)) := Lib.hid (fun k hk => Nl.vals_fix hok R M ni I hk)
  have HCF : Hid (∀ j, j < g.nn → FitsW (g.W j) (g.vals R M ni I g.nn j)) := Lib.hid (g.vals_fits hok hfit hinv ni I g.nn (Nat.le_refl _))
  generalize g.vals R M ni I g.nn = C at *
  have HIB := Lib.hid hIb; clear hIb
  go_enter Try.func23, Try.ntmps23
  go_upto_region 1 with (fail)
  have hbel : Below w.heap.size w (w.alloc (.cells #[.slice p.A0 g.n0 p.c0, .slice p.A1 g.nn p.c1, .slice p.A2 g.nr p.c2, .slice p.A3 g.nm p.c3, .slice p.A4 g.nw p.c4, .slice p.A5 g.no p.c5] 28)) := (Below.refl _ _).alloc (Nat.le_refl _) _
  have hbx := BoxAt.new w [.slice p.A0 g.n0 p.c0, .slice p.A1 g.nn p.c1, .slice p.A2 g.nr p.c2, .slice p.A3 g.nm p.c3, .slice p.A4 g.nw p.c4, .slice p.A5 g.no p.c5] 28
  have hs1 : (w.alloc (.cells #[.slice p.A0 g.n0 p.c0, .slice p.A1 g.nn p.c1, .slice p.A2 g.nr p.c2, .slice p.A3 g.nm p.c3, .slice p.A4 g.nw p.c4, .slice p.A5 g.no p.c5] 28)).heap.size = w.heap.size + 1 := by simp
  generalize w.alloc (.cells #[.slice p.A0 g.n0 p.c0, .slice p.A1 g.nn p.c1, .slice p.A2 g.nr p.c2, .slice p.A3 g.nm p.c3, .slice p.A4 g.nw p.c4, .slice p.A5 g.no p.c5] 28) = w1 at *
  have HB1 := Lib.hid hbel
  have hg1 := hg.keeps (Keeps.of_below hbel)
  have hI1 : Words w1 Ia ni I := Row1.keeps hI (Keeps.of_below hbel)
  have hR1 : Words w1 RA g.nr R := Row1.keeps hR (Keeps.of_below hbel)
  have hM1 := hM.keeps (Keeps.of_below hbel)
  have hle1 : w.heap.size ≤ w1.heap.size := by omega
  clear hbel hs1
  go_wp2_with fail
  go_loopw [9, 10] (fun v ix wr => ∃ (k : Nat) (A : Option Addr) (c : Nat), k ≤ g.nn ∧ ix = .int .i64 k ∧ v = .slice A k c ∧ GrowW w1 A k c C wr) (fun _ ix _ => g.nn - (intOf ix).toNat)
  case atStart => exact ⟨0, none, 0, by omega, rfl, rfl, GrowW.start _ _⟩
  case round =>
    obtain ⟨k, A, c, hk, rfl, rfl, H⟩ := hrel
    have hkp := Lib.hid (Grow.keeps H)
    have hsz := Grow.size H
    have hgr := hg1.keeps hkp.out
    obtain ⟨g0, g1, g2, g3, g4, g5⟩ := (hbx.keeps hkp.out).six
    by_cases hlt : k < g.nn
    · have hki : (k : Int) < g.nn := by omega
      obtain ⟨b, o, hA, y0, y1, y2, y3⟩ := hgr.nodes.1.at4 hlt
      simp only [qu] at y0 y1 y2 y3
      rw [hA] at g1
      have HA := Lib.hid hA; clear hA
      go_upto_region 6 with (fail)
      have qbox := BoxAt.new wr [.int .i64 (g.K k), .int .i64 (g.W k), .int .u64 (g.U k), .slice (p.TA k) (g.al k) (p.TC k)] 42
      have HQ : GrowW w1 A k c C (wr.alloc (.cells #[.int .i64 (g.K k), .int .i64 (g.W k), .int .u64 (g.U k), .slice (p.TA k) (g.al k) (p.TC k)] 42)) := Grow.alloc H _
      generalize wr.alloc (.cells #[.int .i64 (g.K k), .int .i64 (g.W k), .int .u64 (g.U k), .slice (p.TA k) (g.al k) (p.TC k)] 42) = wq at *
      clear hkp hsz hgr g0 g1 g2 g3 g4 g5 y0 y1 y2 y3 H
      have hkq := Lib.hid (Grow.keeps HQ)
      have hsq := Grow.size HQ
      have hgr := hg1.keeps hkq.out
      have hbq := hbx.keeps hkq.out
      obtain ⟨g0, g1, g2, g3, g4, g5⟩ := hbq.six
      rw [HA.out] at g1
      generalize wr.heap.size = bq at *
      obtain ⟨v0, v1, v2, v3⟩ := qbox.four
      have hVw := HQ.words
      have hu := hfit.u k hlt
      have hal := hfit.al k hlt
      have hnk := hok.nodes k hlt
      have hwB := hnk.wide
      have hCK := Lib.hid (HCS.out k hlt)
      have hTr := hgr.nodes.2 k hlt
      obtain ⟨u, hue⟩ : ∃ u : Nat, g.U k = u := ⟨(g.U k).toNat, by omega⟩
      have HUE := Lib.hid hue
      rw [hue] at v2 hu
      clear hue
      generalize hTe : p.TA k = TAk at *
      clear hTe
      go_upto_block 2 with (fail)
      go_cut [12] (fun s wx => s = .int .u64 (C k) ∧ Below wq.heap.size wq wx)
      case first =>
        by_cases h30 : g.K k = 30
        · have e30 : (g.K k == 30) = true := by simpa using h30
          have hun := hok.in_ hlt h30
          by_cases hin : u < ni
          · obtain ⟨bi, oi, rfl, z0⟩ := Row1.at_ (Row1.keeps hI1 hkq.out) hin
            have hd : decide ((u : Int) < IntKind.u64.wrap (ni : Int)) = true := by rw [wraps_u64 _ (by omega) (by omega)]; simpa using hin
            have hIu := HIB.out u hin
            have HV : Hid (bits .and .u64 (I u) (maskN (g.W k)) = C k) := Lib.hid (by
              rw [hCK.out, maskN_eq hwB]
              unfold wideB at hwB
              simp only [Bool.and_eq_true, decide_eq_true_eq] at hwB
              unfold Nl.node
              rw [if_pos h30, HUE.out, if_pos (by omega), Int.toNat_natCast]
              exact and_top hIu.1 hIu.2 (by omega))
            clear h30
            go_wp2_with fail
            go_quiet ((go_at_call 13; refine (mask_any _ _).mono ?_; rintro e wX ⟨rfl, rfl⟩; exact ⟨rfl, _, rfl⟩))
            go_wp2_with fail
            go_meet
            case rel => exact ⟨congrArg (fun x => Value.int .u64 x) HV.out, drawnN_bel _ _⟩
          · have hd : decide ((u : Int) < IntKind.u64.wrap (ni : Int)) = false := by rw [wraps_u64 _ (by omega) (by omega)]; simpa using hin
            have HV : Hid (0 = C k) := Lib.hid (by
              rw [hCK.out]
              unfold Nl.node
              rw [if_pos h30, HUE.out, if_neg (by omega)])
            clear h30
            go_wp2_with fail
            go_meet
            case rel => exact ⟨congrArg (fun x => Value.int .u64 x) HV.out, Below.refl _ _⟩
        have e30 : (g.K k == 30) = false := by simpa using h30
        by_cases h31 : g.K k = 31
        · have e31 : (g.K k == 31) = true := by simpa using h31
          obtain ⟨hun, _⟩ := hok.reg hlt h31
          rw [HUE.out] at hun
          have hun' : u < g.nr := by omega
          obtain ⟨bi, oi, rfl, z0⟩ := Row1.at_ (Row1.keeps hR1 hkq.out) hun'
          have HV : Hid (R u = C k) := Lib.hid (by
            rw [hCK.out]
            unfold Nl.node
            rw [if_neg h30, if_pos h31, HUE.out, Int.toNat_natCast])
          clear h30 h31
          go_wp2_with fail
          go_meet
          case rel => exact ⟨congrArg (fun x => Value.int .u64 x) HV.out, Below.refl _ _⟩
        have e31 : (g.K k == 31) = false := by simpa using h31
        by_cases h32 : g.K k = 32
        · have e32 : (g.K k == 32) = true := by simpa using h32
          obtain ⟨⟨hun, _⟩, hal1⟩ := hok.read hlt h32
          rw [HUE.out] at hun
          have hun' : u < g.nm := by omega
          obtain ⟨bi, oi, rfl, z0⟩ := Row1.at_ (hM1.keeps hkq.out).row hun'
          obtain ⟨ha0, ha1⟩ := hnk.args 0 (by omega)
          obtain ⟨bt, ot, hTe, t0⟩ := hTr.at_ (k := 0) (by omega)
          subst hTe
          simp only [Nat.add_zero] at t0
          have h01 : (0 : Int) < g.al k := by omega
          have HAL := Lib.hid hal1; clear hal1
          obtain ⟨m, hm⟩ : ∃ m : Nat, g.a k 0 = m := ⟨(g.a k 0).toNat, by omega⟩
          rw [hm] at t0 ha0 ha1
          have hmk : m < k := by omega
          obtain ⟨bv, ov, hAe, x0⟩ := Row1.at_ hVw hmk
          subst hAe
          have hmm := hok.mems u hun'
          obtain ⟨S, hS⟩ : ∃ S : Nat, g.MS u = S := ⟨(g.MS u).toNat, by omega⟩
          have hms := hmm.2; rw [hS] at hms
          have hSt : (g.MS u).toNat = S := by omega
          rw [hSt] at z0
          have hcf := HCF.out m (by omega)
          obtain ⟨x, hx⟩ : ∃ x : Nat, C m = x := ⟨(C m).toNat, by have := hcf.1; omega⟩
          rw [hx] at x0
          have HARG : Hid (g.arg k C 0 = x) := Lib.hid (by unfold Nl.arg; rw [if_pos (by have := HAL.out; omega), hm, Int.toNat_natCast, hx])
          have hxlt : (x : Int) < 4294967296 := by have := hcf.2; have h2 := (hok.nodes m (by omega)).wide; simp only [wideB, Bool.and_eq_true, decide_eq_true_eq] at h2; have := pow_le32 (n := (g.W m).toNat) (by omega); omega
          by_cases hxs : x < S
          · have hrow := (hM1.keeps hkq.out).mem u hun'
            rw [hSt] at hrow
            obtain ⟨bm, om, hBe, s0⟩ := Row1.at_ hrow hxs
            injection hBe with hBe; injection hBe with hb1 hb2 _; subst hb1; subst hb2
            rw [Nat.zero_add] at s0
            have hxi : (x : Int) < S := by omega
            have hd : decide ((x : Int) < IntKind.u64.wrap (S : Int)) = true := by rw [wraps_u64 _ (by omega) (by omega)]; simpa using hxs
            have HV : Hid (M u x = C k) := Lib.hid (by
              rw [hCK.out]
              unfold Nl.node
              rw [if_neg h30, if_neg h31, if_pos h32, HUE.out, HARG.out, Int.toNat_natCast, Int.toNat_natCast, hS, if_pos (by omega)])
            clear h30 h31 h32 hm hx hS hSt
            go_wp2_with fail
            go_quiet (fail)
            go_wp2_with fail
            go_quiet (fail)
            go_wp2_with fail
            go_meet
            case rel => exact ⟨congrArg (fun x => Value.int .u64 x) HV.out, below_drewN (drawnN_bel _ _) _⟩
          · have hd : decide ((x : Int) < IntKind.u64.wrap (S : Int)) = false := by rw [wraps_u64 _ (by omega) (by omega)]; simpa using hxs
            have HV : Hid (0 = C k) := Lib.hid (by
              rw [hCK.out]
              unfold Nl.node
              rw [if_neg h30, if_neg h31, if_pos h32, HUE.out, HARG.out, Int.toNat_natCast, hS, if_neg (by omega)])
            clear h30 h31 h32 hm hx hS hSt
            go_wp2_with fail
            go_quiet (fail)
            go_wp2_with fail
            go_meet
            case rel => exact ⟨congrArg (fun x => Value.int .u64 x) HV.out, drawnN_bel _ _⟩
        have e32 : (g.K k == 32) = false := by simpa using h32
        have HOP := Lib.hid (hok.opfit hfit hlt (V := C) (fun j hj => HCF.out j (by omega)) h30 h31 h32)
        have HV : Hid (opV (g.K k) (g.W k) (g.U k) (g.arg k C) (g.aw k) (g.al k) = C k) := Lib.hid (by
          rw [hCK.out]
          unfold Nl.node
          rw [if_neg h30, if_neg h31, if_neg h32])
        have HAR := Lib.hid hnk.args
        clear h30 h31 h32 hnk
        go_wp2_with fail
        go_loopw [13, 14, 15] (fun a s j wr => ∃ (q : Nat) (B E : Option Addr) (d e : Nat), q ≤ g.al k ∧ j = .int .i64 q ∧ a = .slice B q d ∧ s = .slice E q e ∧ Two (g.arg k C) (g.aw k) wq wr q B E d e) (fun _ _ j _ => g.al k - (intOf j).toNat)
        case atStart => exact ⟨0, none, none, 0, 0, by omega, rfl, rfl, rfl, ⟨World.ownsRow_nil _ _ _ _, World.ownsRow_nil _ _ _ _, Below.refl _ _⟩⟩
        case round =>
          obtain ⟨q, B, E, d, e, hq, rfl, rfl, rfl, T⟩ := hrel
          have hkt := Lib.hid (Keeps.of_below T.bel)
          have hst := T.bel.size
          obtain ⟨r0, r1, r2, r3, r4, r5⟩ := (hbq.keeps hkt.out).six
          rw [HA.out] at r1
          have hv0 := hkt.out _ _ v0; have hv1 := hkt.out _ _ v1; have hv2 := hkt.out _ _ v2; have hv3 := hkt.out _ _ v3
          by_cases hlq : q < g.al k
          · have hqi : (q : Int) < g.al k := by omega
            obtain ⟨ha0, ha1⟩ := HAR.out q hlq
            obtain ⟨bt, ot, hTe, t0⟩ := (hTr.keeps hkt.out).at_ hlq
            subst hTe
            obtain ⟨m, hm⟩ : ∃ m : Nat, (m : Int) = g.a k q := ⟨(g.a k q).toNat, by omega⟩
            rw [← hm] at t0 ha0 ha1
            have hmk : m < k := by omega
            have hmn : (m : Int) < g.nn := by omega
            have HWm : Hid (g.aw k q = g.W m) := Lib.hid (by unfold Nl.aw; rw [← hm, Int.toNat_natCast])
            have HCm : Hid (g.arg k C q = C m) := Lib.hid (by unfold Nl.arg; rw [if_pos hlq, ← hm, Int.toNat_natCast])
            have HM := Lib.hid hm; clear hm
            obtain ⟨bv, ov, hAe, x0⟩ := Row1.at_ (Row1.keeps hVw hkt.out) hmk
            obtain ⟨b2, o2, hA2, _, w1', _⟩ := (hgr.keeps hkt.out).nodes.1.at4 (k := m) (by omega)
            rw [HA.out] at hA2
            obtain ⟨rfl, rfl⟩ : b = b2 ∧ o = o2 := by simpa using hA2
            simp only [qu] at w1'
            clear hA2
            subst hAe
            go_upto_region 14 with (at_builtin; refine wp_append rfl (.tmp 37) (.tmp 46) _ rfl elU64 wq.heap.size B q d _ rfl (T.one.alloc _) _ 1 1 [.int .u64 (C m)] rfl (src_new _ _ _ rfl) (by omega) (sz_alloc hst) ?_; intro B' d' w8 ho hk' hb')
            have hal8 := (Below.refl wr.heap.size wr).alloc (Nat.le_refl _) (.cells #[.int .u64 (C m)] 33)
            have hap := own_apart (T.two.alloc (.cells #[.int .u64 (C m)] 33)) (T.one.alloc (.cells #[.int .u64 (C m)] 33)) (by decide)
            have htwo := own_only (T.two.alloc (.cells #[.int .u64 (C m)] 33)) hk' hap
            have hbel8 : Below wq.heap.size wq w8 := (T.bel.trans (hal8.mono hst)).trans (hk'.below (fun j _ c => own_base T.one j c) (by simp; omega))
            have hone : w8.ownsRow wq.heap.size 33 1 (.slice B' (q + 1) d') (q + 1) ((List.range (q + 1)).map fun j => .int .u64 (g.arg k C j)) := by
              rw [List.range_succ, List.map_append]
              simpa [HCm.out] using ho
            have hk8 := Keeps.of_below hbel8
            have hs8 := hbel8.size
            clear hal8 hap ho hk' hb' hkt r0 r1 r2 r3 r4 r5 hv0 hv1 hv2 hv3 t0 x0 w1' T hst
            obtain ⟨r0, r1, r2, r3, r4, r5⟩ := (hbq.keeps hk8).six
            rw [HA.out] at r1
            have hv3 := hk8 _ _ v3
            obtain ⟨bt2, ot2, hTe, t0⟩ := (hTr.keeps hk8).at_ hlq
            obtain ⟨rfl, rfl⟩ : bt = bt2 ∧ ot = ot2 := by simpa using hTe
            rw [← HM.out] at t0
            obtain ⟨b2, o2, hA2, _, w1', _⟩ := (hgr.keeps hk8).nodes.1.at4 (k := m) (by omega)
            rw [HA.out] at hA2
            obtain ⟨rfl, rfl⟩ : b = b2 ∧ o = o2 := by simpa using hA2
            simp only [qu] at w1'
            clear hA2 hTe
            refine wp_region_z (fun w' => w'.cell? ⟨w.heap.size, 1, none⟩ = some (.slice (some ⟨b, o, none⟩) g.nn p.c1) ∧ w'.cell? ⟨bq, 3, none⟩ = some (.slice (some ⟨bt, ot, none⟩) (g.al k) (p.TC k)) ∧ w'.cell? ⟨bt, ot + q, none⟩ = some (.int .i64 m) ∧ w'.cell? ⟨b, o + m * 4 + 1, none⟩ = some (.int .i64 (g.W m))) [0, 1, 2, 3, 4, 5, 6, 7, 8, 9, 10] [12, 13] (by kernel_rfl) (by kernel_rfl) (by kernel_rfl) (by rfl) (fun _ _ _ _ e h => ⟨e.symm.trans h.1, h.2⟩) ⟨r1, hv3, t0, w1'⟩ ?_
            iterate 11
              refine Heads.step (v := ?_) rfl (by rfl) (fun W hW => ?_) ?_
              rotate_left
              · (obtain ⟨s0, s1, s2, s3⟩ := hW; go_simp; try with_reducible rfl)
            refine AnyZ.one (i := 11) (by kernel_rfl) rfl (fun K hK => ?_)
            go_simp
            refine hK _ _ (fun _ => ⟨Keeps.alloc _ _ _ _ r1, Keeps.alloc _ _ _ _ hv3, Keeps.alloc _ _ _ _ t0, Keeps.alloc _ _ _ _ w1'⟩) ?_
            clear hK
            refine AnyZ.one (i := 12) (by kernel_rfl) rfl (fun K hK => ?_)
            refine step_append (by rfl) (.tmp 48) (.tmp 59) _ (by rfl) elInt wq.heap.size E q e _ (by rfl) ((World.ownsRow.alloc htwo _).drew) _ 1 1 [.int .i64 (g.W m)] (by rfl) (Src.drew (src_new w8 _ _ rfl)) (by omega) (by simp; omega) ?_
            intro E' e' w9 ho hk' hb'
            have hOx : Only (blockOf E) (w8.alloc (.cells #[.int .i64 (g.W m)] 3)) w9 := ⟨hk'.os, hk'.tape, hk'.output, hk'.size, hk'.block⟩
            have htwo2 : w9.ownsRow wq.heap.size 3 1 (.slice E' (q + 1) e') (q + 1) ((List.range (q + 1)).map fun j => .int .i64 (g.aw k j)) := by
              rw [List.range_succ, List.map_append]
              simpa [HWm.out] using ho
            have hone2 := own_only (hone.alloc (.cells #[.int .i64 (g.W m)] 3)) hOx (own_apart (hone.alloc (.cells #[.int .i64 (g.W m)] 3)) (htwo.alloc (.cells #[.int .i64 (g.W m)] 3)) (by decide))
            have hbel9 : Below wq.heap.size wq w9 := (hbel8.trans (((Below.refl w8.heap.size w8).alloc (Nat.le_refl _) _).mono hs8)).trans (hOx.below (fun j _ c => own_base htwo j c) (by simp; omega))
            refine hK _ _ (fun h => by cases h) ?_
            clear hK ho hk' hb' hOx
            refine AnyZ.one (i := 13) (by kernel_rfl) rfl (fun K hK => ?_)
            go_simp
            refine hK _ _ (fun h => by cases h) (AnyZ.done (by kernel_rfl) ?_)
            clear hK
            go_wp2_with fail
            go_roundw
            case rel => exact ⟨q + 1, B', E', d', e', by omega, by go_num, rfl, rfl, ⟨hone2, htwo2, hbel9⟩⟩
            case measure => simp [intOf]; omega
          · obtain rfl : q = g.al k := by omega
            have hrow1 := Row1.of_own T.one
            have hrow2 := Row1.of_own T.two
            have hbT := T.bel
            have hu1 := hfit.u k hlt
            rw [← HUE.out] at hv2
            go_wp2_with fail
            refine (operate_any (g.K k) (g.W k) (g.U k) B E d e (g.al k) (g.arg k C) (g.aw k) _ hrow1 hrow2 HOP.out hu1.2).mono ?_
            rintro e5 w5 ⟨rfl, hb5⟩
            have hb5' := hbT.trans (hb5.mono hst)
            go_wp2_with fail
            go_meet
            case rel => exact ⟨congrArg (fun x => Value.int .u64 x) HV.out, hb5'⟩
      case rest =>
        obtain ⟨rfl, hbc⟩ := hcut
        have HG : GrowW w1 A k c C wc := Grow.call HQ hbc
        have hsc := Grow.size HG
        go_wp2_with (at_builtin; refine wp_append rfl (.tmp 125) (.tmp 127) _ rfl elU64 w1.heap.size A k c _ rfl (Grow.alloc HG _).own _ 1 1 [.int .u64 (C k)] rfl (src_new _ _ _ rfl) (by omega) (sz_alloc hsc) ?_; intro A' c' w6 ho hk' hb')
        go_roundw
        case rel => exact ⟨k + 1, A', c', by omega, by go_num, rfl, GrowW.push (Grow.alloc HG _) ho hk' (fun _ _ => rfl) rfl⟩
        case measure => simp [intOf]; omega
    · obtain rfl : k = g.nn := by omega
      go_wp2_with fail
      go_ret
      exact ⟨A, c, rfl, (OwnW.of_own H.own).mono hle1, Below.then_call HB1.out H.bel hle1⟩
end Go.Proofs.Ytmbcfondglhiiaa
