/- The reference's NetRun, walked: the outputs, cycle by cycle, as a new slice of new rows of words. Conditions: the netlist is valid and lies in memory, so does the trace. -/
import Derived.Test.YtmbcfondglhiiaaNetCyc
import Derived.Test.YtmbcfondglhiiaaAppW
import Derived.Deep.RegionHeld3
import Derived.StillTailTactics
namespace Go.Proofs.Ytmbcfondglhiiaa
open Go.RowKit

/-- a new matrix of words -/
def RetMatW (w : World) (n len : Nat) (R : Nat → Nat → Int) (e : Ending) (w' : World) : Prop :=
  ∃ A c RA RC, e = .returned (.slice A n c) ∧ OwnMatW w' w.heap.size A n c len R RA RC ∧ Below w.heap.size w w'

theorem Nl.st_regs (g : Nl) (TL : Nat → Nat) (T : Nat → Nat → Int) (c i : Nat) : (g.st TL T (c + 1)).1 i = g.cyc TL T c (g.RN i).toNat := rfl
theorem Nl.st_mems (g : Nl) (TL : Nat → Nat) (T : Nat → Nat → Int) (c : Nat) : (g.st TL T (c + 1)).2 = g.writes (g.cyc TL T c) (g.st TL T c).2 g.nw := rfl

theorem OwnW.typ {S : Nat → Prop} {w w1 : World} {base n : Nat} {A : Option Addr} {V : Nat → Int} (h : OwnW w base A n V) (k : Only S w w1) (hs : ∀ b cur, w.heap[b]? = some (.cells cur 33 (0, 0)) → ¬ S b) : OwnW w1 base A n V := fun hn => by
  obtain ⟨b, m, U, e, hb, hm, ⟨cur, hh, hc⟩, hU⟩ := h hn
  exact ⟨b, m, U, e, hb, hm, Arr.only ⟨cur, hh, hc⟩ k (hs b cur hh), hU⟩
theorem OwnW.off {S : Nat → Prop} {w w1 : World} {base n : Nat} {A : Option Addr} {V : Nat → Int} (h : OwnW w base A n V) (k : Only S w w1) (hs : ∀ b, base ≤ b → ¬ S b) : OwnW w1 base A n V := fun hn => by
  obtain ⟨b, m, U, e, hb, hm, hA, hU⟩ := h hn
  exact ⟨b, m, U, e, hb, hm, hA.only k (hs b hb), hU⟩

/-- where a run stands at the head of a cycle: registers in blocks below b2, memories below b3, the rows shown from there on -/
structure NRun (g : Nl) (TL : Nat → Nat) (T : Nat → Nat → Int) (b1 b2 b3 : Nat) (w1 wr : World) (As Am : Option Addr) (cm : Nat) (MB : Nat → Nat) (k : Nat) (A : Option Addr) (c : Nat) (RA : Nat → Option Addr) (RC : Nat → Nat) : Prop where
  bel : Below b1 w1 wr
  size : b3 ≤ wr.heap.size
  regs : OwnW wr b1 As g.nr (g.st TL T k).1
  mems : OwnMems g wr b2 Am g.nm cm MB (g.st TL T k).2
  mat : OwnMatW wr b3 A k c g.no (g.shown TL T) RA RC

set_option maxHeartbeats 20000000 in
set_option maxRecDepth 100000 in
theorem netRun_any (g : Nl) (p : Pl) (At : Option Addr) (nt ct : Nat) (TL : Nat → Nat) (T : Nat → Nat → Int) (w : World) (hg : g.At w p) (hfit : g.Fits) (hok : g.Ok)
    (ht : MatW w At nt TL T) (hnt : nt * 24 ≤ 140737488351232) (htl : ∀ i, i < nt → TL i ≤ 1000000000000000) (hTb : ∀ i, i < nt → ∀ j, j < TL i → 0 ≤ T i j ∧ T i j ≤ 18446744073709551615) :
    Calls Try.prog 18 #[.agg #[.slice p.A0 g.n0 p.c0, .slice p.A1 g.nn p.c1, .slice p.A2 g.nr p.c2, .slice p.A3 g.nm p.c3, .slice p.A4 g.nw p.c4, .slice p.A5 g.no p.c5], .slice At nt ct] w (RetMatW w nt g.no (g.shown TL T)) := by
  have hb1 := hfit.b1; have hb2 := hfit.b2; have hb3 := hfit.b3; have hb4 := hfit.b4; have hb5 := hfit.b5
  have HTL := Lib.hid htl; clear htl
  have HTB := Lib.hid hTb; clear hTb
  go_enter Try.func18, Try.ntmps18
  go_upto_region 1 with (fail)
  have hbel : Below w.heap.size w (w.alloc (.cells #[.slice p.A0 g.n0 p.c0, .slice p.A1 g.nn p.c1, .slice p.A2 g.nr p.c2, .slice p.A3 g.nm p.c3, .slice p.A4 g.nw p.c4, .slice p.A5 g.no p.c5] 28)) := (Below.refl _ _).alloc (Nat.le_refl _) _
  have hbx := BoxAt.new w [.slice p.A0 g.n0 p.c0, .slice p.A1 g.nn p.c1, .slice p.A2 g.nr p.c2, .slice p.A3 g.nm p.c3, .slice p.A4 g.nw p.c4, .slice p.A5 g.no p.c5] 28
  have hs1 : (w.alloc (.cells #[.slice p.A0 g.n0 p.c0, .slice p.A1 g.nn p.c1, .slice p.A2 g.nr p.c2, .slice p.A3 g.nm p.c3, .slice p.A4 g.nw p.c4, .slice p.A5 g.no p.c5] 28)).heap.size = w.heap.size + 1 := by simp
  generalize w.alloc (.cells #[.slice p.A0 g.n0 p.c0, .slice p.A1 g.nn p.c1, .slice p.A2 g.nr p.c2, .slice p.A3 g.nm p.c3, .slice p.A4 g.nw p.c4, .slice p.A5 g.no p.c5] 28) = w1 at *
  have HB1 := Lib.hid hbel
  have hg1 := hg.keeps (Keeps.of_below hbel)
  have ht1 := ht.keeps (Keeps.of_below hbel)
  have hle1 : w.heap.size ≤ w1.heap.size := by omega
  clear hbel hs1
  go_wp2_with fail
  go_loopw [5, 7] (fun v ix wr => ∃ (k : Nat) (A : Option Addr) (c : Nat), k ≤ g.nr ∧ ix = .int .i64 k ∧ v = .slice A k c ∧ GrowW w1 A k c g.RI wr) (fun _ ix _ => g.nr - (intOf ix).toNat)
  case atStart => exact ⟨0, none, 0, by omega, rfl, rfl, GrowW.start _ _⟩
  case round =>
    obtain ⟨k, A, c, hk, rfl, rfl, H⟩ := hrel
    have hkp := Lib.hid (Grow.keeps H)
    have hsz := Grow.size H
    obtain ⟨g0, g1, g2, g3, g4, g5⟩ := (hbx.keeps hkp.out).six
    by_cases hlt : k < g.nr
    · have hki : (k : Int) < g.nr := by omega
      obtain ⟨b, o, hA, y0, y1, y2⟩ := (hg1.keeps hkp.out).regs.at3 hlt
      simp only [qu] at y0 y1 y2
      rw [hA] at g2
      clear hA
      go_wp2_with (at_builtin; refine wp_append rfl (.tmp 24) (.tmp 31) _ rfl elU64 w1.heap.size A k c _ rfl (Grow.alloc H _).own _ 1 1 [.int .u64 (g.RI k)] rfl (src_new _ _ _ rfl) (by omega) (sz_alloc hsz) ?_; intro A' c' w6 ho hk' hb')
      go_roundw
      case rel => exact ⟨k + 1, A', c', by omega, by go_num, rfl, GrowW.push (Grow.alloc H _) ho hk' (fun _ _ => rfl) rfl⟩
      case measure => simp [intOf]; omega
    · obtain rfl : k = g.nr := by omega
      have hrg : OwnW wr w1.heap.size A g.nr g.RI := OwnW.of_own H.own
      have hrlt := Lib.hid (own_lt H.own)
      have hrge := Lib.hid (own_base H.own)
      obtain ⟨w2, rfl⟩ : ∃ w2 : World, w2 = wr := ⟨_, rfl⟩
      have HB2 := Lib.hid H.bel
      go_wp2_with fail
      clear H hkp g0 g1 g2 g3 g4 g5
      go_loopw [6, 8] (fun v ix wr => ∃ (q : Nat) (D : Option Addr) (d : Nat) (MB : Nat → Nat), q ≤ g.nm ∧ ix = .int .i64 q ∧ v = .slice D q d ∧ OwnMems g wr w2.heap.size D q d MB (fun _ _ => 0) ∧ Below w2.heap.size w2 wr) (fun _ ix _ => g.nm - (intOf ix).toNat)
      case atStart => exact ⟨0, none, 0, fun _ => 0, by omega, rfl, rfl, ⟨World.ownsRow_nil _ _ _ _, fun i hi => by omega, fun i hi => by omega, fun i j _ hj => by omega⟩, Below.refl _ _⟩
      case round =>
        obtain ⟨q, D, d, MB, hq, rfl, rfl, HM, hbm⟩ := hrel
        have hb12 := HB2.out.trans (hbm.mono hsz)
        have hkp := Lib.hid (Keeps.of_below hb12)
        have hsm := hbm.size
        obtain ⟨g0, g1, g2, g3, g4, g5⟩ := (hbx.keeps hkp.out).six
        by_cases hlq : q < g.nm
        · have hqi : (q : Int) < g.nm := by omega
          obtain ⟨b, o, hA, y0, y1⟩ := (hg1.keeps hkp.out).mems.at2 hlq
          simp only [two] at y0 y1
          rw [hA] at g3
          clear hA
          have hms := (hok.mems q hlq).2
          obtain ⟨S, hS⟩ : ∃ S : Nat, g.MS q = S := ⟨(g.MS q).toNat, by omega⟩
          rw [hS] at hms y1
          have HSS : Hid ((g.MS q).toNat = S) := Lib.hid (by omega)
          clear hS
          have hmk := fun W => run_mk Try.underlying34 zeroU .i64 .i64 (S : Int) S (by omega) (by omega) (by omega) (by omega) W
          simp only [Int.toNat_natCast, Value.cells, Nat.mul_one] at hmk
          have hbA : Below wr.heap.size wr ((wr.alloc (.cells (madeCells #[.int .u64 0] S) 33)).alloc (.cells #[.slice (some ⟨wr.heap.size, 0, none⟩) S S] 34)) := ((Below.refl _ _).alloc (Nat.le_refl _) _).alloc (by simp) _
          have HM2 := HM.below hbA
          have harr := (Arr.made wr (.int .u64 0) S 33).alloc (.cells #[.slice (some ⟨wr.heap.size, 0, none⟩) S S] 34)
          have HML := Lib.hid (fun i (hi : i < q) => HM.lt hi)
          have HSRC : Src ((wr.alloc (.cells (madeCells #[.int .u64 0] S) 33)).alloc (.cells #[.slice (some ⟨wr.heap.size, 0, none⟩) S S] 34)) 1 (some ⟨wr.heap.size + 1, 0, none⟩) 1 [.slice (some ⟨wr.heap.size, 0, none⟩) S S] := by
            rw [show wr.heap.size + 1 = (wr.alloc (.cells (madeCells #[.int .u64 0] S) 33)).heap.size from (by simp)]
            exact src_new _ _ _ rfl
          go_wp2_with (at_builtin; refine wp_append_wide rfl (.tmp 40) (.tmp 48) _ rfl elU64Row w2.heap.size D q d _ rfl HM2.own _ 1 1 [.slice (some ⟨wr.heap.size, 0, none⟩) S S] rfl HSRC (by omega) (by simp only [maxLen]; omega) (by omega) (by simp; omega) ?_; intro D' d' w6 ho hk')
          have HM3 : OwnMems g w6 w2.heap.size D' (q + 1) d' (lastlyW q wr.heap.size MB) (fun _ _ => 0) := HM2.push (by rw [HSS.out]; exact ho) hk' (by rw [HSS.out]; exact harr) (by omega) (fun i hi => HML.out i hi)
          have hb6 : Below w2.heap.size w2 w6 := (hbm.trans (hbA.mono hsm)).trans (hk'.below (fun j _ c => own_base HM.own j c) (by simp; omega))
          go_roundw
          case rel => exact ⟨q + 1, D', d', _, by omega, by go_num, rfl, HM3, hb6⟩
          case measure => simp [intOf]; omega
        · obtain rfl : q = g.nm := by omega
          have hrg3 := hrg.below hbm
          have HMO := Lib.hid (own_lt HM.own)
          have HMG := Lib.hid (own_base HM.own)
          have HML := Lib.hid (fun i (hi : i < g.nm) => HM.lt hi)
          have HMW := Lib.hid HM.low
          obtain ⟨w3, rfl⟩ : ∃ w3 : World, w3 = wr := ⟨_, rfl⟩
          have HB3 := Lib.hid hb12
          go_wp2_with fail
          clear hkp g0 g1 g2 g3 g4 g5 hb12 hbm
          go_loopw [9, 10] (fun out ix wr => ∃ (k : Nat) (C : Option Addr) (c : Nat) (RA : Nat → Option Addr) (RC : Nat → Nat), k ≤ nt ∧ ix = .int .i64 k ∧ out = .slice C k c ∧ NRun g TL T w1.heap.size w2.heap.size w3.heap.size w1 wr A D d MB k C c RA RC) (fun _ ix _ => nt - (intOf ix).toNat)
          case atStart => exact ⟨0, none, 0, fun _ => none, fun _ => 0, by omega, rfl, rfl, ⟨HB3.out, Nat.le_refl _, hrg3, HM, ⟨World.ownsRow_nil _ _ _ _, fun i hi => by omega⟩⟩⟩
          case round =>
            clear hrg hrg3 HM
            obtain ⟨k, C, c', RA, RC, hk, rfl, rfl, H⟩ := hrel
            have hkp := Lib.hid (Keeps.of_below H.bel)
            have hsw := H.size
            obtain ⟨g0, g1, g2, g3, g4, g5⟩ := (hbx.keeps hkp.out).six
            by_cases hlt : k < nt
            · have hki : (k : Int) < nt := by omega
              obtain ⟨TA, TC, t1, t2⟩ := ht1.keeps hkp.out
              have HT2 := Lib.hid (t2 k hlt); clear t2
              obtain ⟨bt, ot, hTe, x0⟩ := t1.at_ hlt
              subst hTe
              have hgr := hg1.keeps hkp.out
              have HNX := Lib.hid (fun (W : World) (hW : Keeps wr W) => cycle_any g p (TA k) (TL k) (TC k) (T k) A c (g.st TL T k).1 D d MB (g.st TL T k).2 W (hgr.keeps hW) hfit hok (Row1.keeps HT2.out hW) (HTB.out k hlt) (HTL.out k hlt) (Row1.keeps H.regs.words hW) (H.mems.at_.keeps hW) (g.st_inv hok hfit TL T k))
              generalize hTA : TA k = TAk at *
              clear hTA
              go_wp2_with fail
              go_region_held3 (fun w' => w'.cell? ⟨w.heap.size, 0, none⟩ = some (.slice p.A0 g.n0 p.c0) ∧ w'.cell? ⟨w.heap.size, 1, none⟩ = some (.slice p.A1 g.nn p.c1) ∧ w'.cell? ⟨w.heap.size, 2, none⟩ = some (.slice p.A2 g.nr p.c2) ∧ w'.cell? ⟨w.heap.size, 3, none⟩ = some (.slice p.A3 g.nm p.c3) ∧ w'.cell? ⟨w.heap.size, 4, none⟩ = some (.slice p.A4 g.nw p.c4) ∧ w'.cell? ⟨w.heap.size, 5, none⟩ = some (.slice p.A5 g.no p.c5) ∧ w'.cell? ⟨bt, ot + k, none⟩ = some (.slice TAk (TL k) (TC k))) (first | exact ⟨g0, g1, g2, g3, g4, g5, x0⟩ | assumption)
                (first | (go_at_call 23; refine (HNX.out _ ?_).mono ?_; exact (Keeps.drew _); rintro e w4 ⟨Av, cv, rfl, hv4, hb4⟩; have hs5 : w4.cell? ⟨w.heap.size, 0, none⟩ = some (.slice p.A0 g.n0 p.c0) ∧ w4.cell? ⟨w.heap.size, 1, none⟩ = some (.slice p.A1 g.nn p.c1) ∧ w4.cell? ⟨w.heap.size, 2, none⟩ = some (.slice p.A2 g.nr p.c2) ∧ w4.cell? ⟨w.heap.size, 3, none⟩ = some (.slice p.A3 g.nm p.c3) ∧ w4.cell? ⟨w.heap.size, 4, none⟩ = some (.slice p.A4 g.nw p.c4) ∧ w4.cell? ⟨w.heap.size, 5, none⟩ = some (.slice p.A5 g.no p.c5) ∧ w4.cell? ⟨bt, ot + k, none⟩ = some (.slice TAk (TL k) (TC k)) := ⟨Keeps.of_below hb4 _ _ g0, Keeps.of_below hb4 _ _ g1, Keeps.of_below hb4 _ _ g2, Keeps.of_below hb4 _ _ g3, Keeps.of_below hb4 _ _ g4, Keeps.of_below hb4 _ _ g5, Keeps.of_below hb4 _ _ x0⟩))
              have HB4 := Lib.hid (show Below wr.heap.size wr w4 from ⟨hb4.os, hb4.tape, hb4.output, hb4.size, hb4.block⟩)
              have hv5 : OwnW w4 wr.heap.size Av g.nn (g.cyc TL T k) := hv4
              have hs4 : wr.heap.size ≤ w4.heap.size := HB4.out.size
              have hr4 := H.regs.below HB4.out
              have hm4 := H.mems.below HB4.out
              have hmt4 := H.mat.below HB4.out
              have HBL4 := Lib.hid (H.bel.trans (HB4.out.mono (by omega)))
              have HCF := Lib.hid (g.cyc_fits hok hfit TL T k)
              clear hs5 hb4 hv4 g0 g1 g2 g3 g4 g5 x0 HNX hgr
              have HSH : Hid (∀ m, g.shown TL T k m = g.cyc TL T k (g.O m).toNat) := Lib.hid (fun _ => rfl)
              have HR1 : Hid (∀ i, (g.st TL T (k + 1)).1 i = g.cyc TL T k (g.RN i).toNat) := Lib.hid (fun _ => rfl)
              have HM1 : Hid ((g.st TL T (k + 1)).2 = g.writes (g.cyc TL T k) (g.st TL T k).2 g.nw) := Lib.hid rfl
              generalize g.cyc TL T k = Cv at *
              go_wp2_with fail
              go_loopw [12, 13] (fun v ix wi => ∃ (m : Nat) (E : Option Addr) (e : Nat), m ≤ g.no ∧ ix = .int .i64 m ∧ v = .slice E m e ∧ GrowW w4 E m e (g.shown TL T k) wi) (fun _ ix _ => g.no - (intOf ix).toNat)
              case atStart => exact ⟨0, none, 0, by omega, rfl, rfl, GrowW.start _ _⟩
              case round =>
                obtain ⟨m, E, e, hm, rfl, rfl, HG⟩ := hrel
                have hszg := Grow.size HG
                have hbg := HG.bel
                have hkm := Lib.hid (Keeps.of_below (HBL4.out.trans (hbg.mono (by omega))))
                obtain ⟨g0, g1, g2, g3, g4, g5⟩ := (hbx.keeps hkm.out).six
                by_cases hlm : m < g.no
                · have hmi : (m : Int) < g.no := by omega
                  obtain ⟨bo, oo, hOe, x0⟩ := (hg1.keeps hkm.out).outs.at_ hlm
                  rw [hOe] at g5
                  have hob := isB_in (hok.outs m hlm)
                  obtain ⟨i, hi⟩ : ∃ i : Nat, (i : Int) = g.O m := ⟨(g.O m).toNat, by omega⟩
                  rw [← hi] at x0 hob
                  have HVm : Hid (g.shown TL T k m = Cv i) := Lib.hid (by rw [HSH.out, ← hi, Int.toNat_natCast])
                  obtain ⟨bv, ov, hVe, v0⟩ := Row1.at_ (Row1.keeps hv5.words (Keeps.of_below hbg)) (k := i) (by omega)
                  subst hVe
                  clear hOe hi
                  go_wp2_with (at_builtin; refine wp_append rfl (.tmp 71) (.tmp 80) _ rfl elU64 w4.heap.size E m e _ rfl (Grow.alloc HG _).own _ 1 1 [.int .u64 (Cv i)] rfl (src_new _ _ _ rfl) (by omega) (sz_alloc hszg) ?_; intro E' e' w6 ho hk' hb')
                  go_roundw
                  case rel => exact ⟨m + 1, E', e', by omega, by go_num, rfl, GrowW.push (Grow.alloc HG _) ho hk' (fun _ _ => rfl) HVm.out⟩
                  case measure => simp [intOf]; omega
                · obtain rfl : m = g.no := by omega
                  have hrow : OwnW wr w3.heap.size E g.no (g.shown TL T k) := (OwnW.of_own HG.own).mono (by omega)
                  have hr5 := hr4.below hbg
                  have hm5 := hm4.below hbg
                  have hmt5 := hmt4.below hbg
                  have hv6 : OwnW wr w3.heap.size Av g.nn Cv := (hv5.mono hsw).below hbg
                  have hsw5 : w3.heap.size ≤ wr.heap.size := by omega
                  have HBL5 := Lib.hid (HBL4.out.trans (hbg.mono (by omega)))
                  go_upto_region 22 with (at_builtin; refine wp_append rfl (.tmp 82) (.tmp 84) _ rfl elU64Row w3.heap.size C k c' _ rfl (hmt5.alloc _).own _ 1 1 [.slice E g.no e] rfl (src_new _ _ _ rfl) (by omega) (sz_alloc hsw5) ?_; intro C' cc w6 ho hk' hb')
                  have hal := (Below.refl wr.heap.size wr).alloc (Nat.le_refl _) (.cells #[.slice E g.no e] 34)
                  have hbC := own_base hmt5.own
                  have hmt6 : OwnMatW w6 w3.heap.size C' (k + 1) cc g.no (g.shown TL T) (lastlyW k E RA) (lastlyW k e RC) := (hmt5.alloc _).push ho hk' (hrow.below hal)
                  have hr6 := (hr5.below hal).only hk' (fun b _ hb c => by have := hbC _ c; have := hrlt.out _ hb; omega)
                  have hm6 := (hm5.below hal).only hk' (fun b hb c => by have := hbC _ c; have := HMO.out _ hb; omega) (fun i hi c => by have := hbC _ c; have := HML.out i hi; omega)
                  have hv7 : OwnW w6 w3.heap.size Av g.nn Cv := (hv6.below hal).typ hk' (own_type (e' := 33) (hmt5.alloc (.cells #[.slice E g.no e] 34)).own (by decide))
                  have HBL6 := Lib.hid ((HBL5.out.trans (hal.mono (by omega))).trans (hk'.below (fun j _ c => by have := hbC _ c; omega) (by simp; omega)))
                  have hsz6 : w3.heap.size ≤ w6.heap.size := by have := hk'.size; simp at this; omega
                  have hle6 : w1.heap.size ≤ w6.heap.size := by omega
                  clear hk' ho hb' hal hmt5 hr5 hm5 hv6 HG hkm g0 g1 g2 g3 g4 g5 hbg hrow hr4 hm4 hmt4 hv5
                  have hkq := Lib.hid (Keeps.of_below HBL6.out)
                  obtain ⟨g0, g1, g2, g3, g4, g5⟩ := (hbx.keeps hkq.out).six
                  go_wp2_with fail
                  clear g0 g1 g2 g3 g4 g5
                  go_loopw [14] (fun ix wi => ∃ q : Nat, q ≤ g.nr ∧ ix = .int .i64 q ∧ Only (blockOf A) w6 wi ∧ Hid (∃ V : Nat → Int, OwnW wi w1.heap.size A g.nr V ∧ ∀ j, j < q → V j = (g.st TL T (k + 1)).1 j)) (fun ix _ => g.nr - (intOf ix).toNat)
                  case atStart => exact ⟨0, by omega, rfl, Only.refl _ _, _, hr6, fun j hj => by omega⟩
                  case round =>
                    clear hr6
                    obtain ⟨q, hq, rfl, HOl, HSl⟩ := hrel
                    obtain ⟨V5, hS, hV5⟩ := HSl.out
                    have HV5 := Lib.hid hV5; clear hV5 HSl
                    have hbl := HOl.below (B := w1.heap.size) (fun j _ c => hrge.out j c) hle6
                    have hkl := Lib.hid (Keeps.of_below (HBL6.out.trans hbl))
                    obtain ⟨g0, g1, g2, g3, g4, g5⟩ := (hbx.keeps hkl.out).six
                    have hvl := hv7.off HOl (fun b hb c => by have := hrlt.out _ c; omega)
                    by_cases hlq : q < g.nr
                    · have hqi : (q : Int) < g.nr := by omega
                      obtain ⟨b3, o3, hA3, z0, z1, z2⟩ := (hg1.keeps hkl.out).regs.at3 hlq
                      simp only [qu] at z0 z1 z2
                      rw [hA3] at g2
                      have hnb := isB_in (hok.next q hlq)
                      obtain ⟨i, hi⟩ : ∃ i : Nat, (i : Int) = g.RN q := ⟨(g.RN q).toNat, by omega⟩
                      rw [← hi] at z2 hnb
                      have HVq : Hid ((g.st TL T (k + 1)).1 q = Cv i) := Lib.hid (by rw [HR1.out, ← hi, Int.toNat_natCast])
                      obtain ⟨bv, ov, hVe, v0⟩ := Row1.at_ hvl.words (k := i) (by omega)
                      subst hVe
                      obtain ⟨bs, hbe, hbs, s0, s1, hset⟩ := hS.at_ hlq
                      have HBE := Lib.hid hbe
                      subst hbe
                      clear hA3 hi
                      go_wp2_with fail
                      refine ⟨⟨q + 1, by omega, by go_num, HOl.setCell (p := ⟨bs, q, none⟩) (fun _ => ⟨_, rfl, rfl⟩) _, fun j => if j = q then Cv i else V5 j, hset _ _ (fun j _ hj => by simp [hj]) (by simp), fun j hj => ?_⟩, by simp [intOf]; omega⟩
                      by_cases e : j = q
                      · simp only [if_pos e]; rw [e, HVq.out]
                      · simp only [if_neg e]; exact HV5.out j (by omega)
                    · obtain rfl : q = g.nr := by omega
                      have hr8 : OwnW wr w1.heap.size A g.nr (g.st TL T (k + 1)).1 := hS.congr (fun j hj => (HV5.out j hj).symm)
                      have hm8 := hm6.only HOl (fun b hb c => by have := HMG.out _ hb; have := hrlt.out _ c; omega) (fun i hi c => by have := HMW.out i hi; have := hrlt.out _ c; omega)
                      have hmt8 := hmt6.only HOl (fun j hj _ c => by have := hrlt.out _ c; omega)
                      have HBL8 := Lib.hid (HBL6.out.trans hbl)
                      have hsz8 : w3.heap.size ≤ wr.heap.size := by have := HOl.size; omega
                      have hv8 := hvl
                      go_wp2_with fail
                      obtain ⟨w8, rfl⟩ : ∃ w8 : World, w8 = wr := ⟨_, rfl⟩
                      clear HOl hS HV5 hbl hkl g0 g1 g2 g3 g4 g5 hvl hv7 hm6 hmt6 hkq hle6
                      go_loopw [15] (fun ix wi => ∃ q : Nat, q ≤ g.nw ∧ ix = .int .i64 q ∧ Only (fun b => ∃ i, i < g.nm ∧ b = MB i) w8 wi ∧ Hid (OwnMems g wi w2.heap.size D g.nm d MB (g.writes Cv (g.st TL T k).2 q))) (fun ix _ => g.nw - (intOf ix).toNat)
                      case atStart => exact ⟨0, by omega, rfl, Only.refl _ _, hm8⟩
                      case round =>
                        clear hm8
                        obtain ⟨q, hq, rfl, HOl, HMl⟩ := hrel
                        have HSB := Lib.hid (fun j (c : ∃ i, i < g.nm ∧ j = MB i) => show w2.heap.size ≤ j ∧ j < w3.heap.size by
                          obtain ⟨i, hi, rfl⟩ := c
                          exact ⟨HMW.out i hi, HML.out i hi⟩)
                        have hbl := HOl.below (B := w1.heap.size) (fun j _ c => by have := HSB.out j c; omega) (by omega)
                        have hkl := Lib.hid (Keeps.of_below (HBL8.out.trans hbl))
                        obtain ⟨g0, g1, g2, g3, g4, g5⟩ := (hbx.keeps hkl.out).six
                        by_cases hlq : q < g.nw
                        · have hqi : (q : Int) < g.nw := by omega
                          obtain ⟨b3, o3, hA3, z0, z1, z2, z3⟩ := (hg1.keeps hkl.out).writes.at4 hlq
                          simp only [qu] at z0 z1 z2 z3
                          rw [hA3] at g4
                          clear hA3
                          go_upto_region 30 with (fail)
                          have qbox := BoxAt.new wr [.int .i64 (g.WM q), .int .i64 (g.WN q), .int .i64 (g.WA q), .int .i64 (g.WD q)] 45
                          have hbA : Below wr.heap.size wr (wr.alloc (.cells #[.int .i64 (g.WM q), .int .i64 (g.WN q), .int .i64 (g.WA q), .int .i64 (g.WD q)] 45)) := (Below.refl _ _).alloc (Nat.le_refl _) _
                          have HOq := HOl.alloc (.cells #[.int .i64 (g.WM q), .int .i64 (g.WN q), .int .i64 (g.WA q), .int .i64 (g.WD q)] 45)
                          have HMq := HMl.out.below hbA
                          generalize wr.alloc (.cells #[.int .i64 (g.WM q), .int .i64 (g.WN q), .int .i64 (g.WA q), .int .i64 (g.WD q)] 45) = wq at *
                          clear HOl HMl hbl hkl g0 g1 g2 g3 g4 g5 z0 z1 z2 z3 hbA
                          generalize wr.heap.size = bq at *
                          have hbq := HOq.below (B := w1.heap.size) (fun j _ c => by have := HSB.out j c; omega) (by omega)
                          have hkq := Lib.hid (Keeps.of_below (HBL8.out.trans hbq))
                          obtain ⟨g0, g1, g2, g3, g4, g5⟩ := (hbx.keeps hkq.out).six
                          have hvq := hv8.off HOq (fun b hb c => by have := HSB.out b c; omega)
                          obtain ⟨v0, v1, v2, v3⟩ := qbox.four
                          have hwk := hok.writes q hlq
                          have h1 := isB_in hwk.when; have h2 := isB_in hwk.addr; have h3 := isB_in hwk.data
                          have h4 := hwk.lo; have h5 := hwk.hi
                          obtain ⟨im, him⟩ : ∃ i : Nat, (i : Int) = g.WM q := ⟨(g.WM q).toNat, by omega⟩
                          obtain ⟨jn, hjn⟩ : ∃ i : Nat, (i : Int) = g.WN q := ⟨(g.WN q).toNat, by omega⟩
                          obtain ⟨ja, hja⟩ : ∃ i : Nat, (i : Int) = g.WA q := ⟨(g.WA q).toNat, by omega⟩
                          obtain ⟨jd, hjd⟩ : ∃ i : Nat, (i : Int) = g.WD q := ⟨(g.WD q).toNat, by omega⟩
                          rw [← hjn] at h1 v1; rw [← hja] at h2 v2; rw [← hjd] at h3 v3; rw [← him] at h4 h5 v0
                          have himn : im < g.nm := by omega
                          have hms := (hok.mems im himn).2
                          obtain ⟨S, hS⟩ : ∃ S : Nat, g.MS im = S := ⟨(g.MS im).toNat, by omega⟩
                          obtain ⟨b4, o4, hA4, _, m1⟩ := (hg1.keeps hkq.out).mems.at2 himn
                          simp only [two] at m1
                          rw [hA4] at g3
                          rw [hS] at m1 hms
                          obtain ⟨bv, ov, hVe, hvc⟩ := hvq.words (by omega)
                          have x1 : wq.cell? ⟨bv, ov + jn, none⟩ = some (.int .u64 (Cv jn)) := hvc jn (by omega)
                          have x2 : wq.cell? ⟨bv, ov + ja, none⟩ = some (.int .u64 (Cv ja)) := hvc ja (by omega)
                          have x3 : wq.cell? ⟨bv, ov + jd, none⟩ = some (.int .u64 (Cv jd)) := hvc jd (by omega)
                          subst hVe
                          have HWS : Hid (g.writes Cv (g.st TL T k).2 (q + 1) = if Cv jn ≠ 0 ∧ Cv ja < S then fun i j => if i = im ∧ j = (Cv ja).toNat then Cv jd else g.writes Cv (g.st TL T k).2 q i j else g.writes Cv (g.st TL T k).2 q) := Lib.hid (by
                            simp only [Nl.writes]
                            rw [← hjn, ← hja, ← hjd, ← him, Int.toNat_natCast, Int.toNat_natCast, Int.toNat_natCast, Int.toNat_natCast, hS])
                          obtain ⟨x, hx⟩ : ∃ x : Nat, Cv ja = x := ⟨(Cv ja).toNat, by have := (HCF.out ja (by omega)).1; omega⟩
                          have HX := Lib.hid hx
                          rw [hx] at x2
                          have HSE : Hid ((g.MS im).toNat = S) := Lib.hid (by omega)
                          clear hvc hA4 him hjn hja hjd hS hx hwk
                          by_cases hn0 : Cv jn = 0
                          · have hd1 : (Cv jn != 0) = false := by simp [hn0]
                            have HW : Hid (g.writes Cv (g.st TL T k).2 (q + 1) = g.writes Cv (g.st TL T k).2 q) := Lib.hid (by rw [HWS.out, if_neg (fun h => h.1 hn0)])
                            clear hn0
                            go_wp2_with fail
                            go_quiet (fail)
                            have hbd := HOq.drewN nq
                            have hm9 := HMq.below (drawnN_bel wq nq)
                            rw [← HW.out] at hm9
                            go_wp2_with fail
                            go_roundw
                            case rel => exact ⟨q + 1, by omega, by go_num, hbd, hm9⟩
                            case measure => simp [intOf]; omega
                          · have hd1 : (Cv jn != 0) = true := by simp [hn0]
                            by_cases hxs : x < S
                            · have hd2 : decide ((x : Int) < IntKind.u64.wrap (S : Int)) = true := by rw [wraps_u64 _ (by omega) (by omega)]; simpa using hxs
                              have HW : Hid (g.writes Cv (g.st TL T k).2 (q + 1) = fun i j => if i = im ∧ j = x then Cv jd else g.writes Cv (g.st TL T k).2 q i j) := Lib.hid (by
                                rw [HWS.out, if_pos ⟨hn0, by rw [HX.out]; omega⟩, HX.out, Int.toNat_natCast])
                              obtain ⟨bd, od, hDe, y0⟩ := Row1.at_ HMq.at_.row himn
                              subst hDe
                              have harr := HMq.arr im himn
                              rw [HSE.out] at y0 harr
                              have ca := harr.cell hxs
                              have fa := harr.thaw x
                              have hxi : (x : Int) < S := by omega
                              clear hn0
                              go_wp2_with fail
                              go_quiet (fail)
                              go_wp2_with fail
                              have u0 : (wq.drewN nq).cell? ⟨bq, 0, none⟩ = some (.int .i64 im) := v0
                              have u2 : (wq.drewN nq).cell? ⟨bq, 2, none⟩ = some (.int .i64 ja) := v2
                              have u3 : (wq.drewN nq).cell? ⟨bq, 3, none⟩ = some (.int .i64 jd) := v3
                              have t2 : (wq.drewN nq).cell? ⟨bv, ov + ja, none⟩ = some (.int .u64 x) := x2
                              have t3 : (wq.drewN nq).cell? ⟨bv, ov + jd, none⟩ = some (.int .u64 (Cv jd)) := x3
                              have r0 : (wq.drewN nq).cell? ⟨bd, od + im, none⟩ = some (.slice (some ⟨MB im, 0, none⟩) S S) := y0
                              have ca' : (wq.drewN nq).cell? ⟨MB im, x, none⟩ = some (.int .u64 (g.writes Cv (g.st TL T k).2 q im x)) := ca
                              have fa' : (wq.drewN nq).frozen? ⟨MB im, x, none⟩ = false := fa
                              have HOz := HOq.drewN nq
                              have HMz := HMq.below (drawnN_bel wq nq)
                              clear HOq HMq v0 v1 v2 v3 x1 x2 x3 y0 ca fa harr hvq g0 g1 g2 g3 g4 g5 m1 hkq hbq qbox
                              generalize wq.drewN nq = wz at *
                              go_still_tail 16, (by kernel_rfl)
                              change wpList _ _ _ _ _ wz.drew
                              have hbd := (HOz.drew).setCell (p := ⟨MB im, x, none⟩) (fun _ => ⟨im, himn, rfl⟩) (.int .u64 (Cv jd))
                              have hm9 := (HMz.below (Below.refl wz.heap.size wz).drew).set (j := x) himn (Cv jd)
                              rw [← HW.out] at hm9
                              go_wp2_with fail
                              go_roundw
                              case rel => exact ⟨q + 1, by omega, by go_num, hbd, hm9⟩
                              case measure => simp [intOf]; omega
                            · have hd2 : decide ((x : Int) < IntKind.u64.wrap (S : Int)) = false := by rw [wraps_u64 _ (by omega) (by omega)]; simpa using hxs
                              have HW : Hid (g.writes Cv (g.st TL T k).2 (q + 1) = g.writes Cv (g.st TL T k).2 q) := Lib.hid (by rw [HWS.out, if_neg (fun h => by have h2 := h.2; rw [HX.out] at h2; omega)])
                              clear hn0
                              go_wp2_with fail
                              go_quiet (fail)
                              have hbd := HOq.drewN nq
                              have hm9 := HMq.below (drawnN_bel wq nq)
                              rw [← HW.out] at hm9
                              go_wp2_with fail
                              go_roundw
                              case rel => exact ⟨q + 1, by omega, by go_num, hbd, hm9⟩
                              case measure => simp [intOf]; omega
                        · obtain rfl : q = g.nw := by omega
                          have hm9 := HMl.out
                          rw [← HM1.out] at hm9
                          have hr9 := hr8.only HOl (fun b _ hb c => by have := HSB.out b c; have := hrlt.out b hb; omega)
                          have hmt9 := hmt8.only HOl (fun j hj _ c => by have := HSB.out j c; omega)
                          have HBL9 := HBL8.out.trans hbl
                          have hsz9 : w3.heap.size ≤ wr.heap.size := by have := HOl.size; omega
                          go_wp2_with fail
                          go_roundw
                          case rel => exact ⟨k + 1, C', cc, _, _, by omega, by go_num, rfl, ⟨HBL9, hsz9, hr9, hm9, hmt9⟩⟩
                          case measure => simp [intOf]; omega
            · obtain rfl : k = nt := by omega
              go_wp2_with fail
              go_ret
              exact ⟨C, c', RA, RC, rfl, H.mat.mono (by omega), Below.then_call HB1.out H.bel hle1⟩
end Go.Proofs.Ytmbcfondglhiiaa
