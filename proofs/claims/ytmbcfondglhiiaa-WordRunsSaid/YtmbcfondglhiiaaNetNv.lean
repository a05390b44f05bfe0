/- The reference's nodeValid, walked: is a node right? Conditions: the netlist lies in memory. -/
import Derived.Test.YtmbcfondglhiiaaNetDef
namespace Go.Proofs.Ytmbcfondglhiiaa
open Go.RowKit

set_option maxHeartbeats 8000000 in
set_option maxRecDepth 100000 in
theorem nodeValid_any (g : Nl) (p : Pl) (i : Nat) (w : World) (hg : g.At w p) (hfit : g.Fits) (hi : i < g.nn) :
    Calls Try.prog 14 #[.agg #[.slice p.A0 g.n0 p.c0, .slice p.A1 g.nn p.c1, .slice p.A2 g.nr p.c2, .slice p.A3 g.nm p.c3, .slice p.A4 g.nw p.c4, .slice p.A5 g.no p.c5], .int .i64 i] w fun e w' => e = .returned (.bool (tf (g.NodeOk i))) ∧ Below w.heap.size w w' := by
  have hwf := hfit.kw i hi
  have hal := hfit.al i hi
  have hu := hfit.u i hi
  have hi2 : (i : Int) < g.nn := by omega
  have hb1 := hfit.b1
  go_enter Try.func14, Try.ntmps14
  go_upto_region 1 with (fail)
  have hbel : Below w.heap.size w (w.alloc (.cells #[.slice p.A0 g.n0 p.c0, .slice p.A1 g.nn p.c1, .slice p.A2 g.nr p.c2, .slice p.A3 g.nm p.c3, .slice p.A4 g.nw p.c4, .slice p.A5 g.no p.c5] 28)) := (Below.refl _ _).alloc (Nat.le_refl _) _
  have hbx := BoxAt.new w [.slice p.A0 g.n0 p.c0, .slice p.A1 g.nn p.c1, .slice p.A2 g.nr p.c2, .slice p.A3 g.nm p.c3, .slice p.A4 g.nw p.c4, .slice p.A5 g.no p.c5] 28
  have hs1 : (w.alloc (.cells #[.slice p.A0 g.n0 p.c0, .slice p.A1 g.nn p.c1, .slice p.A2 g.nr p.c2, .slice p.A3 g.nm p.c3, .slice p.A4 g.nw p.c4, .slice p.A5 g.no p.c5] 28)).heap.size = w.heap.size + 1 := by simp
  generalize w.alloc (.cells #[.slice p.A0 g.n0 p.c0, .slice p.A1 g.nn p.c1, .slice p.A2 g.nr p.c2, .slice p.A3 g.nm p.c3, .slice p.A4 g.nw p.c4, .slice p.A5 g.no p.c5] 28) = w1 at *
  have HB1 := Lib.hid hbel
  have hg1 := hg.keeps (Keeps.of_below hbel)
  clear hbel
  obtain ⟨b, o, hA, x0, x1, x2, x3⟩ := hg1.nodes.1.at4 hi
  simp only [qu] at x0 x1 x2 x3
  obtain ⟨g0, g1, g2, g3, g4, g5⟩ := hbx.six
  rw [hA] at g1
  have hlt1 : w.heap.size < w1.heap.size := by omega
  clear hs1
  go_upto_region 2 with (fail)
  have hbelq : Below w1.heap.size w1 (w1.alloc (.cells #[.int .i64 (g.K i), .int .i64 (g.W i), .int .u64 (g.U i), .slice (p.TA i) (g.al i) (p.TC i)] 42)) := (Below.refl _ _).alloc (Nat.le_refl _) _
  have hnb := BoxAt.new w1 [.int .i64 (g.K i), .int .i64 (g.W i), .int .u64 (g.U i), .slice (p.TA i) (g.al i) (p.TC i)] 42
  have hs2 : (w1.alloc (.cells #[.int .i64 (g.K i), .int .i64 (g.W i), .int .u64 (g.U i), .slice (p.TA i) (g.al i) (p.TC i)] 42)).heap.size = w1.heap.size + 1 := by simp
  generalize w1.alloc (.cells #[.int .i64 (g.K i), .int .i64 (g.W i), .int .u64 (g.U i), .slice (p.TA i) (g.al i) (p.TC i)] 42) = w2 at *
  have hlt2 : w1.heap.size < w2.heap.size := by omega
  clear hs2
  have HB2 := Lib.hid (Below.then_call HB1.out hbelq (by omega))
  have hbx2 := hbx.keeps (Keeps.of_below hbelq)
  have hg2 := hg1.keeps (Keeps.of_below hbelq)
  clear hbelq hbx hg1 g0 g1 g2 g3 g4 g5 x0 x1 x2 x3
  generalize w1.heap.size = bn at *
  obtain ⟨n0, n1, n2, n3⟩ := hnb.four
  have hT := hg2.nodes.2 i hi
  generalize p.TA i = TAi at *
  obtain ⟨N, hN⟩ : ∃ N, N = wantN (g.K i) := ⟨_, rfl⟩
  have HN := Lib.hid hN
  clear hN
  obtain ⟨g0, g1, g2, g3, g4, g5⟩ := hbx2.six
  rw [hA] at g1
  cases hwd : wideB (g.W i)
  · have HWD := Lib.hid hwd
    have HNE := Lib.hid (show tf (g.NodeOk i) = false from tf_no (fun h => by have := h.wide; rw [HWD.out] at this; cases this))
    go_wp2_with fail
    refine (width_any _ _).mono ?_
    rintro e w7 ⟨rfl, rfl⟩
    rw [HWD.out]
    go_wp2_with fail
    refine (want_any _ _).mono ?_
    rintro e w7 ⟨rfl, rfl⟩
    rw [← HN.out]
    go_wp2_with fail
    go_ret
    exact ⟨congrArg (fun b => Ending.returned (Value.bool b)) HNE.out.symm, HB2.out⟩
  · have HWD := Lib.hid hwd
    clear hwd
    by_cases hk : N = -2
    · have HNE := Lib.hid (show tf (g.NodeOk i) = false from tf_no (fun h => h.count.1 (by rw [← HN.out]; exact hk)))
      have e0 : (N == -2) = true := by simpa using hk
      go_wp2_with fail
      refine (width_any _ _).mono ?_
      rintro e w7 ⟨rfl, rfl⟩
      rw [HWD.out]
      go_wp2_with fail
      refine (want_any _ _).mono ?_
      rintro e w7 ⟨rfl, rfl⟩
      rw [← HN.out]
      go_wp2_with fail
      go_ret
      exact ⟨congrArg (fun b => Ending.returned (Value.bool b)) HNE.out.symm, HB2.out⟩
    · have HK2 : Hid (wantN (g.K i) ≠ -2) := Lib.hid (by rw [← HN.out]; exact hk)
      have e0 : (N == -2) = false := by simpa using hk
      clear hk
      by_cases hN0 : 0 ≤ N
      · have e3 : (N == -1) = false := by simp; omega
        by_cases hc : (g.al i : Int) = N
        · have HCT : Hid ((0 ≤ wantN (g.K i) → (g.al i : Int) = wantN (g.K i)) ∧ (wantN (g.K i) = -1 → 0 < g.al i)) := Lib.hid (by rw [← HN.out]; exact ⟨fun _ => hc, fun h => by omega⟩)
          have e1 : ((g.al i : Int) != N) = false := by simp [hc]
          clear hc
          go_wp2_with fail
          refine (width_any _ _).mono ?_
          rintro e w7 ⟨rfl, rfl⟩
          rw [HWD.out]
          go_wp2_with fail
          refine (want_any _ _).mono ?_
          rintro e w7 ⟨rfl, rfl⟩
          rw [← HN.out]
          go_wp2_with fail
          go_loopw [8, 9] (fun v ix wr => ∃ (k : Nat) (B : Option Addr) (c : Nat), k ≤ g.al i ∧ ix = .int .i64 k ∧ v = .slice B k c ∧ Grow w2 3 1 B k c ((List.range k).map fun j => .int .i64 (g.aw i j)) wr ∧ Hid (∀ j, j < k → 0 ≤ g.a i j ∧ g.a i j < i)) (fun _ ix _ => g.al i - (intOf ix).toNat)
          case atStart => exact ⟨0, none, 0, by omega, rfl, rfl, Grow.start _ _ _, fun j hj => by omega⟩
          case round =>
            obtain ⟨k, B, c, hkk, rfl, rfl, H, HH⟩ := hrel
            have hkp := Lib.hid (Grow.keeps H)
            have hsz := H.size
            have hgr := hg2.keeps hkp.out
            obtain ⟨g0, g1, g2, g3, g4, g5⟩ := (hbx2.keeps hkp.out).six
            rw [hA] at g1
            obtain ⟨n0, n1, n2, n3⟩ := (hnb.keeps hkp.out).four
            have hTr := hT.keeps hkp.out
            by_cases hlt : k < g.al i
            · obtain ⟨b1, o1, hTA, y0⟩ := hTr.at_ hlt
              subst hTA
              have hki : (k : Int) < g.al i := by omega
              by_cases ha : 0 ≤ g.a i k ∧ g.a i k < i
              · obtain ⟨ha0, ha1⟩ := ha
                obtain ⟨m, hm⟩ : ∃ m : Nat, (m : Int) = g.a i k := ⟨(g.a i k).toNat, by omega⟩
                have HA := Lib.hid (show 0 ≤ g.a i k ∧ g.a i k < i from ⟨ha0, ha1⟩)
                have hew : g.aw i k = g.W m := by unfold Nl.aw; rw [← hm, Int.toNat_natCast]
                have HEW := Lib.hid hew
                rw [← hm] at y0 ha0 ha1
                clear hm hew
                obtain ⟨b2, o2, hA2, _, x1, _⟩ := hgr.nodes.1.at4 (k := m) (by omega)
                rw [hA] at hA2
                obtain ⟨rfl, rfl⟩ : b = b2 ∧ o = o2 := by simpa using hA2
                simp only [qu] at x1
                have hmn : (m : Int) < g.nn := by omega
                clear hA2
                go_upto_region 12 with (fail)
                refine wp_region_z (fun w' => w'.cell? ⟨w.heap.size, 1, none⟩ = some (.slice (some ⟨b, o, none⟩) g.nn p.c1) ∧ w'.cell? ⟨bn, 3, none⟩ = some (.slice (some ⟨b1, o1, none⟩) (g.al i) (p.TC i)) ∧ w'.cell? ⟨b1, o1 + k, none⟩ = some (.int .i64 m) ∧ w'.cell? ⟨b, o + m * 4 + 1, none⟩ = some (.int .i64 (g.W m))) [0, 1, 2, 3, 4, 5, 6, 7, 8, 9, 10] [12, 13] (by kernel_rfl) (by kernel_rfl) (by kernel_rfl) (by rfl) (fun _ _ _ _ e h => ⟨e.symm.trans h.1, h.2⟩) ⟨g1, n3, y0, x1⟩ ?_
                iterate 11
                  refine Heads.step (v := ?_) rfl (by rfl) (fun W hW => ?_) ?_
                  rotate_left
                  · (obtain ⟨s0, s1, s2, s3⟩ := hW; go_simp; try with_reducible rfl)
                refine AnyZ.one (i := 11) (by kernel_rfl) rfl (fun K hK => ?_)
                go_simp
                refine hK _ _ (fun _ => ⟨Keeps.alloc _ _ _ _ g1, Keeps.alloc _ _ _ _ n3, Keeps.alloc _ _ _ _ y0, Keeps.alloc _ _ _ _ x1⟩) ?_
                clear hK
                refine AnyZ.one (i := 12) (by kernel_rfl) rfl (fun K hK => ?_)
                refine step_append (by rfl) (.tmp 70) (.tmp 81) _ (by rfl) elInt w2.heap.size B k c _ (by rfl) ((World.ownsRow.alloc H.own _).drew) _ 1 1 [.int .i64 (g.W m)] (by rfl) (Src.drew (src_new wr _ _ rfl)) (by omega) (by simp; omega) ?_
                intro B' c' w8 ho hk' hb'
                have ho2 : w8.ownsRow w2.heap.size 3 1 (.slice B' (k + 1) c') (k + 1) ((List.range (k + 1)).map fun j => .int .i64 (g.aw i j)) := by
                  rw [List.range_succ, List.map_append]
                  simpa [HEW.out] using ho
                have hG := Grow.push (Grow.alloc H _) ho2 (show Only (blockOf B) (wr.alloc _) w8 from ⟨hk'.os, hk'.tape, hk'.output, hk'.size, hk'.block⟩)
                refine hK _ _ (fun h => by cases h) ?_
                clear hK ho hk' hb'
                refine AnyZ.one (i := 13) (by kernel_rfl) rfl (fun K hK => ?_)
                go_simp
                refine hK _ _ (fun h => by cases h) (AnyZ.done (by kernel_rfl) ?_)
                clear hK
                go_wp2_with fail
                go_roundw
                case rel => exact ⟨k + 1, B', c', by omega, by go_num, rfl, hG, fun j hj => if e : j = k then e ▸ HA.out else HH.out j (by omega)⟩
                case measure => simp [intOf]; omega
              · have hne : tf (g.NodeOk i) = false := tf_no (fun h => ha (h.args k hlt))
                have HNE := Lib.hid hne
                have HBF := HB2.out.trans (H.bel.mono HB2.out.size)
                clear hne
                by_cases ha0 : 0 ≤ g.a i k
                · have ha1 : ¬ g.a i k < i := fun h => ha ⟨ha0, h⟩
                  clear ha
                  go_wp2_with fail
                  go_ret
                  exact ⟨congrArg (fun b => Ending.returned (Value.bool b)) HNE.out.symm, HBF⟩
                · clear ha
                  go_wp2_with fail
                  go_ret
                  exact ⟨congrArg (fun b => Ending.returned (Value.bool b)) HNE.out.symm, HBF⟩
            · obtain rfl : k = g.al i := by omega
              have hV : Row1 wr B (g.al i) (fun j => .int .i64 (g.aw i j)) := fun hn => by
                obtain ⟨b, off, e, hc⟩ := own_row1 H.own hn
                exact ⟨b, off, e, fun k hk => by rw [hc k hk]; simp [hk]⟩
              have HT : Hid (tf (g.NodeOk i) = tailB g i) := Lib.hid (tail_of HWD.out ⟨HK2.out, HCT.out⟩ HH.out)
              have HBF := HB2.out.trans (H.bel.mono HB2.out.size)
              obtain ⟨u, hue⟩ : ∃ u : Nat, (u : Int) = g.U i := ⟨(g.U i).toNat, by omega⟩
              have HU := Lib.hid hue
              rw [← hue] at n2
              clear hue
              have ew0 : Hid (IntKind.u64.wrap (g.n0 : Int) = g.n0) := Lib.hid <| by rw [IntKind.wrap_u64]; have := hfit.b0; omega
              have ew1 : Hid (IntKind.u64.wrap (g.nr : Int) = g.nr) := Lib.hid <| by rw [IntKind.wrap_u64]; have := hfit.b2; omega
              have ew2 : Hid (IntKind.u64.wrap (g.nm : Int) = g.nm) := Lib.hid <| by rw [IntKind.wrap_u64]; have := hfit.b3; omega
              by_cases hK : g.K i = 30
              · have eK : tailB g i = (decide (g.U i < g.n0) && g.In (g.U i).toNat == g.W i) := by unfold tailB; rw [hK]; rfl
                have HEK := Lib.hid eK; clear eK
                rw [hK] at n0
                by_cases hu : g.U i < g.n0
                · have hur : u < g.n0 := by have := HU.out; omega
                  obtain ⟨b3, o3, hA3, y3⟩ := hgr.inp.at_ hur
                  rw [hA3] at g0
                  have hpv : g.In (g.U i).toNat = g.In u := by rw [← HU.out]; rfl
                  have hu' : (u : Int) < g.n0 := by omega
                  have hu2 : (u : Int) < IntKind.u64.wrap (g.n0 : Int) := by rw [ew0.out]; omega
                  have HPV := Lib.hid hpv; have HHU := Lib.hid hu
                  clear hpv hu
                  go_wp2_with fail
                  go_quiet (fail)
                  go_wp2_with fail
                  go_ret
                  exact ⟨congrArg (fun b => Ending.returned (Value.bool b)) (by rw [HT.out, HEK.out, HPV.out, decide_eq_true (p := g.U i < g.n0) (by have := HHU.out; omega), Bool.true_and]), below_drewN HBF _⟩
                · have hu2 : decide ((u : Int) < IntKind.u64.wrap (g.n0 : Int)) = false := by rw [ew0.out]; have := HU.out; simp; omega
                  have HHU := Lib.hid hu
                  clear hu
                  go_wp2_with fail
                  go_quiet (fail)
                  go_wp2_with fail
                  go_ret
                  exact ⟨congrArg (fun b => Ending.returned (Value.bool b)) (by rw [HT.out, HEK.out, decide_eq_false (p := g.U i < g.n0) (by have := HHU.out; omega), Bool.false_and]), below_drewN HBF _⟩
              by_cases hK1 : g.K i = 31
              · have hK := hK1
                have eK : tailB g i = (decide (g.U i < g.nr) && g.RW (g.U i).toNat == g.W i) := by unfold tailB; rw [hK]; rfl
                have HEK := Lib.hid eK; clear eK
                rw [hK] at n0
                by_cases hu : g.U i < g.nr
                · have hur : u < g.nr := by have := HU.out; omega
                  obtain ⟨b3, o3, hA3, y3, _, _⟩ := hgr.regs.at3 hur
                  simp only [qu] at y3
                  rw [hA3] at g2
                  have hpv : g.RW (g.U i).toNat = g.RW u := by rw [← HU.out]; rfl
                  have hu' : (u : Int) < g.nr := by omega
                  have hu2 : (u : Int) < IntKind.u64.wrap (g.nr : Int) := by rw [ew1.out]; omega
                  have HPV := Lib.hid hpv; have HHU := Lib.hid hu
                  clear hpv hu
                  go_wp2_with fail
                  go_quiet (fail)
                  go_wp2_with fail
                  go_ret
                  exact ⟨congrArg (fun b => Ending.returned (Value.bool b)) (by rw [HT.out, HEK.out, HPV.out, decide_eq_true (p := g.U i < g.nr) (by have := HHU.out; omega), Bool.true_and]), below_drewN HBF _⟩
                · have hu2 : decide ((u : Int) < IntKind.u64.wrap (g.nr : Int)) = false := by rw [ew1.out]; have := HU.out; simp; omega
                  have HHU := Lib.hid hu
                  clear hu
                  go_wp2_with fail
                  go_quiet (fail)
                  go_wp2_with fail
                  go_ret
                  exact ⟨congrArg (fun b => Ending.returned (Value.bool b)) (by rw [HT.out, HEK.out, decide_eq_false (p := g.U i < g.nr) (by have := HHU.out; omega), Bool.false_and]), below_drewN HBF _⟩
              by_cases hK2 : g.K i = 32
              · have hK := hK2
                have eK : tailB g i = (decide (g.U i < g.nm) && g.MW (g.U i).toNat == g.W i) := by unfold tailB; rw [hK]; rfl
                have HEK := Lib.hid eK; clear eK
                rw [hK] at n0
                by_cases hu : g.U i < g.nm
                · have hur : u < g.nm := by have := HU.out; omega
                  obtain ⟨b3, o3, hA3, y3, _⟩ := hgr.mems.at2 hur
                  simp only [two] at y3
                  rw [hA3] at g3
                  have hpv : g.MW (g.U i).toNat = g.MW u := by rw [← HU.out]; rfl
                  have hu' : (u : Int) < g.nm := by omega
                  have hu2 : (u : Int) < IntKind.u64.wrap (g.nm : Int) := by rw [ew2.out]; omega
                  have HPV := Lib.hid hpv; have HHU := Lib.hid hu
                  clear hpv hu
                  go_wp2_with fail
                  go_quiet (fail)
                  go_wp2_with fail
                  go_ret
                  exact ⟨congrArg (fun b => Ending.returned (Value.bool b)) (by rw [HT.out, HEK.out, HPV.out, decide_eq_true (p := g.U i < g.nm) (by have := HHU.out; omega), Bool.true_and]), below_drewN HBF _⟩
                · have hu2 : decide ((u : Int) < IntKind.u64.wrap (g.nm : Int)) = false := by rw [ew2.out]; have := HU.out; simp; omega
                  have HHU := Lib.hid hu
                  clear hu
                  go_wp2_with fail
                  go_quiet (fail)
                  go_wp2_with fail
                  go_ret
                  exact ⟨congrArg (fun b => Ending.returned (Value.bool b)) (by rw [HT.out, HEK.out, decide_eq_false (p := g.U i < g.nm) (by have := HHU.out; omega), Bool.false_and]), below_drewN HBF _⟩
              have f30 : (g.K i == 30) = false := by simpa using hK
              have f31 : (g.K i == 31) = false := by simpa using hK1
              have f32 : (g.K i == 32) = false := by simpa using hK2
              have hKN : KindN (g.K i) (g.al i) := ⟨HK2.out, ⟨hK, hK1, hK2⟩, HCT.out.1, HCT.out.2⟩
              have HC := Lib.hid (fits_any (g.K i) (g.W i) (u : Int) TAi B (g.al i) (p.TC i) (g.al i) c (g.aw i) wr hV (by omega) hKN)
              have eT : tailB g i = if g.K i = 1 ∨ g.K i = 5 then fitB (g.K i) (g.W i) (u : Int) (g.aw i) (g.al i) else (u : Int) == 0 && fitB (g.K i) (g.W i) (u : Int) (g.aw i) (g.al i) := by
                rw [HU.out]; unfold tailB; rw [if_neg hK, if_neg hK1, if_neg hK2]
              have HET := Lib.hid eT
              clear eT hKN hK hK1 hK2 hV
              by_cases hK3 : g.K i = 1 ∨ g.K i = 5
              · have HK3 := Lib.hid hK3
                have f1 : (g.K i == 1) = true ∨ ((g.K i == 1) = false ∧ (g.K i == 5) = true) := by rcases hK3 with h | h <;> rw [h] <;> decide
                clear hK3
                rcases f1 with f1 | ⟨f1, f5⟩
                · go_wp2_with fail
                  refine HC.out.mono ?_
                  rintro e w8 ⟨rfl, hb8⟩
                  go_wp2_with fail
                  go_ret
                  exact ⟨congrArg (fun b => Ending.returned (Value.bool b)) (by rw [HT.out, HET.out, if_pos HK3.out]), Below.then_call HBF hb8 HBF.size⟩
                · go_wp2_with fail
                  refine HC.out.mono ?_
                  rintro e w8 ⟨rfl, hb8⟩
                  go_wp2_with fail
                  go_ret
                  exact ⟨congrArg (fun b => Ending.returned (Value.bool b)) (by rw [HT.out, HET.out, if_pos HK3.out]), Below.then_call HBF hb8 HBF.size⟩
              · have HK3 := Lib.hid hK3
                have f1 : (g.K i == 1) = false := by rw [beq_eq_false_iff_ne]; exact fun h => hK3 (.inl h)
                have f5 : (g.K i == 5) = false := by rw [beq_eq_false_iff_ne]; exact fun h => hK3 (.inr h)
                clear hK3
                cases hu0 : ((u : Int) == 0)
                · have HU0 := Lib.hid hu0
                  have hu0' : ¬ (u : Int) = 0 := by simpa using hu0
                  go_wp2_with fail
                  go_ret
                  exact ⟨congrArg (fun b => Ending.returned (Value.bool b)) (by rw [HT.out, HET.out, if_neg HK3.out, HU0.out, Bool.false_and]), HBF⟩
                · have HU0 := Lib.hid hu0
                  go_wp2_with fail
                  refine HC.out.mono ?_
                  rintro e w8 ⟨rfl, hb8⟩
                  go_wp2_with fail
                  go_ret
                  exact ⟨congrArg (fun b => Ending.returned (Value.bool b)) (by rw [HT.out, HET.out, if_neg HK3.out, HU0.out, Bool.true_and]), Below.then_call HBF hb8 HBF.size⟩
        · have HC := Lib.hid hc
          have HNE := Lib.hid (show tf (g.NodeOk i) = false from tf_no (fun h => HC.out (by rw [HN.out]; exact h.count.2.1 (by rw [← HN.out]; exact hN0))))
          have e1 : ((g.al i : Int) != N) = true := by simpa using hc
          clear hc
          go_wp2_with fail
          refine (width_any _ _).mono ?_
          rintro e w7 ⟨rfl, rfl⟩
          rw [HWD.out]
          go_wp2_with fail
          refine (want_any _ _).mono ?_
          rintro e w7 ⟨rfl, rfl⟩
          rw [← HN.out]
          go_wp2_with fail
          go_ret
          exact ⟨congrArg (fun b => Ending.returned (Value.bool b)) HNE.out.symm, HB2.out⟩
      · have hN1 : N = -1 := by
          have h1 := HK2.out; rw [← HN.out] at h1
          have h2 := HN.out; unfold wantN at h2
          split at h2
          · omega
          · split at h2
            · omega
            · split at h2
              · omega
              · split at h2
                · omega
                · split at h2 <;> omega
        have e3 : (N == -1) = true := by simpa using hN1
        have HN1 := Lib.hid hN1
        clear hN1
        by_cases hc : 0 < g.al i
        · have HCT : Hid ((0 ≤ wantN (g.K i) → (g.al i : Int) = wantN (g.K i)) ∧ (wantN (g.K i) = -1 → 0 < g.al i)) := Lib.hid (by rw [← HN.out]; exact ⟨fun h => by omega, fun _ => hc⟩)
          have e1 : ((g.al i : Int) == 0) = false := by simp; omega
          go_wp2_with fail
          refine (width_any _ _).mono ?_
          rintro e w7 ⟨rfl, rfl⟩
          rw [HWD.out]
          go_wp2_with fail
          refine (want_any _ _).mono ?_
          rintro e w7 ⟨rfl, rfl⟩
          rw [← HN.out]
          go_wp2_with fail
          go_loopw [8, 9] (fun v ix wr => ∃ (k : Nat) (B : Option Addr) (c : Nat), k ≤ g.al i ∧ ix = .int .i64 k ∧ v = .slice B k c ∧ Grow w2 3 1 B k c ((List.range k).map fun j => .int .i64 (g.aw i j)) wr ∧ Hid (∀ j, j < k → 0 ≤ g.a i j ∧ g.a i j < i)) (fun _ ix _ => g.al i - (intOf ix).toNat)
          case atStart => exact ⟨0, none, 0, by omega, rfl, rfl, Grow.start _ _ _, fun j hj => by omega⟩
          case round =>
            obtain ⟨k, B, c, hkk, rfl, rfl, H, HH⟩ := hrel
            have hkp := Lib.hid (Grow.keeps H)
            have hsz := H.size
            have hgr := hg2.keeps hkp.out
            obtain ⟨g0, g1, g2, g3, g4, g5⟩ := (hbx2.keeps hkp.out).six
            rw [hA] at g1
            obtain ⟨n0, n1, n2, n3⟩ := (hnb.keeps hkp.out).four
            have hTr := hT.keeps hkp.out
            by_cases hlt : k < g.al i
            · obtain ⟨b1, o1, hTA, y0⟩ := hTr.at_ hlt
              subst hTA
              have hki : (k : Int) < g.al i := by omega
              by_cases ha : 0 ≤ g.a i k ∧ g.a i k < i
              · obtain ⟨ha0, ha1⟩ := ha
                obtain ⟨m, hm⟩ : ∃ m : Nat, (m : Int) = g.a i k := ⟨(g.a i k).toNat, by omega⟩
                have HA := Lib.hid (show 0 ≤ g.a i k ∧ g.a i k < i from ⟨ha0, ha1⟩)
                have hew : g.aw i k = g.W m := by unfold Nl.aw; rw [← hm, Int.toNat_natCast]
                have HEW := Lib.hid hew
                rw [← hm] at y0 ha0 ha1
                clear hm hew
                obtain ⟨b2, o2, hA2, _, x1, _⟩ := hgr.nodes.1.at4 (k := m) (by omega)
                rw [hA] at hA2
                obtain ⟨rfl, rfl⟩ : b = b2 ∧ o = o2 := by simpa using hA2
                simp only [qu] at x1
                have hmn : (m : Int) < g.nn := by omega
                clear hA2
                go_upto_region 12 with (fail)
                refine wp_region_z (fun w' => w'.cell? ⟨w.heap.size, 1, none⟩ = some (.slice (some ⟨b, o, none⟩) g.nn p.c1) ∧ w'.cell? ⟨bn, 3, none⟩ = some (.slice (some ⟨b1, o1, none⟩) (g.al i) (p.TC i)) ∧ w'.cell? ⟨b1, o1 + k, none⟩ = some (.int .i64 m) ∧ w'.cell? ⟨b, o + m * 4 + 1, none⟩ = some (.int .i64 (g.W m))) [0, 1, 2, 3, 4, 5, 6, 7, 8, 9, 10] [12, 13] (by kernel_rfl) (by kernel_rfl) (by kernel_rfl) (by rfl) (fun _ _ _ _ e h => ⟨e.symm.trans h.1, h.2⟩) ⟨g1, n3, y0, x1⟩ ?_
                iterate 11
                  refine Heads.step (v := ?_) rfl (by rfl) (fun W hW => ?_) ?_
                  rotate_left
                  · (obtain ⟨s0, s1, s2, s3⟩ := hW; go_simp; try with_reducible rfl)
                refine AnyZ.one (i := 11) (by kernel_rfl) rfl (fun K hK => ?_)
                go_simp
                refine hK _ _ (fun _ => ⟨Keeps.alloc _ _ _ _ g1, Keeps.alloc _ _ _ _ n3, Keeps.alloc _ _ _ _ y0, Keeps.alloc _ _ _ _ x1⟩) ?_
                clear hK
                refine AnyZ.one (i := 12) (by kernel_rfl) rfl (fun K hK => ?_)
                refine step_append (by rfl) (.tmp 70) (.tmp 81) _ (by rfl) elInt w2.heap.size B k c _ (by rfl) ((World.ownsRow.alloc H.own _).drew) _ 1 1 [.int .i64 (g.W m)] (by rfl) (Src.drew (src_new wr _ _ rfl)) (by omega) (by simp; omega) ?_
                intro B' c' w8 ho hk' hb'
                have ho2 : w8.ownsRow w2.heap.size 3 1 (.slice B' (k + 1) c') (k + 1) ((List.range (k + 1)).map fun j => .int .i64 (g.aw i j)) := by
                  rw [List.range_succ, List.map_append]
                  simpa [HEW.out] using ho
                have hG := Grow.push (Grow.alloc H _) ho2 (show Only (blockOf B) (wr.alloc _) w8 from ⟨hk'.os, hk'.tape, hk'.output, hk'.size, hk'.block⟩)
                refine hK _ _ (fun h => by cases h) ?_
                clear hK ho hk' hb'
                refine AnyZ.one (i := 13) (by kernel_rfl) rfl (fun K hK => ?_)
                go_simp
                refine hK _ _ (fun h => by cases h) (AnyZ.done (by kernel_rfl) ?_)
                clear hK
                go_wp2_with fail
                go_roundw
                case rel => exact ⟨k + 1, B', c', by omega, by go_num, rfl, hG, fun j hj => if e : j = k then e ▸ HA.out else HH.out j (by omega)⟩
                case measure => simp [intOf]; omega
              · have hne : tf (g.NodeOk i) = false := tf_no (fun h => ha (h.args k hlt))
                have HNE := Lib.hid hne
                have HBF := HB2.out.trans (H.bel.mono HB2.out.size)
                clear hne
                by_cases ha0 : 0 ≤ g.a i k
                · have ha1 : ¬ g.a i k < i := fun h => ha ⟨ha0, h⟩
                  clear ha
                  go_wp2_with fail
                  go_ret
                  exact ⟨congrArg (fun b => Ending.returned (Value.bool b)) HNE.out.symm, HBF⟩
                · clear ha
                  go_wp2_with fail
                  go_ret
                  exact ⟨congrArg (fun b => Ending.returned (Value.bool b)) HNE.out.symm, HBF⟩
            · obtain rfl : k = g.al i := by omega
              have hV : Row1 wr B (g.al i) (fun j => .int .i64 (g.aw i j)) := fun hn => by
                obtain ⟨b, off, e, hc⟩ := own_row1 H.own hn
                exact ⟨b, off, e, fun k hk => by rw [hc k hk]; simp [hk]⟩
              have HT : Hid (tf (g.NodeOk i) = tailB g i) := Lib.hid (tail_of HWD.out ⟨HK2.out, HCT.out⟩ HH.out)
              have HBF := HB2.out.trans (H.bel.mono HB2.out.size)
              obtain ⟨u, hue⟩ : ∃ u : Nat, (u : Int) = g.U i := ⟨(g.U i).toNat, by omega⟩
              have HU := Lib.hid hue
              rw [← hue] at n2
              clear hue
              have ew0 : Hid (IntKind.u64.wrap (g.n0 : Int) = g.n0) := Lib.hid <| by rw [IntKind.wrap_u64]; have := hfit.b0; omega
              have ew1 : Hid (IntKind.u64.wrap (g.nr : Int) = g.nr) := Lib.hid <| by rw [IntKind.wrap_u64]; have := hfit.b2; omega
              have ew2 : Hid (IntKind.u64.wrap (g.nm : Int) = g.nm) := Lib.hid <| by rw [IntKind.wrap_u64]; have := hfit.b3; omega
              by_cases hK : g.K i = 30
              · have eK : tailB g i = (decide (g.U i < g.n0) && g.In (g.U i).toNat == g.W i) := by unfold tailB; rw [hK]; rfl
                have HEK := Lib.hid eK; clear eK
                rw [hK] at n0
                by_cases hu : g.U i < g.n0
                · have hur : u < g.n0 := by have := HU.out; omega
                  obtain ⟨b3, o3, hA3, y3⟩ := hgr.inp.at_ hur
                  rw [hA3] at g0
                  have hpv : g.In (g.U i).toNat = g.In u := by rw [← HU.out]; rfl
                  have hu' : (u : Int) < g.n0 := by omega
                  have hu2 : (u : Int) < IntKind.u64.wrap (g.n0 : Int) := by rw [ew0.out]; omega
                  have HPV := Lib.hid hpv; have HHU := Lib.hid hu
                  clear hpv hu
                  go_wp2_with fail
                  go_quiet (fail)
                  go_wp2_with fail
                  go_ret
                  exact ⟨congrArg (fun b => Ending.returned (Value.bool b)) (by rw [HT.out, HEK.out, HPV.out, decide_eq_true (p := g.U i < g.n0) (by have := HHU.out; omega), Bool.true_and]), below_drewN HBF _⟩
                · have hu2 : decide ((u : Int) < IntKind.u64.wrap (g.n0 : Int)) = false := by rw [ew0.out]; have := HU.out; simp; omega
                  have HHU := Lib.hid hu
                  clear hu
                  go_wp2_with fail
                  go_quiet (fail)
                  go_wp2_with fail
                  go_ret
                  exact ⟨congrArg (fun b => Ending.returned (Value.bool b)) (by rw [HT.out, HEK.out, decide_eq_false (p := g.U i < g.n0) (by have := HHU.out; omega), Bool.false_and]), below_drewN HBF _⟩
              by_cases hK1 : g.K i = 31
              · have hK := hK1
                have eK : tailB g i = (decide (g.U i < g.nr) && g.RW (g.U i).toNat == g.W i) := by unfold tailB; rw [hK]; rfl
                have HEK := Lib.hid eK; clear eK
                rw [hK] at n0
                by_cases hu : g.U i < g.nr
                · have hur : u < g.nr := by have := HU.out; omega
                  obtain ⟨b3, o3, hA3, y3, _, _⟩ := hgr.regs.at3 hur
                  simp only [qu] at y3
                  rw [hA3] at g2
                  have hpv : g.RW (g.U i).toNat = g.RW u := by rw [← HU.out]; rfl
                  have hu' : (u : Int) < g.nr := by omega
                  have hu2 : (u : Int) < IntKind.u64.wrap (g.nr : Int) := by rw [ew1.out]; omega
                  have HPV := Lib.hid hpv; have HHU := Lib.hid hu
                  clear hpv hu
                  go_wp2_with fail
                  go_quiet (fail)
                  go_wp2_with fail
                  go_ret
                  exact ⟨congrArg (fun b => Ending.returned (Value.bool b)) (by rw [HT.out, HEK.out, HPV.out, decide_eq_true (p := g.U i < g.nr) (by have := HHU.out; omega), Bool.true_and]), below_drewN HBF _⟩
                · have hu2 : decide ((u : Int) < IntKind.u64.wrap (g.nr : Int)) = false := by rw [ew1.out]; have := HU.out; simp; omega
                  have HHU := Lib.hid hu
                  clear hu
                  go_wp2_with fail
                  go_quiet (fail)
                  go_wp2_with fail
                  go_ret
                  exact ⟨congrArg (fun b => Ending.returned (Value.bool b)) (by rw [HT.out, HEK.out, decide_eq_false (p := g.U i < g.nr) (by have := HHU.out; omega), Bool.false_and]), below_drewN HBF _⟩
              by_cases hK2 : g.K i = 32
              · have hK := hK2
                have eK : tailB g i = (decide (g.U i < g.nm) && g.MW (g.U i).toNat == g.W i) := by unfold tailB; rw [hK]; rfl
                have HEK := Lib.hid eK; clear eK
                rw [hK] at n0
                by_cases hu : g.U i < g.nm
                · have hur : u < g.nm := by have := HU.out; omega
                  obtain ⟨b3, o3, hA3, y3, _⟩ := hgr.mems.at2 hur
                  simp only [two] at y3
                  rw [hA3] at g3
                  have hpv : g.MW (g.U i).toNat = g.MW u := by rw [← HU.out]; rfl
                  have hu' : (u : Int) < g.nm := by omega
                  have hu2 : (u : Int) < IntKind.u64.wrap (g.nm : Int) := by rw [ew2.out]; omega
                  have HPV := Lib.hid hpv; have HHU := Lib.hid hu
                  clear hpv hu
                  go_wp2_with fail
                  go_quiet (fail)
                  go_wp2_with fail
                  go_ret
                  exact ⟨congrArg (fun b => Ending.returned (Value.bool b)) (by rw [HT.out, HEK.out, HPV.out, decide_eq_true (p := g.U i < g.nm) (by have := HHU.out; omega), Bool.true_and]), below_drewN HBF _⟩
                · have hu2 : decide ((u : Int) < IntKind.u64.wrap (g.nm : Int)) = false := by rw [ew2.out]; have := HU.out; simp; omega
                  have HHU := Lib.hid hu
                  clear hu
                  go_wp2_with fail
                  go_quiet (fail)
                  go_wp2_with fail
                  go_ret
                  exact ⟨congrArg (fun b => Ending.returned (Value.bool b)) (by rw [HT.out, HEK.out, decide_eq_false (p := g.U i < g.nm) (by have := HHU.out; omega), Bool.false_and]), below_drewN HBF _⟩
              have f30 : (g.K i == 30) = false := by simpa using hK
              have f31 : (g.K i == 31) = false := by simpa using hK1
              have f32 : (g.K i == 32) = false := by simpa using hK2
              have hKN : KindN (g.K i) (g.al i) := ⟨HK2.out, ⟨hK, hK1, hK2⟩, HCT.out.1, HCT.out.2⟩
              have HC := Lib.hid (fits_any (g.K i) (g.W i) (u : Int) TAi B (g.al i) (p.TC i) (g.al i) c (g.aw i) wr hV (by omega) hKN)
              have eT : tailB g i = if g.K i = 1 ∨ g.K i = 5 then fitB (g.K i) (g.W i) (u : Int) (g.aw i) (g.al i) else (u : Int) == 0 && fitB (g.K i) (g.W i) (u : Int) (g.aw i) (g.al i) := by
                rw [HU.out]; unfold tailB; rw [if_neg hK, if_neg hK1, if_neg hK2]
              have HET := Lib.hid eT
              clear eT hKN hK hK1 hK2 hV
              by_cases hK3 : g.K i = 1 ∨ g.K i = 5
              · have HK3 := Lib.hid hK3
                have f1 : (g.K i == 1) = true ∨ ((g.K i == 1) = false ∧ (g.K i == 5) = true) := by rcases hK3 with h | h <;> rw [h] <;> decide
                clear hK3
                rcases f1 with f1 | ⟨f1, f5⟩
                · go_wp2_with fail
                  refine HC.out.mono ?_
                  rintro e w8 ⟨rfl, hb8⟩
                  go_wp2_with fail
                  go_ret
                  exact ⟨congrArg (fun b => Ending.returned (Value.bool b)) (by rw [HT.out, HET.out, if_pos HK3.out]), Below.then_call HBF hb8 HBF.size⟩
                · go_wp2_with fail
                  refine HC.out.mono ?_
                  rintro e w8 ⟨rfl, hb8⟩
                  go_wp2_with fail
                  go_ret
                  exact ⟨congrArg (fun b => Ending.returned (Value.bool b)) (by rw [HT.out, HET.out, if_pos HK3.out]), Below.then_call HBF hb8 HBF.size⟩
              · have HK3 := Lib.hid hK3
                have f1 : (g.K i == 1) = false := by rw [beq_eq_false_iff_ne]; exact fun h => hK3 (.inl h)
                have f5 : (g.K i == 5) = false := by rw [beq_eq_false_iff_ne]; exact fun h => hK3 (.inr h)
                clear hK3
                cases hu0 : ((u : Int) == 0)
                · have HU0 := Lib.hid hu0
                  have hu0' : ¬ (u : Int) = 0 := by simpa using hu0
                  go_wp2_with fail
                  go_ret
                  exact ⟨congrArg (fun b => Ending.returned (Value.bool b)) (by rw [HT.out, HET.out, if_neg HK3.out, HU0.out, Bool.false_and]), HBF⟩
                · have HU0 := Lib.hid hu0
                  go_wp2_with fail
                  refine HC.out.mono ?_
                  rintro e w8 ⟨rfl, hb8⟩
                  go_wp2_with fail
                  go_ret
                  exact ⟨congrArg (fun b => Ending.returned (Value.bool b)) (by rw [HT.out, HET.out, if_neg HK3.out, HU0.out, Bool.true_and]), Below.then_call HBF hb8 HBF.size⟩
        · have HC := Lib.hid hc
          have HNE := Lib.hid (show tf (g.NodeOk i) = false from tf_no (fun h => HC.out (h.count.2.2 (by rw [← HN.out]; exact HN1.out))))
          have e1 : ((g.al i : Int) == 0) = true := by simp; omega
          go_wp2_with fail
          refine (width_any _ _).mono ?_
          rintro e w7 ⟨rfl, rfl⟩
          rw [HWD.out]
          go_wp2_with fail
          refine (want_any _ _).mono ?_
          rintro e w7 ⟨rfl, rfl⟩
          rw [← HN.out]
          go_wp2_with fail
          go_ret
          exact ⟨congrArg (fun b => Ending.returned (Value.bool b)) HNE.out.symm, HB2.out⟩
end Go.Proofs.Ytmbcfondglhiiaa
