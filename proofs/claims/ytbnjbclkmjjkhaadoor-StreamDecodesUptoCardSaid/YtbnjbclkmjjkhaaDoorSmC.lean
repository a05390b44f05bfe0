/- sameConfig, walked: two configurations of the same numbers are the same. Condition: both lie in memory. -/
import Derived.Test.YtbnjbclkmjjkhaaDoorDkY
namespace Go.Proofs.YtbnjbclkmjjkhaaDoor
open Go.RowKit Go.Shelf Go.Deep

theorem four_same (a b c d : Int) (w : World) : (Op.equalIn 9999 51 (.agg #[.int .i64 a, .int .i64 b, .int .i64 c, .int .i64 d]) (.agg #[.int .i64 a, .int .i64 b, .int .i64 c, .int .i64 d])).run Tryd.prog w = .ok true w := by
  have u3 := Tryd.underlying3
  have a3 := Tryd.isAgg3
  have z3 := Tryd.sizeOf3
  rw [show (9999 : Nat) = 9998 + 1 from rfl, Op.equalIn]
  simp only [Sem.run_bind, run_underlying Tryd.underlying51, Result.andThen_ok]
  simp only [Std.Legacy.Range.forIn_eq_forIn_range', Std.Legacy.Range.size, Nat.sub_zero, Nat.add_sub_cancel, Nat.div_one, List.range'_succ, List.range'_zero, List.forIn_cons, List.forIn_nil]
  go_simp

set_option maxRecDepth 100000 in
set_option maxHeartbeats 8000000 in
theorem sameConfig_any (c : Cf) (AC AR AO AC' AR' AO' : Option Addr) (cC cR cO cC' cR' cO' : Nat) (CA CA' : Nat → Option Addr) (cc cc' : Nat → Nat) (w : World) (h1 : (c.lay AC AR AO cC cR cO CA cc).At w) (h2 : (c.lay AC' AR' AO' cC' cR' cO' CA' cc').At w) (hf : c.Fits) :
    Calls Tryd.prog 12 #[.agg #[.int .i64 (c.sh 0), .int .i64 (c.sh 1), .int .i64 (c.sh 2), .int .i64 (c.sh 3), .int .i64 (c.sh 4), .slice AC c.nc cC, .slice AR c.nr cR, .slice AO c.no cO], .agg #[.int .i64 (c.sh 0), .int .i64 (c.sh 1), .int .i64 (c.sh 2), .int .i64 (c.sh 3), .int .i64 (c.sh 4), .slice AC' c.nc cC', .slice AR' c.nr cR', .slice AO' c.no cO']] w fun e w' => e = .returned (.bool true) ∧ Below w.heap.size w w' := by
  have H1 := Lib.hid h1; have H2 := Lib.hid h2
  have f1 := hf.b1; have f3 := hf.b3; have f4 := hf.b4
  have HFT := Lib.hid hf
  clear h1 h2 hf
  go_enter Tryd.func12, Tryd.ntmps12
  go_upto_region 1 with (fail)
  have r1 := heap_alloc_new w (.cells #[.int .i64 (c.sh 0), .int .i64 (c.sh 1), .int .i64 (c.sh 2), .int .i64 (c.sh 3), .int .i64 (c.sh 4), .slice AC c.nc cC, .slice AR c.nr cR, .slice AO c.no cO] 31)
  have e1 : Below w.heap.size w (w.alloc (.cells #[.int .i64 (c.sh 0), .int .i64 (c.sh 1), .int .i64 (c.sh 2), .int .i64 (c.sh 3), .int .i64 (c.sh 4), .slice AC c.nc cC, .slice AR c.nr cR, .slice AO c.no cO] 31)) := (Below.refl _ _).alloc (Nat.le_refl _) _
  have z1 : (w.alloc (.cells #[.int .i64 (c.sh 0), .int .i64 (c.sh 1), .int .i64 (c.sh 2), .int .i64 (c.sh 3), .int .i64 (c.sh 4), .slice AC c.nc cC, .slice AR c.nr cR, .slice AO c.no cO] 31)).heap.size = w.heap.size + 1 := by simp
  generalize w.alloc (.cells #[.int .i64 (c.sh 0), .int .i64 (c.sh 1), .int .i64 (c.sh 2), .int .i64 (c.sh 3), .int .i64 (c.sh 4), .slice AC c.nc cC, .slice AR c.nr cR, .slice AO c.no cO] 31) = w1 at *
  have r2 := heap_alloc_new w1 (.cells #[.int .i64 (c.sh 0), .int .i64 (c.sh 1), .int .i64 (c.sh 2), .int .i64 (c.sh 3), .int .i64 (c.sh 4), .slice AC' c.nc cC', .slice AR' c.nr cR', .slice AO' c.no cO'] 31)
  have e2 : Below w1.heap.size w1 (w1.alloc (.cells #[.int .i64 (c.sh 0), .int .i64 (c.sh 1), .int .i64 (c.sh 2), .int .i64 (c.sh 3), .int .i64 (c.sh 4), .slice AC' c.nc cC', .slice AR' c.nr cR', .slice AO' c.no cO'] 31)) := (Below.refl _ _).alloc (Nat.le_refl _) _
  generalize w1.alloc (.cells #[.int .i64 (c.sh 0), .int .i64 (c.sh 1), .int .i64 (c.sh 2), .int .i64 (c.sh 3), .int .i64 (c.sh 4), .slice AC' c.nc cC', .slice AR' c.nr cR', .slice AO' c.no cO'] 31) = v at *
  rw [z1] at r2
  have HR1 := Lib.hid (heap_below e2 r1); have HR2 := Lib.hid r2
  have hvw := e1.trans (e2.mono (by omega))
  have HB := Lib.hid hvw
  replace H1 := Lib.hid (H1.out.keeps (Keeps.of_below hvw)); replace H2 := Lib.hid (H2.out.keeps (Keeps.of_below hvw))
  have hzv := hvw.size
  clear r1 r2 e1 e2 z1 hvw
  clear w1
  obtain ⟨⟨a0, a1, a2, a3, a4, a5, a6, a7⟩, _⟩ := cells8 (heap_below (Below.refl _ v) HR1.out); obtain ⟨⟨b0, b1, b2, b3, b4, b5, b6, b7⟩, _⟩ := cells8 (heap_below (Below.refl _ v) HR2.out)
  go_wp2_with fail
  clear a0 a1 a2 a3 a4 a5 a6 a7 b0 b1 b2 b3 b4 b5 b6 b7
  go_loopw [5] (fun vi wr => ∃ i : Nat, i ≤ c.nc ∧ vi = .int .i64 i ∧ Hid (Below v.heap.size v wr)) (fun vi _ => c.nc - (intOf vi).toNat)
  case atStart => exact ⟨0, by omega, rfl, Lib.hid (Below.refl _ _)⟩
  case round =>
    obtain ⟨i, hi, rfl, HO⟩ := hrel
    obtain ⟨wo, hwo⟩ : ∃ x, x = wr := ⟨_, rfl⟩
    subst hwo
    obtain ⟨⟨a0, a1, a2, a3, a4, a5, a6, a7⟩, _⟩ := cells8 (heap_below HO.out HR1.out); obtain ⟨⟨b0, b1, b2, b3, b4, b5, b6, b7⟩, _⟩ := cells8 (heap_below HO.out HR2.out)
    by_cases hlt : i < c.nc
    · have hra := HFT.out.b2 i hlt
      obtain ⟨ba, oa, eA, x0⟩ := H1.out.cols.at_ hlt
      have eA : AC = some ⟨ba, oa, none⟩ := eA
      subst eA
      obtain ⟨bb, ob, eB, y0⟩ := H2.out.cols.at_ hlt
      have eB : AC' = some ⟨bb, ob, none⟩ := eB
      subst eB
      have HX0 : Hid (v.cell? ⟨ba, oa + i, none⟩ = some (.slice (CA i) (c.rows i) (cc i))) := Lib.hid x0
      have HY0 : Hid (v.cell? ⟨bb, ob + i, none⟩ = some (.slice (CA' i) (c.rows i) (cc' i))) := Lib.hid y0
      replace x0 : wo.cell? ⟨ba, oa + i, none⟩ = some (.slice (CA i) (c.rows i) (cc i)) := (Keeps.of_below HO.out) _ _ x0
      replace y0 : wo.cell? ⟨bb, ob + i, none⟩ = some (.slice (CA' i) (c.rows i) (cc' i)) := (Keeps.of_below HO.out) _ _ y0
      obtain ⟨P, hP⟩ : ∃ P, CA i = P := ⟨_, rfl⟩
      obtain ⟨Q, hQ⟩ : ∃ Q, CA' i = Q := ⟨_, rfl⟩
      obtain ⟨p, hp⟩ : ∃ p, cc i = p := ⟨_, rfl⟩
      obtain ⟨q, hq⟩ : ∃ q, cc' i = q := ⟨_, rfl⟩
      rw [hP, hp] at x0 HX0
      rw [hQ, hq] at y0 HY0
      have HP := Lib.hid hP; have HQ := Lib.hid hQ
      clear hP hQ hp hq
      go_wp2_with fail
      refine wp_region_z (fun w' => w'.cell? ⟨w.heap.size, 5, none⟩ = some (.slice (some ⟨ba, oa, none⟩) c.nc cC) ∧ w'.cell? ⟨w.heap.size + 1, 5, none⟩ = some (.slice (some ⟨bb, ob, none⟩) c.nc cC') ∧ w'.cell? ⟨ba, oa + i, none⟩ = some (.slice P (c.rows i) p) ∧ w'.cell? ⟨bb, ob + i, none⟩ = some (.slice Q (c.rows i) q)) [0, 1, 2, 3, 4, 5, 6, 7, 8, 9, 10, 11, 12] [] (by kernel_rfl) (by kernel_rfl) (by kernel_rfl) (by rfl) (fun _ _ _ _ e h => ⟨e.symm.trans h.1, h.2⟩) ⟨a5, b5, x0, y0⟩ ?_
      iterate 13
        refine Heads.step (v := ?_) rfl (by first | (go_simp; done) | rfl) (fun W hW => ?_) ?_
        rotate_left
        · (obtain ⟨t0, t1, t2, t3⟩ := hW; go_simp; try with_reducible rfl)
      refine AnyZ.done (by kernel_rfl) ?_
      go_simp
      have HOd := Lib.hid HO.out.drew
      clear a0 a1 a2 a3 a4 a5 a6 a7 b0 b1 b2 b3 b4 b5 b6 b7
      generalize wo.drew = wd at *
      replace x0 := (Keeps.of_below HOd.out) _ _ HX0.out
      replace y0 := (Keeps.of_below HOd.out) _ _ HY0.out
      obtain ⟨⟨a0, a1, a2, a3, a4, a5, a6, a7⟩, _⟩ := cells8 (heap_below HOd.out HR1.out); obtain ⟨⟨b0, b1, b2, b3, b4, b5, b6, b7⟩, _⟩ := cells8 (heap_below HOd.out HR2.out)
      go_wp2_with fail
      clear a0 a1 a2 a3 a4 a5 a6 a7 b0 b1 b2 b3 b4 b5 b6 b7
      clear x0 y0
      go_loopw [6] (fun vk wr => ∃ k : Nat, k ≤ c.rows i ∧ vk = .int .i64 k ∧ Hid (Below v.heap.size v wr)) (fun vk _ => c.rows i - (intOf vk).toNat)
      case atStart => exact ⟨0, by omega, rfl, HOd⟩
      case round =>
        obtain ⟨k, hk, rfl, HOk⟩ := hrel
        obtain ⟨wk, hwk⟩ : ∃ x, x = wr := ⟨_, rfl⟩
        subst hwk
        obtain ⟨⟨a0, a1, a2, a3, a4, a5, a6, a7⟩, _⟩ := cells8 (heap_below HOk.out HR1.out); obtain ⟨⟨b0, b1, b2, b3, b4, b5, b6, b7⟩, _⟩ := cells8 (heap_below HOk.out HR2.out)
        have x0 := (Keeps.of_below HOk.out) _ _ HX0.out
        have y0 := (Keeps.of_below HOk.out) _ _ HY0.out
        by_cases hlk : k < c.rows i
        · obtain ⟨bc, oc, eC, hc1⟩ := H1.out.cells i hlt (by show 0 < c.rows i; omega)
          have eC : CA i = some ⟨bc, oc, none⟩ := eC
          obtain rfl := HP.out.symm.trans eC
          obtain ⟨bd, od, eD, hc2⟩ := H2.out.cells i hlt (by show 0 < c.rows i; omega)
          have eD : CA' i = some ⟨bd, od, none⟩ := eD
          obtain rfl := HQ.out.symm.trans eD
          have kp := Keeps.of_below HOk.out
          have d0 : wk.cell? ⟨bc, oc + k * 5, none⟩ = some (.int .i64 (c.L i k 0)) := kp _ _ (hc1 k hlk 0 (by omega))
          have d1 : wk.cell? ⟨bc, oc + k * 5 + 1, none⟩ = some (.int .i64 (c.L i k 1)) := kp _ _ (hc1 k hlk 1 (by omega))
          have d2 : wk.cell? ⟨bc, oc + k * 5 + 2, none⟩ = some (.int .i64 (c.L i k 2)) := kp _ _ (hc1 k hlk 2 (by omega))
          have d3 : wk.cell? ⟨bc, oc + k * 5 + 3, none⟩ = some (.int .i64 (c.L i k 3)) := kp _ _ (hc1 k hlk 3 (by omega))
          have d4 : wk.cell? ⟨bc, oc + k * 5 + 4, none⟩ = some (.int .i64 (c.B i k)) := kp _ _ (hc1 k hlk 4 (by omega))
          have g0 : wk.cell? ⟨bd, od + k * 5, none⟩ = some (.int .i64 (c.L i k 0)) := kp _ _ (hc2 k hlk 0 (by omega))
          have g1 : wk.cell? ⟨bd, od + k * 5 + 1, none⟩ = some (.int .i64 (c.L i k 1)) := kp _ _ (hc2 k hlk 1 (by omega))
          have g2 : wk.cell? ⟨bd, od + k * 5 + 2, none⟩ = some (.int .i64 (c.L i k 2)) := kp _ _ (hc2 k hlk 2 (by omega))
          have g3 : wk.cell? ⟨bd, od + k * 5 + 3, none⟩ = some (.int .i64 (c.L i k 3)) := kp _ _ (hc2 k hlk 3 (by omega))
          have g4 : wk.cell? ⟨bd, od + k * 5 + 4, none⟩ = some (.int .i64 (c.B i k)) := kp _ _ (hc2 k hlk 4 (by omega))
          clear hc1 hc2 kp eC eD
          have h4 := fun W => four_same (c.L i k 0) (c.L i k 1) (c.L i k 2) (c.L i k 3) W
          go_wp2_with fail
          refine wp_region_z (fun w' => w'.cell? ⟨w.heap.size, 5, none⟩ = some (.slice (some ⟨ba, oa, none⟩) c.nc cC) ∧ w'.cell? ⟨w.heap.size + 1, 5, none⟩ = some (.slice (some ⟨bb, ob, none⟩) c.nc cC') ∧ w'.cell? ⟨ba, oa + i, none⟩ = some (.slice (some ⟨bc, oc, none⟩) (c.rows i) p) ∧ w'.cell? ⟨bb, ob + i, none⟩ = some (.slice (some ⟨bd, od, none⟩) (c.rows i) q) ∧ w'.cell? ⟨bc, oc + k * 5, none⟩ = some (.int .i64 (c.L i k 0)) ∧ w'.cell? ⟨bc, oc + k * 5 + 1, none⟩ = some (.int .i64 (c.L i k 1)) ∧ w'.cell? ⟨bc, oc + k * 5 + 2, none⟩ = some (.int .i64 (c.L i k 2)) ∧ w'.cell? ⟨bc, oc + k * 5 + 3, none⟩ = some (.int .i64 (c.L i k 3)) ∧ w'.cell? ⟨bc, oc + k * 5 + 4, none⟩ = some (.int .i64 (c.B i k)) ∧ w'.cell? ⟨bd, od + k * 5, none⟩ = some (.int .i64 (c.L i k 0)) ∧ w'.cell? ⟨bd, od + k * 5 + 1, none⟩ = some (.int .i64 (c.L i k 1)) ∧ w'.cell? ⟨bd, od + k * 5 + 2, none⟩ = some (.int .i64 (c.L i k 2)) ∧ w'.cell? ⟨bd, od + k * 5 + 3, none⟩ = some (.int .i64 (c.L i k 3)) ∧ w'.cell? ⟨bd, od + k * 5 + 4, none⟩ = some (.int .i64 (c.B i k))) [0, 1, 2, 3, 4, 5, 6, 7, 8, 9, 10, 11, 12, 13, 14, 15, 16] [] (by kernel_rfl) (by kernel_rfl) (by kernel_rfl) (by rfl) (fun _ _ _ _ e h => ⟨e.symm.trans h.1, h.2⟩) ⟨a5, b5, x0, y0, d0, d1, d2, d3, d4, g0, g1, g2, g3, g4⟩ ?_
          iterate 17
            refine Heads.step (v := ?_) rfl (by first | (go_simp; done) | rfl) (fun W hW => ?_) ?_
            rotate_left
            · (obtain ⟨t0, t1, t2, t3, t4, t5, t6, t7, t8, t9, t10, t11, t12, t13⟩ := hW; go_simp; try with_reducible rfl)
          refine AnyZ.done (by kernel_rfl) ?_
          go_simp
          have HOe := Lib.hid HOk.out.drew
          clear a0 a1 a2 a3 a4 a5 a6 a7 b0 b1 b2 b3 b4 b5 b6 b7
          clear x0 y0 d0 d1 d2 d3 d4 g0 g1 g2 g3 g4 h4
          generalize wk.drew = we at *
          go_wp2_with fail
          go_roundw
          case rel => exact ⟨k + 1, by omega, by go_num, HOe⟩
          case measure => simp [intOf]; omega
        · obtain rfl : k = c.rows i := by omega
          go_wp2_with fail
          go_roundw
          case rel => exact ⟨i + 1, by omega, by go_num, HOk⟩
          case measure => simp [intOf]; omega
    · obtain rfl : i = c.nc := by omega
      go_wp2_with fail
      clear a0 a1 a2 a3 a4 a5 a6 a7 b0 b1 b2 b3 b4 b5 b6 b7
      go_loopw [7] (fun vk wr => ∃ k : Nat, k ≤ c.nr ∧ vk = .int .i64 k ∧ Hid (Below v.heap.size v wr)) (fun vk _ => c.nr - (intOf vk).toNat)
      case atStart => exact ⟨0, by omega, rfl, HO⟩
      case round =>
        obtain ⟨k, hk, rfl, HOk⟩ := hrel
        obtain ⟨wk, hwk⟩ : ∃ x, x = wr := ⟨_, rfl⟩
        subst hwk
        obtain ⟨⟨a0, a1, a2, a3, a4, a5, a6, a7⟩, _⟩ := cells8 (heap_below HOk.out HR1.out); obtain ⟨⟨b0, b1, b2, b3, b4, b5, b6, b7⟩, _⟩ := cells8 (heap_below HOk.out HR2.out)
        by_cases hlk : k < c.nr
        · obtain ⟨bc, oc, eC, hc1⟩ := H1.out.regs (by show 0 < c.nr; omega)
          have eC : AR = some ⟨bc, oc, none⟩ := eC
          subst eC
          obtain ⟨bd, od, eD, hc2⟩ := H2.out.regs (by show 0 < c.nr; omega)
          have eD : AR' = some ⟨bd, od, none⟩ := eD
          subst eD
          have kp := Keeps.of_below HOk.out
          have d0 : wk.cell? ⟨bc, oc + k * 2, none⟩ = some (.int .i64 (c.RS k)) := kp _ _ (hc1 k hlk 0 (by omega))
          have d1 : wk.cell? ⟨bc, oc + k * 2 + 1, none⟩ = some (.bool (c.RI k)) := kp _ _ (hc1 k hlk 1 (by omega))
          have g0 : wk.cell? ⟨bd, od + k * 2, none⟩ = some (.int .i64 (c.RS k)) := kp _ _ (hc2 k hlk 0 (by omega))
          have g1 : wk.cell? ⟨bd, od + k * 2 + 1, none⟩ = some (.bool (c.RI k)) := kp _ _ (hc2 k hlk 1 (by omega))
          clear hc1 hc2 kp
          go_wp2_with fail
          refine wp_region_z (fun w' => w'.cell? ⟨w.heap.size, 6, none⟩ = some (.slice (some ⟨bc, oc, none⟩) c.nr cR) ∧ w'.cell? ⟨w.heap.size + 1, 6, none⟩ = some (.slice (some ⟨bd, od, none⟩) c.nr cR') ∧ w'.cell? ⟨bc, oc + k * 2, none⟩ = some (.int .i64 (c.RS k)) ∧ w'.cell? ⟨bc, oc + k * 2 + 1, none⟩ = some (.bool (c.RI k)) ∧ w'.cell? ⟨bd, od + k * 2, none⟩ = some (.int .i64 (c.RS k)) ∧ w'.cell? ⟨bd, od + k * 2 + 1, none⟩ = some (.bool (c.RI k))) [0, 1, 2, 3, 4, 5, 6, 7, 8, 9, 10] [] (by kernel_rfl) (by kernel_rfl) (by kernel_rfl) (by rfl) (fun _ _ _ _ e h => ⟨e.symm.trans h.1, h.2⟩) ⟨a6, b6, d0, d1, g0, g1⟩ ?_
          iterate 11
            refine Heads.step (v := ?_) rfl (by first | (go_simp; done) | rfl) (fun W hW => ?_) ?_
            rotate_left
            · (obtain ⟨t0, t1, t2, t3, t4, t5⟩ := hW; go_simp; try with_reducible rfl)
          refine AnyZ.done (by kernel_rfl) ?_
          go_simp
          have HOe := Lib.hid HOk.out.drew
          clear a0 a1 a2 a3 a4 a5 a6 a7 b0 b1 b2 b3 b4 b5 b6 b7
          clear d0 d1 g0 g1
          generalize wk.drew = we at *
          go_wp2_with fail
          go_roundw
          case rel => exact ⟨k + 1, by omega, by go_num, HOe⟩
          case measure => simp [intOf]; omega
        · obtain rfl : k = c.nr := by omega
          go_wp2_with fail
          clear a0 a1 a2 a3 a4 a5 a6 a7 b0 b1 b2 b3 b4 b5 b6 b7
          go_loopw [8] (fun vm wr => ∃ m : Nat, m ≤ c.no ∧ vm = .int .i64 m ∧ Hid (Below v.heap.size v wr)) (fun vm _ => c.no - (intOf vm).toNat)
          case atStart => exact ⟨0, by omega, rfl, HOk⟩
          case round =>
            obtain ⟨m, hm, rfl, HOm⟩ := hrel
            obtain ⟨wm, hwm⟩ : ∃ x, x = wr := ⟨_, rfl⟩
            subst hwm
            obtain ⟨⟨a0, a1, a2, a3, a4, a5, a6, a7⟩, _⟩ := cells8 (heap_below HOm.out HR1.out); obtain ⟨⟨b0, b1, b2, b3, b4, b5, b6, b7⟩, _⟩ := cells8 (heap_below HOm.out HR2.out)
            by_cases hlm : m < c.no
            · obtain ⟨be, oe, eE, hc1⟩ := H1.out.outs (by show 0 < c.no; omega)
              have eE : AO = some ⟨be, oe, none⟩ := eE
              subst eE
              obtain ⟨bg, og, eG, hc2⟩ := H2.out.outs (by show 0 < c.no; omega)
              have eG : AO' = some ⟨bg, og, none⟩ := eG
              subst eG
              have kp := Keeps.of_below HOm.out
              have d0 : wm.cell? ⟨be, oe + m, none⟩ = some (.int .i64 (c.O m)) := kp _ _ (hc1 m hlm)
              have g0 : wm.cell? ⟨bg, og + m, none⟩ = some (.int .i64 (c.O m)) := kp _ _ (hc2 m hlm)
              clear hc1 hc2 kp
              go_wp2_with fail
              refine wp_region_z (fun w' => w'.cell? ⟨w.heap.size, 7, none⟩ = some (.slice (some ⟨be, oe, none⟩) c.no cO) ∧ w'.cell? ⟨w.heap.size + 1, 7, none⟩ = some (.slice (some ⟨bg, og, none⟩) c.no cO') ∧ w'.cell? ⟨be, oe + m, none⟩ = some (.int .i64 (c.O m)) ∧ w'.cell? ⟨bg, og + m, none⟩ = some (.int .i64 (c.O m))) [0, 1, 2, 3, 4, 5, 6, 7, 8, 9, 10] [] (by kernel_rfl) (by kernel_rfl) (by kernel_rfl) (by rfl) (fun _ _ _ _ e h => ⟨e.symm.trans h.1, h.2⟩) ⟨a7, b7, d0, g0⟩ ?_
              iterate 11
                refine Heads.step (v := ?_) rfl (by first | (go_simp; done) | rfl) (fun W hW => ?_) ?_
                rotate_left
                · (obtain ⟨t0, t1, t2, t3⟩ := hW; go_simp; try with_reducible rfl)
              refine AnyZ.done (by kernel_rfl) ?_
              go_simp
              have HOe := Lib.hid HOm.out.drew
              clear a0 a1 a2 a3 a4 a5 a6 a7 b0 b1 b2 b3 b4 b5 b6 b7
              clear d0 g0
              generalize wm.drew = we at *
              go_wp2_with fail
              go_roundw
              case rel => exact ⟨m + 1, by omega, by go_num, HOe⟩
              case measure => simp [intOf]; omega
            · obtain rfl : m = c.no := by omega
              go_wp2_with fail
              go_ret
              exact ⟨rfl, HB.out.trans (HOm.out.mono hzv)⟩
end Go.Proofs.YtbnjbclkmjjkhaaDoor
