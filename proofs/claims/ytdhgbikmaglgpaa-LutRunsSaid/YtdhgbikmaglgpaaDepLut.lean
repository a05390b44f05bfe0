/- lut.Depth, walked: it returns the depth of the net. Conditions: the net is valid, lies in memory and its lists are not too long. -/
import Derived.Test.YtdhgbikmaglgpaaTDep
import Derived.Test.YtdhgbikmaglgpaaAigRun
import Derived.Lib.MinMax
namespace Go.Proofs.Ytdhgbikmaglgpaa
open Go.RowKit

theorem zeroI : (Try.prog.info? 3).map (fun i => (i.zero, i.size, i.bytes)) = some (some (.int .i64 0), 1, 8) := by kernel_rfl

/-- the numbers of a valid net -/
theorem Tb.Valid.nums {g : Tb} (hv : g.Valid) (hfit : g.Fits) : ∃ nv : Nat, nv = g.pre + g.n2 ∧ (nv : Int) = 2 + g.ins + g.n1 + g.n2 ∧ (g.pre : Int) = 2 + g.ins + g.n1 ∧ nv ≤ 35000000000000 ∧ g.n2 ≤ 4400000000000 := by
  have := hv.i0; have := hv.i1; have := hv.n3; have := hfit.b2; have := hfit.b3
  refine ⟨g.pre + g.n2, rfl, ?_⟩
  unfold Tb.pre
  omega

set_option maxHeartbeats 4000000 in
set_option maxRecDepth 100000 in
theorem depLut_any (g : Tb) (A1 A2 A3 A4 : Option Addr) (c1 c2 c3 c4 : Nat) (w : World) (hg : g.At w A1 A2 A3 A4) (hfit : g.Fits) (hv : g.Valid) :
    Calls Try.prog 51 #[.agg #[.int .i64 g.ins, .slice A1 g.n1 c1, .slice A2 g.n2 c2, .slice A3 g.n3 c3, .slice A4 g.n4 c4]] w fun e w' => e = .returned (.int .i64 g.depth) ∧ Below w.heap.size w w' := by
  have f1 := hfit.b1; have f2 := hfit.b2; have f3 := hfit.b3; have f4 := hfit.b4
  have v1 := hv.i0; have v2 := hv.i1; have v3 := hv.n4
  obtain ⟨nv, hnv, hnvi, hpre, hnvb, hn2⟩ := hv.nums hfit
  obtain ⟨TA, TC, t1, t2⟩ := hg.tabs
  have HT2 := Lib.hid t2; clear t2
  have HNV := Lib.hid hnv; have HNVI := Lib.hid hnvi; have HPRE := Lib.hid hpre; clear hnv hnvi hpre
  go_enter Try.func51, Try.ntmps51
  go_wp2_with fail
  refine (signals_any g.ins _ _ _ _ g.n1 g.n2 g.n3 g.n4 c1 c2 c3 c4 _ v1 v2 (by omega) (by omega)).mono ?_
  rw [← HNVI.out]
  rintro e w1 ⟨rfl, hb1⟩
  have HB1 := Lib.hid (Below.alloc_then hb1)
  have hbox := (BoxAt.new w [.int .i64 g.ins, .slice A1 g.n1 c1, .slice A2 g.n2 c2, .slice A3 g.n3 c3, .slice A4 g.n4 c4] 34).keeps (Keeps.of_below hb1)
  have hs1 := hb1.size
  simp at hs1
  clear hb1
  have hmk := fun W => run_mk Try.underlying24 zeroI .i64 .i64 (nv : Int) nv (by omega) (by omega) (by omega) (by omega) W
  simp only [Int.toNat_natCast, Value.cells, Nat.mul_one] at hmk
  obtain ⟨g0, g1, g2, g3, g4⟩ := hbox.five
  go_upto_region 2 with (fail)
  clear hmk g0 g1 g2 g3 g4
  have hbA : Below w1.heap.size w1 (w1.alloc (.cells (madeCells #[.int .i64 0] nv) 3)) := (Below.refl _ _).alloc (Nat.le_refl _) _
  have harr : Arr (w1.alloc (.cells (madeCells #[.int .i64 0] nv) 3)) w1.heap.size 3 nv (fun _ => .int .i64 0) := Arr.made w1 (.int .i64 0) nv 3
  have hsA : (w1.alloc (.cells (madeCells #[.int .i64 0] nv) 3)).heap.size = w1.heap.size + 1 := by simp
  generalize w1.alloc (.cells (madeCells #[.int .i64 0] nv) 3) = w2 at *
  have HBA := Lib.hid (Below.then_call HB1.out hbA (by omega))
  have hboxA := hbox.keeps (Keeps.of_below hbA)
  clear hbA hbox HB1
  generalize w1.heap.size = ba at *
  obtain ⟨g0, g1, g2, g3, g4⟩ := hboxA.five
  have e1 : IntKind.i64.wrap ((nv : Int) - (g.n2 : Int)) = (g.pre : Int) := by rw [IntWalk.i64_in _ (by omega)]; have := HNV.out; omega
  go_region_held3 (fun w' => w'.cell? ⟨w.heap.size, 0, none⟩ = some (.int .i64 g.ins) ∧ w'.cell? ⟨w.heap.size, 1, none⟩ = some (.slice A1 g.n1 c1) ∧ w'.cell? ⟨w.heap.size, 2, none⟩ = some (.slice A2 g.n2 c2) ∧ w'.cell? ⟨w.heap.size, 3, none⟩ = some (.slice A3 g.n3 c3) ∧ w'.cell? ⟨w.heap.size, 4, none⟩ = some (.slice A4 g.n4 c4)) (first | exact ⟨g0, g1, g2, g3, g4⟩ | assumption)
    (first | (go_at_call 48; refine (signals_any g.ins _ _ _ _ g.n1 g.n2 g.n3 g.n4 c1 c2 c3 c4 _ v1 v2 (by omega) (by omega)).mono ?_; rw [← HNVI.out]; rintro e w3 ⟨rfl, hb3⟩; have hs6 : w3.cell? ⟨w.heap.size, 0, none⟩ = some (.int .i64 g.ins) ∧ w3.cell? ⟨w.heap.size, 1, none⟩ = some (.slice A1 g.n1 c1) ∧ w3.cell? ⟨w.heap.size, 2, none⟩ = some (.slice A2 g.n2 c2) ∧ w3.cell? ⟨w.heap.size, 3, none⟩ = some (.slice A3 g.n3 c3) ∧ w3.cell? ⟨w.heap.size, 4, none⟩ = some (.slice A4 g.n4 c4) := ⟨Keeps.of_below hb3 _ _ g0, Keeps.of_below hb3 _ _ g1, Keeps.of_below hb3 _ _ g2, Keeps.of_below hb3 _ _ g3, Keeps.of_below hb3 _ _ g4⟩))
  have HB3 := Lib.hid (show Below w2.heap.size w2 w3 from ⟨hb3.os, hb3.tape, hb3.output, hb3.size, hb3.block⟩)
  have hbox3 := hboxA.keeps (Keeps.of_below HB3.out)
  have HB0 := Lib.hid (Below.then_call HBA.out HB3.out (by omega))
  have harr3 := harr.below HB3.out
  clear hs6 hb3 g0 g1 g2 g3 g4 e1 hboxA harr HBA
  have hsz3 := HB3.out.size
  obtain ⟨g0, g1, g2, g3, g4⟩ := hbox3.five
  go_wp2_with fail
  clear g0 g1 g2 g3 g4
  go_loopw [24] (fun i wr => ∃ k : Nat, k ≤ g.n2 ∧ i = .int .i64 k ∧ Only (fun j => j = ba) w3 wr ∧ Arr wr ba 3 nv (fun j => .int .i64 (g.dep k j))) (fun i _ => g.n2 - (intOf i).toNat)
  case atStart => exact ⟨0, by omega, rfl, Only.refl _ _, harr3⟩
  case round =>
    obtain ⟨k, hk, rfl, HO, HA⟩ := hrel
    have HBr := Lib.hid (HB0.out.trans (HO.below (B := w.heap.size) (fun j _ c => by omega) (by omega)))
    by_cases hlt : k < g.n2
    · obtain ⟨b2, o2, rfl, x0, y0⟩ := (t1.keeps (Keeps.of_below HBr.out)).at2 hlt
      have htk := HT2.out k hlt
      simp only [two] at x0 y0
      clear t1
      generalize TA k = Ak at *
      have hok := hv.tabs k hlt
      have hl := hok.len
      have hin := hok.ins
      have HIN := Lib.hid hin; clear hin hok
      have hpk : g.pre + k < nv := by have := HNV.out; omega
      have hca := (HA.alloc (.cells #[.slice Ak (g.tl k) (TC k), .int .i64 (g.tb k)] 76)).cell hpk
      have hfa := (HA.alloc (.cells #[.slice Ak (g.tl k) (TC k), .int .i64 (g.tb k)] 76)).thaw (g.pre + k)
      have q0 : (wr.alloc (.cells #[.slice Ak (g.tl k) (TC k), .int .i64 (g.tb k)] 76)).cell? ⟨wr.heap.size, 0, none⟩ = some (.slice Ak (g.tl k) (TC k)) := BoxAt.new wr [.slice Ak (g.tl k) (TC k), .int .i64 (g.tb k)] 76 0 _ rfl
      have hOq := HO.alloc (.cells #[.slice Ak (g.tl k) (TC k), .int .i64 (g.tb k)] 76)
      have hAq := HA.alloc (.cells #[.slice Ak (g.tl k) (TC k), .int .i64 (g.tb k)] 76)
      have hwq : (wr.alloc (.cells #[.slice Ak (g.tl k) (TC k), .int .i64 (g.tb k)] 76)).heap.size = wr.heap.size + 1 := by simp
      have hszo := HO.size
      go_upto_region 6 with (fail)
      generalize wr.alloc (.cells #[.slice Ak (g.tl k) (TC k), .int .i64 (g.tb k)] 76) = wq at *
      have hbw : ba < wr.heap.size := HA.lt
      clear HA x0 y0
      generalize wr.heap.size = bq at *
      have e2 : 0 ≤ (g.pre : Int) + k := by omega
      have e3 : ((g.pre : Int) + k).toNat = g.pre + k := by omega
      have e4 : (g.pre : Int) + k < nv := by omega
      have e1 : IntKind.i64.wrap ((g.pre : Int) + k) = (g.pre : Int) + k := IntWalk.i64_in _ (by omega)
      go_upto_region 7 with (fail)
      have hOs : Only (fun j => j = ba) w3 (wq.setCell ⟨ba, g.pre + k, none⟩ (.int .i64 1)) := hOq.setCell (p := ⟨ba, g.pre + k, none⟩) (fun _ => rfl) _
      have hOk : Only (fun j => j = ba) wq (wq.setCell ⟨ba, g.pre + k, none⟩ (.int .i64 1)) := (Only.refl (fun j => j = ba) wq).setCell (p := ⟨ba, g.pre + k, none⟩) (fun _ => rfl) _
      have hAs : Arr (wq.setCell ⟨ba, g.pre + k, none⟩ (.int .i64 1)) ba 3 nv (fun j => .int .i64 (if j = g.pre + k then 1 + top (fun i => g.dep k (g.tw k i).toNat) 0 else g.dep k j)) :=
        hAq.set (fun j _ hj => by simp [hj]) (by simp [top])
      have q0s := hOk.cell q0 (by show ¬ bq = ba; omega)
      generalize wq.setCell ⟨ba, g.pre + k, none⟩ (.int .i64 1) = ws at *
      clear hAq hOq hOk q0 hca hfa hwq wq
      go_wp2_with fail
      have hss := hOs.size
      go_loopw [37] (fun i wi => ∃ m : Nat, m ≤ g.tl k ∧ i = .int .i64 m ∧ Only (fun j => j = ba) ws wi ∧ Arr wi ba 3 nv (fun j => .int .i64 (if j = g.pre + k then 1 + top (fun i => g.dep k (g.tw k i).toNat) m else g.dep k j))) (fun i _ => g.tl k - (intOf i).toNat)
      case atStart => exact ⟨0, by omega, rfl, Only.refl _ _, hAs⟩
      case round =>
        clear hAs
        obtain ⟨m, hm, rfl, HOi, HAi⟩ := hrel
        have HBi := Lib.hid (HB0.out.trans ((hOs.trans HOi).below (B := w.heap.size) (fun j _ c => by omega) (by omega)))
        by_cases hlt2 : m < g.tl k
        · obtain ⟨b3, o3, rfl, z0⟩ := (htk.keeps (Keeps.of_below HBi.out)).at_ hlt2
          have hwn := HIN.out m hlt2
          have hwp : (g.tw k m).toNat < g.pre + k := by have := HPRE.out; omega
          have hca := HAi.cell hpk
          have hfa := HAi.thaw (g.pre + k)
          have hcs := HAi.cell (k := (g.tw k m).toNat) (by omega)
          have hne : ¬ (g.tw k m).toNat = g.pre + k := by omega
          simp only [if_true, hne, if_false] at hca hcs
          have hd1 := g.dep_le k (g.tw k m).toNat
          have hd2 := top_le (f := fun i => g.dep k (g.tw k i).toNat) (b := k) (by omega) m (fun i _ => (g.dep_le k _).2)
          generalize hD : g.dep k (g.tw k m).toNat = D at *
          generalize hU : top (fun i => g.dep k (g.tw k i).toNat) m = U at *
          have HD := Lib.hid hD; have HU := Lib.hid hU; clear hD hU hne
          generalize hX : g.tw k m = x at *
          have HX := Lib.hid hX; clear hX
          have e5 : 0 ≤ x := by omega
          have e6 : x < nv := by omega
          have e7 : IntKind.i64.wrap (D + 1) = D + 1 := IntWalk.i64_in _ (by omega)
          clear hwn hwp hd1 hd2
          go_wp2_with fail
          go_still_tail 16, (by kernel_rfl)
          change wpList _ _ _ _ _ wr.drew
          clear e1 e7
          go_wp2_with fail
          refine ⟨⟨m + 1, by omega, by go_num, (HOi.setCell (p := ⟨ba, g.pre + k, none⟩) (fun _ => rfl) _).drew, HAi.set (k := g.pre + k) (fun j _ hj => by simp [hj]) ?_⟩, by simp [intOf]; omega⟩
          simp only [if_true, top, HX.out, HD.out, HU.out]
          congr 1
          omega
        · obtain rfl : m = g.tl k := by omega
          have hA' : Arr wr ba 3 nv (fun j => .int .i64 (g.dep (k + 1) j)) := HAi
          go_wp2_with fail
          go_roundw
          case rel => exact ⟨k + 1, by omega, by go_num, hOs.trans HOi, hA'⟩
          case measure => simp [intOf]; omega
    · obtain rfl : k = g.n2 := by omega
      have hboxr := HO.box hbox3 (by omega)
      obtain ⟨g0, g1, g2, g3, g4⟩ := hboxr.five
      have hnx := hg.next.keeps (Keeps.of_below HBr.out)
      have hou := hg.outs.keeps (Keeps.of_below HBr.out)
      have hszr := HO.size
      go_wp2_with fail
      refine (concat_any wr.heap.size A3 A4 g.n3 c3 g.n4 c4 g.N g.O _ (BoxAt.new wr [.slice A3 g.n3 c3, .slice A4 g.n4 c4] _ 0 _ rfl) (BoxAt.new wr [.slice A3 g.n3 c3, .slice A4 g.n4 c4] _ 1 _ rfl) (hnx.keeps (Keeps.alloc _ _)) (hou.keeps (Keeps.alloc _ _)) (by omega)).mono ?_
      rintro e w5 ⟨Ac, cc, rfl, hoc, hb5⟩
      have hb5' : Below wr.heap.size wr w5 := Below.alloc_then hb5
      have HB5 := Lib.hid (Below.then_call HBr.out hb5' (by omega))
      have hA5 := HA.below hb5'
      have hints := hoc.ints
      clear hb5 hb5' hoc g0 g1 g2 g3 g4 hnx hou hboxr
      go_wp2_with fail
      go_loop [9, 67] (fun v i => ∃ m : Nat, m ≤ g.n3 + g.n4 ∧ i = .int .i64 m ∧ v = .int .i64 (top (fun i => g.dep g.n2 (both g.n3 g.N g.O i).toNat) m)) (fun _ i => g.n3 + g.n4 - (intOf i).toNat)
      case atStart => exact ⟨0, by omega, rfl, rfl⟩
      case round =>
        obtain ⟨m, hm, rfl, rfl⟩ := hrel
        by_cases hlt : m < g.n3 + g.n4
        · obtain ⟨b3, o3, rfl, x0⟩ := hints.at_ hlt
          have hbs : 0 ≤ both g.n3 g.N g.O m ∧ both g.n3 g.N g.O m < g.sigs := by
            unfold both
            by_cases h : m < g.n3
            · rw [if_pos h]; exact hv.next m h
            · rw [if_neg h]; exact hv.outs _ (by omega)
          unfold Tb.sigs at hbs
          have hcs := hA5.cell (k := (both g.n3 g.N g.O m).toNat) (by have := HNVI.out; omega)
          have hlo : both g.n3 g.N g.O m < nv := by have := HNVI.out; omega
          have hEq : top (fun i => g.dep g.n2 (both g.n3 g.N g.O i).toNat) (m + 1) = max (top (fun i => g.dep g.n2 (both g.n3 g.N g.O i).toNat) m) (g.dep g.n2 (both g.n3 g.N g.O m).toNat) := rfl
          have HE := Lib.hid hEq; clear hEq
          generalize both g.n3 g.N g.O m = x at *
          go_wp2_with fail
          go_round
          case rel => exact ⟨m + 1, by omega, by go_num, by rw [HE.out]⟩
          case measure => simp [intOf]; omega
        · obtain rfl : m = g.n3 + g.n4 := by omega
          go_wp2_with fail
          go_ret
          exact ⟨rfl, HB5.out⟩
end Go.Proofs.Ytdhgbikmaglgpaa
