/- The reference's TablesDepth, walked: it returns the depth of the net. Conditions: the net is valid, lies in memory and its lists are not too long. -/
import Derived.Test.YtlmcbhmaccncbaaDoorTabD
import Derived.Test.YtlmcbhmaccncbaaDoorArr
import Derived.Lib.MinMax
import Derived.Deep.CutBlock
namespace Go.Proofs.YtlmcbhmaccncbaaDoor
open Go.RowKit

theorem zeroI : (Tryd.prog.info? 3).map (fun i => (i.zero, i.size, i.bytes)) = some (some (.int .i64 0), 1, 8) := by kernel_rfl

/-- the numbers of a valid net -/
theorem Tb.Valid.nums {g : Tb} (hv : g.Valid) (hfit : g.Fits) : ∃ nv : Nat, nv = g.pre + g.n2 ∧ (nv : Int) = 2 + g.ins + g.n1 + g.n2 ∧ (g.pre : Int) = 2 + g.ins + g.n1 ∧ nv ≤ 35000000000000 ∧ g.n2 ≤ 4400000000000 := by
  have := hv.i0; have := hv.i1; have := hv.n3; have := hfit.b2; have := hfit.b3
  refine ⟨g.pre + g.n2, rfl, ?_⟩
  unfold Tb.pre
  omega


set_option maxHeartbeats 400000 in
theorem most_any (a b : Int) (w : World) :
    Calls Tryd.prog 22 #[.int .i64 a, .int .i64 b] w fun e w' => e = .returned (.int .i64 (max a b)) ∧ w = w' := by
  by_cases h : a < b
  · go_enter Tryd.func22, Tryd.ntmps22
    go_wp2
    go_ret
    exact ⟨ret_int (by omega), rfl⟩
  · go_enter Tryd.func22, Tryd.ntmps22
    go_wp2
    go_ret
    exact ⟨ret_int (by omega), rfl⟩

set_option maxHeartbeats 4000000 in
set_option maxRecDepth 100000 in
theorem depRef_any (g : Tb) (A1 A2 A3 A4 : Option Addr) (c1 c2 c3 c4 : Nat) (w : World) (hg : g.At w A1 A2 A3 A4) (hfit : g.Fits) (hv : g.Valid) :
    Calls Tryd.prog 23 #[.agg #[.int .i64 g.ins, .slice A1 g.n1 c1, .slice A2 g.n2 c2, .slice A3 g.n3 c3, .slice A4 g.n4 c4]] w fun e w' => e = .returned (.int .i64 g.depth) ∧ Below w.heap.size w w' := by
  have f1 := hfit.b1; have f2 := hfit.b2; have f3 := hfit.b3; have f4 := hfit.b4
  have v1 := hv.i0; have v2 := hv.i1; have v3 := hv.n4
  obtain ⟨nv, hnv, hnvi, hpre, hnvb, hn2⟩ := hv.nums hfit
  obtain ⟨TA, TC, t1, t2⟩ := hg.tabs
  have HT2 := Lib.hid t2; clear t2
  have HNV := Lib.hid hnv; have HNVI := Lib.hid hnvi; have HPRE := Lib.hid hpre; clear hnv hnvi hpre
  go_enter Tryd.func23, Tryd.ntmps23
  go_wp2_with fail
  refine (rsignals_any g.ins _ _ _ _ g.n1 g.n2 g.n3 g.n4 c1 c2 c3 c4 _ v1 v2 (by omega) (by omega)).mono ?_
  rw [← HNVI.out, ← HPRE.out]
  rintro e w1 ⟨rfl, hb1⟩
  have HB1 := Lib.hid (Below.alloc_then hb1)
  have hbox := (BoxAt.new w [.int .i64 g.ins, .slice A1 g.n1 c1, .slice A2 g.n2 c2, .slice A3 g.n3 c3, .slice A4 g.n4 c4] 26).keeps (Keeps.of_below hb1)
  have hs1 := hb1.size
  simp at hs1
  clear hb1
  have hmk := fun W => run_mk Tryd.underlying24 zeroI .i64 .i64 (nv : Int) nv (by omega) (by omega) (by omega) (by omega) W
  simp only [Int.toNat_natCast, Value.cells, Nat.mul_one] at hmk
  obtain ⟨g0, g1, g2, g3, g4⟩ := hbox.five
  go_upto_region 3 with (fail)
  clear hmk g0 g1 g2 g3 g4
  have hbA : Below w1.heap.size w1 (w1.alloc (.cells (madeCells #[.int .i64 0] nv) 3)) := (Below.refl _ _).alloc (Nat.le_refl _) _
  have harr : Arr (w1.alloc (.cells (madeCells #[.int .i64 0] nv) 3)) w1.heap.size 3 nv (fun _ => .int .i64 0) := Arr.made w1 (.int .i64 0) nv 3
  have hsA : (w1.alloc (.cells (madeCells #[.int .i64 0] nv) 3)).heap.size = w1.heap.size + 1 := by simp
  generalize w1.alloc (.cells (madeCells #[.int .i64 0] nv) 3) = w3 at *
  have HB0 := Lib.hid (Below.then_call HB1.out hbA (by omega))
  have hbox3 := hbox.keeps (Keeps.of_below hbA)
  have harr3 := harr
  clear hbA hbox HB1 harr
  generalize w1.heap.size = ba at *
  go_wp2_with fail
  go_loopw [5] (fun i wr => ∃ k : Nat, k ≤ g.n2 ∧ i = .int .i64 k ∧ Only (fun j => j = ba) w3 wr ∧ Arr wr ba 3 nv (fun j => .int .i64 (g.dep k j))) (fun i _ => g.n2 - (intOf i).toNat)
  case atStart => exact ⟨0, by omega, rfl, Only.refl _ _, harr3⟩
  case round =>
    clear harr3
    obtain ⟨k, hk, rfl, HO, HA⟩ := hrel
    have HBr := Lib.hid (HB0.out.trans (HO.below (B := w.heap.size) (fun j _ c => by omega) (by omega)))
    have hboxr := HO.box hbox3 (by omega)
    obtain ⟨g0, g1, g2, g3, g4⟩ := hboxr.five
    have hszo := HO.size
    by_cases hlt : k < g.n2
    · obtain ⟨b2, o2, rfl, x0, y0⟩ := (t1.keeps (Keeps.of_below HBr.out)).at2 hlt
      have htk := (HT2.out k hlt).keeps (Keeps.of_below HBr.out)
      simp only [two] at x0 y0
      generalize TA k = Ak at *
      have hok := hv.tabs k hlt
      have hl := hok.len
      have hin := hok.ins
      have HIN := Lib.hid hin; clear hin hok
      have hpk : g.pre + k < nv := by have := HNV.out; omega
      have hfa := HA.thaw (g.pre + k)
      have hca0 := HA.cell hpk
      go_wp2_with fail
      go_loop [6, 7] (fun v i => ∃ m : Nat, m ≤ g.tl k ∧ i = .int .i64 m ∧ v = .int .i64 (top (fun i => g.dep k (g.tw k i).toNat) m)) (fun _ i => g.tl k - (intOf i).toNat)
      case atStart => exact ⟨0, by omega, rfl, rfl⟩
      case round =>
        obtain ⟨m, hm, rfl, rfl⟩ := hrel
        by_cases hlt2 : m < g.tl k
        · obtain ⟨b3, o3, rfl, z0⟩ := htk.at_ hlt2
          have hwn := HIN.out m hlt2
          have hwp : (g.tw k m).toNat < g.pre + k := by have := HPRE.out; omega
          have hcs := HA.cell (k := (g.tw k m).toNat) (by omega)
          have hEq : top (fun i => g.dep k (g.tw k i).toNat) (m + 1) = max (top (fun i => g.dep k (g.tw k i).toNat) m) (g.dep k (g.tw k m).toNat) := rfl
          have HE := Lib.hid hEq; clear hEq
          generalize g.tw k m = x at *
          have e5 : 0 ≤ x := by omega
          have e6 : x < nv := by omega
          clear hwn hwp
          go_wp2_with fail
          refine (most_any _ _ _).mono ?_
          rintro e w' ⟨rfl, rfl⟩
          rw [← HE.out]
          go_wp2_with fail
          go_round
          case rel => exact ⟨m + 1, by omega, by go_num, rfl⟩
          case measure => simp [intOf]; omega
        · obtain rfl : m = g.tl k := by omega
          have hd2 := top_le (f := fun i => g.dep k (g.tw k i).toNat) (b := k) (by omega) (g.tl k) (fun i _ => (g.dep_le k _).2)
          have e2 : 0 ≤ (g.pre : Int) + k := by omega
          have e3 : ((g.pre : Int) + k).toNat = g.pre + k := by omega
          have e4 : (g.pre : Int) + k < nv := by omega
          have e1 : IntKind.i64.wrap ((g.pre : Int) + k) = (g.pre : Int) + k := IntWalk.i64_in _ (by omega)
          have hE : g.dep (k + 1) (g.pre + k) = top (fun i => g.dep k (g.tw k i).toNat) (g.tl k) + 1 := by simp only [Tb.dep, if_true]; omega
          have HE := Lib.hid hE; clear hE
          generalize top (fun i => g.dep k (g.tw k i).toNat) (g.tl k) = U at *
          have e7 : IntKind.i64.wrap (U + 1) = U + 1 := IntWalk.i64_in _ (by omega)
          go_wp2_with fail
          go_roundw
          case rel => exact ⟨k + 1, by omega, by go_num, HO.setCell (p := ⟨ba, g.pre + k, none⟩) (fun _ => rfl) _, HA.set (k := g.pre + k) (fun j _ hj => by simp [Tb.dep, hj]) (by rw [HE.out])⟩
          case measure => simp [intOf]; omega
    · obtain rfl : k = g.n2 := by omega
      have hnx := hg.next.keeps (Keeps.of_below HBr.out)
      have hou := hg.outs.keeps (Keeps.of_below HBr.out)
      go_wp2_with fail
      go_loop [8, 9] (fun v i => ∃ m : Nat, m ≤ g.n4 ∧ i = .int .i64 m ∧ v = .int .i64 (top (fun i => g.dep g.n2 (g.O i).toNat) m)) (fun _ i => g.n4 - (intOf i).toNat)
      case atStart => exact ⟨0, by omega, rfl, rfl⟩
      case round =>
        obtain ⟨m, hm, rfl, rfl⟩ := hrel
        by_cases hlt : m < g.n4
        · obtain ⟨b3, o3, rfl, x0⟩ := hou.at_ hlt
          have hbs := hv.outs m hlt
          unfold Tb.sigs at hbs
          have hcs := HA.cell (k := (g.O m).toNat) (by have := HNVI.out; omega)
          have hlo : g.O m < nv := by have := HNVI.out; omega
          have hEq : top (fun i => g.dep g.n2 (g.O i).toNat) (m + 1) = max (top (fun i => g.dep g.n2 (g.O i).toNat) m) (g.dep g.n2 (g.O m).toNat) := rfl
          have HE := Lib.hid hEq; clear hEq
          generalize g.O m = x at *
          go_wp2_with fail
          refine (most_any _ _ _).mono ?_
          rintro e w' ⟨rfl, rfl⟩
          rw [← HE.out]
          go_wp2_with fail
          go_round
          case rel => exact ⟨m + 1, by omega, by go_num, rfl⟩
          case measure => simp [intOf]; omega
        · obtain rfl : m = g.n4 := by omega
          go_wp2_with fail
          go_loop [8, 10] (fun v i => ∃ m : Nat, m ≤ g.n3 ∧ i = .int .i64 m ∧ v = .int .i64 (max (top (fun i => g.dep g.n2 (g.O i).toNat) g.n4) (top (fun i => g.dep g.n2 (g.N i).toNat) m))) (fun _ i => g.n3 - (intOf i).toNat)
          case atStart => exact ⟨0, by omega, rfl, by have := (top_le (f := fun i => g.dep g.n2 (g.O i).toNat) (b := g.n2) (by omega) g.n4 (fun i _ => (g.dep_le _ _).2)).1; simp only [top]; congr 1; omega⟩
          case round =>
            obtain ⟨m, hm, rfl, rfl⟩ := hrel
            by_cases hlt : m < g.n3
            · obtain ⟨b3, o3, rfl, x0⟩ := hnx.at_ hlt
              have hbs := hv.next m hlt
              unfold Tb.sigs at hbs
              have hcs := HA.cell (k := (g.N m).toNat) (by have := HNVI.out; omega)
              have hlo : g.N m < nv := by have := HNVI.out; omega
              have hEq : max (top (fun i => g.dep g.n2 (g.O i).toNat) g.n4) (top (fun i => g.dep g.n2 (g.N i).toNat) (m + 1)) = max (max (top (fun i => g.dep g.n2 (g.O i).toNat) g.n4) (top (fun i => g.dep g.n2 (g.N i).toNat) m)) (g.dep g.n2 (g.N m).toNat) := by simp only [top]; omega
              have HE := Lib.hid hEq; clear hEq
              generalize g.N m = x at *
              go_wp2_with fail
              refine (most_any _ _ _).mono ?_
              rintro e w' ⟨rfl, rfl⟩
              rw [← HE.out]
              go_wp2_with fail
              go_round
              case rel => exact ⟨m + 1, by omega, by go_num, rfl⟩
              case measure => simp [intOf]; omega
            · obtain rfl : m = g.n3 := by omega
              go_wp2_with fail
              go_ret
              refine ⟨ret_int ?_, HBr.out⟩
              unfold Tb.depth
              rw [top_both (fun x => g.dep g.n2 x.toNat) g.n3 g.N g.O g.n4]
              omega
end Go.Proofs.YtlmcbhmaccncbaaDoor
