/- aig.Run, walked: the outputs, cycle by cycle, as a new slice of new rows: the same that the reference's GraphRun gives. Conditions: the graph is valid and lies in memory, the trace lies in memory. -/
import Derived.Test.YtdhgbikmaglgpaaVAig
import Derived.Test.YtdhgbikmaglgpaaRun1
import Derived.Deep.DeepCutAuto
namespace Go.Proofs.Ytdhgbikmaglgpaa
open Go.RowKit

theorem szB : (Try.prog.info? 4).map (·.size) = some 1 := by kernel_rfl
theorem zeroB : (Try.prog.info? 4).map (fun i => (i.zero, i.size, i.bytes)) = some (some (.bool false), 1, 1) := by kernel_rfl

/-- where aig.Run stands at the head of a cycle: the array of values in block bv, the latches in block bv + 2 -/
structure RunAt (g : G) (T : Nat → Nat → Bool) (w4 wr : World) (bv nv k : Nat) (A : Option Addr) (c : Nat) (RA : Nat → Option Addr) (RC : Nat → Nat) : Prop where
  only : Only (fun j => j = bv ∨ j = bv + 1 + 1) w4 wr
  st : Arr wr (bv + 1 + 1) 4 g.n1 (fun j => .bool (g.state T k j))
  v : ∃ V : Nat → Bool, Arr wr bv 4 nv (fun j => .bool (V j)) ∧ V 0 = false
  mat : OwnMat wr w4.heap.size A k c g.n3 (g.row T) RA RC

set_option maxHeartbeats 20000000 in
set_option maxRecDepth 100000 in
theorem aigRun_any (g : G) (A1 A2 A3 : Option Addr) (c1 c2 c3 : Nat) (At : Option Addr) (nt ct : Nat) (TL : Nat → Nat) (T : Nat → Nat → Bool) (w : World) (hg : g.At w A1 A2 A3) (hv : g.Valid)
    (ht : Mat w At nt TL T) (hnt : nt * 24 ≤ 140737488351232) (htl : ∀ i, i < nt → TL i ≤ 140737488351232) :
    Calls Try.prog 39 #[.agg #[.int .i64 g.ins, .slice A1 g.n1 c1, .slice A2 g.n2 c2, .slice A3 g.n3 c3], .slice At nt ct] w (RetMat w nt g.n3 (g.row (fun c i => decide (i < TL c) && T c i))) := by
  have v1 := hv.i0; have v2 := hv.i1; have v3 := hv.n; have v4 := hv.n1; have v5 := hv.n3
  obtain ⟨nv, hnv⟩ : ∃ nv : Nat, (nv : Int) = 1 + g.ins + g.n1 + g.n2 := ⟨(1 + g.ins + g.n1 + g.n2).toNat, by omega⟩
  have HNV := Lib.hid hnv; clear hnv
  have HTL := Lib.hid htl; clear htl
  obtain ⟨TA, TC, ht1, ht2⟩ := ht
  have HT2 := Lib.hid ht2; clear ht2
  go_enter Try.func39, Try.ntmps39
  go_wp2_with fail
  refine (variables_any _ _ _ _ _ _ _ _ _ _ _ (by omega) (by omega) (by omega) (by omega)).mono ?_
  rw [← HNV.out]
  rintro e w1 ⟨rfl, hb1⟩
  have HB1 := Lib.hid (Below.alloc_then hb1)
  have hbox := (BoxAt.new w [.int .i64 g.ins, .slice A1 g.n1 c1, .slice A2 g.n2 c2, .slice A3 g.n3 c3] 26).keeps (Keeps.of_below hb1)
  have hg1 := hg.keeps (Keeps.below_alloc hb1)
  have hs1 := hb1.size
  simp at hs1
  clear hb1
  obtain ⟨g0, g1, g2, g3⟩ := hbox.four
  have hnvb : (nv : Int) ≤ 60000 := by rw [HNV.out]; omega
  have hmk1 := fun W => run_mk Try.underlying31 zeroB .i64 .i64 (nv : Int) nv (by omega) (by omega) (by omega) (by omega) W
  have hmk2 := fun W => run_mk Try.underlying31 zeroB .i64 .i64 (g.n1 : Int) g.n1 (by omega) (by omega) (by omega) (by omega) W
  simp only [Int.toNat_natCast, Value.cells, Nat.mul_one] at hmk1 hmk2
  go_upto_region 3 with (fail)
  have hbelA : Below w1.heap.size w1 ((w1.alloc (.cells (madeCells #[.bool false] nv) 4)).alloc (.cells #[.slice (some ⟨w1.heap.size, 0, none⟩) nv nv] 31)) := ((Below.refl _ _).alloc (Nat.le_refl _) _).alloc (by simp) _
  have hszA : ((w1.alloc (.cells (madeCells #[.bool false] nv) 4)).alloc (.cells #[.slice (some ⟨w1.heap.size, 0, none⟩) nv nv] 31)).heap.size = w1.heap.size + 1 + 1 := by simp
  have hvarA : VarAt ((w1.alloc (.cells (madeCells #[.bool false] nv) 4)).alloc (.cells #[.slice (some ⟨w1.heap.size, 0, none⟩) nv nv] 31)) (w1.heap.size + 1) w1.heap.size nv := by
    have hq := BoxAt.new (w1.alloc (.cells (madeCells #[.bool false] nv) 4)) [.slice (some ⟨w1.heap.size, 0, none⟩) nv nv] 31 0 _ rfl
    rw [show (w1.alloc (.cells (madeCells #[.bool false] nv) 4)).heap.size = w1.heap.size + 1 by simp] at hq
    exact hq
  have harrA : Arr ((w1.alloc (.cells (madeCells #[.bool false] nv) 4)).alloc (.cells #[.slice (some ⟨w1.heap.size, 0, none⟩) nv nv] 31)) w1.heap.size 4 nv (fun _ => .bool false) := (Arr.made w1 (.bool false) nv 4).below ((Below.refl _ _).alloc (Nat.le_refl _) _)
  generalize ((w1.alloc (.cells (madeCells #[.bool false] nv) 4)).alloc (.cells #[.slice (some ⟨w1.heap.size, 0, none⟩) nv nv] 31)) = w2 at *
  have HBA := Lib.hid (Below.then_call HB1.out hbelA (by omega))
  have hboxA := hbox.keeps (Keeps.of_below hbelA)
  clear hbox hg1 g0 g1 g2 g3 hmk1 hbelA
  generalize w1.heap.size = bv at *
  obtain ⟨g0, g1, g2, g3⟩ := hboxA.four
  go_upto_region 4 with (fail)
  clear hmk2 g0 g1 g2 g3
  have hbelB : Below w2.heap.size w2 (w2.alloc (.cells (madeCells #[.bool false] g.n1) 4)) := (Below.refl _ _).alloc (Nat.le_refl _) _
  have hszB : (w2.alloc (.cells (madeCells #[.bool false] g.n1) 4)).heap.size = w2.heap.size + 1 := by simp
  have hstB : Arr (w2.alloc (.cells (madeCells #[.bool false] g.n1) 4)) w2.heap.size 4 g.n1 (fun _ => .bool false) := Arr.made w2 (.bool false) g.n1 4
  have HBB := Lib.hid (Below.then_call HBA.out hbelB (by omega))
  have hboxB := hboxA.keeps (Keeps.of_below hbelB)
  have hvarB : VarAt (w2.alloc (.cells (madeCells #[.bool false] g.n1) 4)) (bv + 1) bv nv := Keeps.of_below hbelB _ _ hvarA
  have harrB := harrA.below hbelB
  clear hboxA hvarA harrA hbelB
  generalize (w2.alloc (.cells (madeCells #[.bool false] g.n1) 4)) = w3 at *
  rw [hszA] at hszB hstB
  clear hszA HBA w2 HB1
  obtain ⟨g0, g1, g2, g3⟩ := hboxB.four
  go_wp2_with fail
  clear g0 g1 g2 g3
  go_loopw [33] (fun i wr => ∃ k : Nat, k ≤ g.n1 ∧ i = .int .i64 k ∧ Only (fun j => j = bv + 1 + 1) w3 wr ∧ Hid (∃ V : Nat → Bool, Arr wr (bv + 1 + 1) 4 g.n1 (fun j => .bool (V j)) ∧ ∀ j, j < k → V j = g.I j)) (fun i _ => g.n1 - (intOf i).toNat)
  case atStart => exact ⟨0, by omega, rfl, Only.refl _ _, fun _ => false, hstB, fun j hj => by omega⟩
  case round =>
    obtain ⟨k, hk, rfl, HO, HS⟩ := hrel
    have HBr := Lib.hid (HBB.out.trans (HO.below (B := w.heap.size) (fun j _ c => by omega) (by omega)))
    have hgr := hg.keeps (Keeps.of_below HBr.out)
    obtain ⟨V, hA, hV⟩ := HS.out
    have HV := Lib.hid hV; clear hV
    by_cases hlt : k < g.n1
    · obtain ⟨b1, o1, rfl, x0, y0⟩ := hgr.lat.at2 hlt
      simp only [two] at x0 y0
      have hca := fun o => (hA.alloc o).cell hlt
      have hfa := fun o => (hA.alloc o).thaw k
      go_wp2_with fail
      refine ⟨⟨k + 1, by omega, by go_num, (HO.alloc _).setCell (fun _ => rfl) _, fun j => if j = k then g.I k else V j, ?_, fun j hj => ?_⟩, by simp [intOf]; omega⟩
      · exact (hA.alloc _).set (fun j _ hj => by simp [hj]) (by simp)
      · by_cases e : j = k
        · simp [e]
        · simp only [if_neg e]; exact HV.out j (by omega)
    · obtain rfl : k = g.n1 := by omega
      have hst4 : Arr wr (bv + 1 + 1) 4 g.n1 (fun j => .bool (g.state (fun c i => decide (i < TL c) && T c i) 0 j)) := hA.congr (fun j hj => by rw [HV.out j hj]; rfl)
      have harr4 := harrB.only HO (by omega)
      have hvar4 : VarAt wr (bv + 1) bv nv := HO.cell hvarB (by simp)
      have hbox4 := HO.box hboxB (by omega)
      have hsz4 := HO.size
      rw [hszB] at hsz4
      clear hA HS HV hgr HO hstB hvarB hboxB harrB hszB HBB
      obtain ⟨w4, rfl⟩ : ∃ w4 : World, w4 = wr := ⟨_, rfl⟩
      go_wp2_with fail
      have hz : Arr w4 bv 4 nv (fun j => .bool ((fun _ => false) j)) := harr4
      go_loopw [10, 46] (fun out i wr => ∃ (k : Nat) (A : Option Addr) (c : Nat) (RA : Nat → Option Addr) (RC : Nat → Nat), k ≤ nt ∧ i = .int .i64 k ∧ out = .slice A k c ∧
        RunAt g (fun c i => decide (i < TL c) && T c i) w4 wr bv nv k A c RA RC) (fun _ i _ => nt - (intOf i).toNat)
      case atStart => exact ⟨0, none, 0, fun _ => none, fun _ => 0, by omega, rfl, rfl, ⟨Only.refl _ _, hst4, ⟨_, hz, rfl⟩, ⟨World.ownsRow_nil _ _ _ _, fun i hi => by omega⟩⟩⟩
      case round =>
        clear hz harr4 hst4
        obtain ⟨k, A, c, RA, RC, hk, rfl, rfl, H⟩ := hrel
        have HBw := Lib.hid (HBr.out.trans (H.only.below (B := w.heap.size) (fun j _ c => by omega) (by omega)))
        have hvar := H.only.cell hvar4 (by simp)
        obtain ⟨g0, g1, g2, g3⟩ := (H.only.box hbox4 (by omega)).four
        by_cases hlt : k < nt
        · obtain ⟨bt, ot, rfl, x0⟩ := (ht1.keeps (Keeps.of_below HBw.out)).at_ hlt
          go_wp2_with fail
          clear g0 g1 g2 g3 x0
          have hbk := HT2.out k hlt
          generalize TA k = Ak at hbk ⊢
          obtain ⟨wo, rfl⟩ : ∃ wo : World, wo = wr := ⟨_, rfl⟩
          obtain ⟨V0, hA0, hV0⟩ := H.v
          have hszo := H.only.size
          go_loopw [52] (fun i wi => ∃ m : Nat, m ≤ g.ins.toNat ∧ i = .int .i64 m ∧ Only (fun j => j = bv) wo wi ∧ Hid (∃ V : Nat → Bool, Arr wi bv 4 nv (fun j => .bool (V j)) ∧ ∀ j, j ≤ m → V j = g.head (fun i => decide (i < TL k) && T k i) (g.state (fun c i => decide (i < TL c) && T c i) k) j)) (fun i _ => g.ins.toNat - (intOf i).toNat)
          case atStart => exact ⟨0, by omega, rfl, Only.refl _ _, V0, hA0, fun j hj => by obtain rfl : j = 0 := (by omega); exact hV0.trans rfl⟩
          case round =>
            obtain ⟨m, hm, rfl, HO, HS⟩ := hrel
            obtain ⟨V, hA, hV⟩ := HS.out
            have HV := Lib.hid hV; clear hV
            have HBi := Lib.hid (HBw.out.trans (HO.below (B := w.heap.size) (fun j _ c => by omega) (by omega)))
            have hvi : wr.cell? ⟨bv + 1, 0, none⟩ = some (.slice (some ⟨bv, 0, none⟩) nv nv) := HO.cell hvar (by simp)
            have hnv : g.ins.toNat + 1 ≤ nv := by have := HNV.out; omega
            by_cases hlt : m < g.ins.toNat
            · -- body
              -- [[in
              have hca := hA.cell (k := m + 1) (by omega)
              have hfa := hA.thaw (m + 1)
              by_cases hin : m < TL k
              · obtain ⟨bi, oi, rfl, y0⟩ := (hbk.keeps (Keeps.of_below HBi.out)).at_ hin
                have hd : decide ((m : Int) < (TL k : Int)) = true := by simp; omega
                have e4 : 1 + (m : Int) < nv := by omega
                have e2 : 0 ≤ 1 + (m : Int) := by omega
                have e3 : (1 + (m : Int)).toNat = m + 1 := by omega
                have e1 : IntKind.i64.wrap (1 + (m : Int)) = 1 + m := IntWalk.i64_in _ (by omega)
                go_wp2_with fail
                go_still_tail 14, (by kernel_rfl)
                change wpList _ _ _ _ _ wr.drew
                clear e1 e2 e3 e4
                go_wp2_with fail
                refine ⟨⟨m + 1, by omega, by go_num, (HO.setCell (p := ⟨bv, m + 1, none⟩) (fun _ => rfl) _).drew, fun j => if j = m + 1 then T k m else V j, hA.set (fun j _ hj => by simp [hj]) (by simp), fun j hj => ?_⟩, by simp [intOf]; omega⟩
                by_cases e : j = m + 1
                · simp only [if_pos e]; rw [e, G.head_in _ _ _ hlt]; simp [hin]
                · simp only [if_neg e]; exact HV.out j (by omega)
              · have hd : decide ((m : Int) < (TL k : Int)) = false := by simp; omega
                have e4 : 1 + (m : Int) < nv := by omega
                have e2 : 0 ≤ 1 + (m : Int) := by omega
                have e3 : (1 + (m : Int)).toNat = m + 1 := by omega
                have e1 : IntKind.i64.wrap (1 + (m : Int)) = 1 + m := IntWalk.i64_in _ (by omega)
                go_wp2_with fail
                go_still_tail 14, (by kernel_rfl)
                change wpList _ _ _ _ _ wr.drew
                clear e1 e2 e3 e4
                go_wp2_with fail
                refine ⟨⟨m + 1, by omega, by go_num, (HO.setCell (p := ⟨bv, m + 1, none⟩) (fun _ => rfl) _).drew, fun j => if j = m + 1 then false else V j, hA.set (fun j _ hj => by simp [hj]) (by simp), fun j hj => ?_⟩, by simp [intOf]; omega⟩
                by_cases e : j = m + 1
                · simp only [if_pos e]; rw [e, G.head_in _ _ _ hlt]; simp [hin]
                · simp only [if_neg e]; exact HV.out j (by omega)
              -- ]]in
            · have hme : m = g.ins.toNat := by omega
              have HME := Lib.hid hme; clear hme
              have hA' : Arr wr bv 4 nv (fun j => .bool (V j)) := hA
              have hst := H.st.only HO (by omega)
              have hboxr := HO.box (H.only.box hbox4 (by omega)) (by omega)
              have hvr : wr.cell? ⟨bv + 1, 0, none⟩ = some (.slice (some ⟨bv, 0, none⟩) nv nv) := HO.cell hvar (by simp)
              obtain ⟨g0, g1, g2, g3⟩ := hboxr.four
              have HOO := Lib.hid HO
              clear HO hA HS hbk hA0 hvi
              go_upto_region 18 with (fail)
              go_cut [] (fun wx => Arr wx bv 4 nv (over (fun j => .bool (V j)) (fun j => .bool (g.state (fun c i => decide (i < TL c) && T c i) k j)) (g.ins.toNat + 1) g.n1) ∧ Only (fun k => k = bv) wr wx)
              case first =>
                have hsl : 1 + g.ins ≤ (nv : Int) := by rw [HNV.out]; omega
                have hn12 : nv = g.ins.toNat + 1 + g.n1 + g.n2 := by have := HNV.out; omega
                have HN12 := Lib.hid hn12; clear hn12
                by_cases hz : (nv : Int) = 1 + g.ins
                · have hz' : g.n1 = 0 ∧ g.n2 = 0 := by have := HN12.out; omega
                  have HZ := Lib.hid hz; have HZ' := Lib.hid hz'; clear hz'
                  go_wp2_with (with_reducible refine wp_copy rfl (.tmp 74) (.tmp 75) _ _ rfl _ Try.underlying31 szB _ _ _ _ _ _ rfl rfl bv (g.ins.toNat + 1) nv _ _ hA' g.n1 _ ?_ ?_ hst.row ?_ ?_ ?_; rotate_left 4; intro w' hAc hOc)
                  · go_meet; exact ⟨hAc, hOc⟩
                  · show g.n1 = min g.n1 (nv - (1 + g.ins).toNat)
                    have := HZ'.out; omega
                  · intro h0; have := HZ'.out; omega
                  · have := HN12.out; omega
                  · intro j _; rfl
                · have hlo : 1 + g.ins < (nv : Int) := by omega
                  -- [[cp
                  go_wp2_with (with_reducible refine wp_copy rfl (.tmp 74) (.tmp 75) _ _ rfl _ Try.underlying31 szB _ _ _ _ _ _ rfl rfl bv (g.ins.toNat + 1) nv _ _ hA' g.n1 _ ?_ ?_ hst.row ?_ ?_ ?_; rotate_left 4; intro w' hAc hOc)
                  · go_meet; exact ⟨hAc, hOc⟩
                  · show g.n1 = min g.n1 (nv - (1 + g.ins).toNat)
                    have := HN12.out; omega
                  · intro _; rw [show (1 + g.ins).toNat = g.ins.toNat + 1 by omega]
                  · have := HN12.out; omega
                  · intro j _; rfl
                  -- ]]cp
              case rest =>
                obtain ⟨hAx, hOx⟩ := hcut
                have hboxx := hOx.box hboxr (by omega)
                have hstx := hst.only hOx (by omega)
                have hvx := hOx.cell hvr (by simp)
                have hszx := hOx.size
                have hszr := HOO.out.size
                have HOW := Lib.hid (HOO.out.trans hOx)
                have hV0 : Arr wc bv 4 nv (fun j => .bool (over' V (g.state (fun c i => decide (i < TL c) && T c i) k) (g.ins.toNat + 1) g.n1 j)) := hAx.congr (fun j _ => by unfold over over'; split <;> rfl)
                have HV1 : Hid (∀ j, j < g.first → over' V (g.state (fun c i => decide (i < TL c) && T c i) k) (g.ins.toNat + 1) g.n1 j = g.cyc (fun i => decide (i < TL k) && T k i) (g.state (fun c i => decide (i < TL c) && T c i) k) 0 j) := fun j hj => by
                  unfold over'
                  have hf : g.first = g.ins.toNat + 1 + g.n1 := by unfold G.first; omega
                  by_cases h : g.ins.toNat + 1 ≤ j ∧ j < g.ins.toNat + 1 + g.n1
                  · rw [if_pos h]
                    have := G.head_st g (fun i => decide (i < TL k) && T k i) (g.state (fun c i => decide (i < TL c) && T c i) k) (k := j - (g.ins.toNat + 1)) (by omega)
                    rw [show g.ins.toNat + 1 + (j - (g.ins.toNat + 1)) = j by omega] at this
                    exact this.symm
                  · rw [if_neg h]; exact HV.out j (by have := HME.out; omega)
                clear hAx hOx hst hvr hboxr HOO hA'
                generalize over' V (g.state (fun c i => decide (i < TL c) && T c i) k) (g.ins.toNat + 1) g.n1 = V1 at hV0 HV1
                obtain ⟨g0, g1, g2, g3⟩ := hboxx.four
                go_wp2_with fail
                clear g0 g1 g2 g3
                go_loopw [86] (fun i wi => ∃ m : Nat, m ≤ g.n2 ∧ i = .int .i64 m ∧ Only (fun j => j = bv) wc wi ∧ Hid (∃ V : Nat → Bool, Arr wi bv 4 nv (fun j => .bool (V j)) ∧ ∀ j, j < g.first + m → V j = g.cyc (fun i => decide (i < TL k) && T k i) (g.state (fun c i => decide (i < TL c) && T c i) k) m j)) (fun i _ => g.n2 - (intOf i).toNat)
                case atStart => exact ⟨0, by omega, rfl, Only.refl _ _, V1, hV0, HV1.out⟩
                case round =>
                  obtain ⟨m, hm, rfl, HO, HS⟩ := hrel
                  obtain ⟨V2, hA2, hV2⟩ := HS.out
                  have HV2 := Lib.hid hV2; clear hV2
                  have HBg := Lib.hid (HBw.out.trans ((HOW.out.then_ HO (fun i _ h => h)).below (B := w.heap.size) (fun j _ c => by omega) (by omega)))
                  have hfn : g.first + g.n2 = nv := by have := HNV.out; unfold G.first; omega
                  have HFN := Lib.hid hfn; clear hfn
                  by_cases hlt : m < g.n2
                  · -- gates
                    -- [[gate
                    obtain ⟨b2, o2, rfl, x0, y0⟩ := (hg.keeps (Keeps.of_below HBg.out)).ands.at2 hlt
                    simp only [two] at x0 y0
                    have hok := hv.ands m hlt
                    unfold G.AndOk at hok
                    go_wp2_with fail
                    have hfst : (g.first : Int) = 1 + g.ins + g.n1 := by unfold G.first; omega
                    have hAo := hA2.alloc (.cells #[.int .i64 (g.X m), .int .i64 (g.Y m)] 59)
                    have hvo : VarAt (wr.alloc (.cells #[.int .i64 (g.X m), .int .i64 (g.Y m)] 59)) (bv + 1) bv nv := Keeps.alloc _ _ _ _ (HO.cell hvx (by simp))
                    have hvc : (wr.alloc (.cells #[.int .i64 (g.X m), .int .i64 (g.Y m)] 59)).cell? ⟨bv + 1, 0, none⟩ = some (.slice (some ⟨bv, 0, none⟩) nv nv) := hvo
                    have HX := Lib.hid (fun b (hb : litF V2 (g.X m) = b) W hW => at_still hvo hAo (l := g.X m) (by omega) (by have := HFN.out; omega) (by omega) hb W hW)
                    have HY := Lib.hid (fun b (hb : litF V2 (g.Y m) = b) W hW => at_still hvo hAo (l := g.Y m) (by omega) (by have := HFN.out; omega) (by omega) hb W hW)
                    have HVX := Lib.hid (show litF V2 (g.X m) = litF (g.cyc (fun i => decide (i < TL k) && T k i) (g.state (fun c i => decide (i < TL c) && T c i) k) m) (g.X m) from litF_congr (g.first + m) HV2.out (by omega) (by omega))
                    have HVY := Lib.hid (show litF V2 (g.Y m) = litF (g.cyc (fun i => decide (i < TL k) && T k i) (g.state (fun c i => decide (i < TL c) && T c i) k) m) (g.Y m) from litF_congr (g.first + m) HV2.out (by omega) (by omega))
                    have hca := hAo.cell (k := g.first + m) (by have := HFN.out; omega)
                    have hfa := hAo.thaw (g.first + m)
                    have hlo : 1 + g.ins + (g.n1 : Int) + m < nv := by have := HFN.out; omega
                    have e2 : 0 ≤ 1 + g.ins + (g.n1 : Int) + m := by omega
                    have e3 : (1 + g.ins + (g.n1 : Int) + m).toNat = g.first + m := by omega
                    have e1 : IntKind.i64.wrap (1 + g.ins + (g.n1 : Int) + m) = 1 + g.ins + (g.n1 : Int) + m := IntWalk.i64_in _ (by omega)
                    clear hfst
                    have hOq := HO.alloc (.cells #[.int .i64 (g.X m), .int .i64 (g.Y m)] 59)
                    have q0 : (wr.alloc (.cells #[.int .i64 (g.X m), .int .i64 (g.Y m)] 59)).cell? ⟨wr.heap.size, 0, none⟩ = some (.int .i64 (g.X m)) := BoxAt.new wr [.int .i64 (g.X m), .int .i64 (g.Y m)] 59 0 _ rfl
                    have q1 : (wr.alloc (.cells #[.int .i64 (g.X m), .int .i64 (g.Y m)] 59)).cell? ⟨wr.heap.size, 1, none⟩ = some (.int .i64 (g.Y m)) := BoxAt.new wr [.int .i64 (g.X m), .int .i64 (g.Y m)] 59 1 _ rfl
                    clear HO HBg x0 y0
                    generalize wr.alloc (.cells #[.int .i64 (g.X m), .int .i64 (g.Y m)] 59) = wq at *
                    generalize wr.heap.size = bq at *
                    cases hx : litF V2 (g.X m)
                    · have HXX := Lib.hid hx; clear hx
                      go_still_tail 15, (by kernel_rfl)
                      still_call (HX.out _ HXX.out _ rfl)
                      repeat still_step
                      refine wpStill_nil ?_
                      change wpList _ _ _ _ _ wq.drew
                      clear e1 e2 e3
                      go_wp2_with fail
                      refine ⟨⟨m + 1, by omega, by go_num, (hOq.setCell (p := ⟨bv, g.first + m, none⟩) (fun _ => rfl) _).drew, fun j => if j = g.first + m then false else V2 j, hAo.set (fun j _ hj => by simp [hj]) (by simp), fun j hj => ?_⟩, by simp [intOf]; omega⟩
                      by_cases e : j = g.first + m
                      · simp only [if_pos e]; rw [e, G.cyc_at, ← HVX.out, HXX.out]; rfl
                      · simp only [if_neg e]; rw [G.cyc_lo _ _ _ _ _ (by omega)]; exact HV2.out j (by omega)
                    · have HXX := Lib.hid hx; clear hx
                      go_still_tail 15, (by kernel_rfl)
                      still_call (HX.out _ HXX.out _ rfl)
                      repeat still_step
                      still_call (HY.out _ rfl _ rfl)
                      repeat still_step
                      refine wpStill_nil ?_
                      change wpList _ _ _ _ _ wq.drew
                      clear e1 e2 e3
                      go_wp2_with fail
                      refine ⟨⟨m + 1, by omega, by go_num, (hOq.setCell (p := ⟨bv, g.first + m, none⟩) (fun _ => rfl) _).drew, fun j => if j = g.first + m then litF V2 (g.Y m) else V2 j, hAo.set (fun j _ hj => by simp [hj]) (by simp), fun j hj => ?_⟩, by simp [intOf]; omega⟩
                      by_cases e : j = g.first + m
                      · simp only [if_pos e]; rw [e, G.cyc_at, ← HVX.out, HXX.out, ← HVY.out]; rfl
                      · simp only [if_neg e]; rw [G.cyc_lo _ _ _ _ _ (by omega)]; exact HV2.out j (by omega)
                    -- ]]gate
                  · have hA3 : Arr wr bv 4 nv (fun j => .bool (V2 j)) := hA2
                    have hmn : m = g.n2 := by omega
                    have HV3 : Hid (∀ j, j < nv → V2 j = g.vals (fun i => decide (i < TL k) && T k i) (g.state (fun c i => decide (i < TL c) && T c i) k) j) := fun j hj => by
                      have := HV2.out j (by have := HFN.out; omega)
                      rw [this, hmn]; rfl
                    have HOG := Lib.hid (HOW.out.trans HO)
                    have hboxg := HO.box hboxx (by omega)
                    have hstg := hstx.only HO (by omega)
                    have hvg : VarAt wr (bv + 1) bv nv := HO.cell hvx (by simp)
                    have hsg := HO.size
                    have hmat := H.mat.only HOG.out (fun k hk c => by omega)
                    clear HO HS hA2 HV2 hmn
                    obtain ⟨wg, rfl⟩ : ∃ wg : World, wg = wr := ⟨_, rfl⟩
                    obtain ⟨g0, g1, g2, g3⟩ := hboxg.four
                    have hmk3 := fun W => run_mk Try.underlying31 zeroB .i64 .i64 (0 : Int) (g.n3 : Int) (by omega) (by omega) (by omega) (by omega) W
                    simp only [Int.toNat_natCast, Value.cells, Nat.mul_one, Int.toNat_zero] at hmk3
                    go_upto_region 26 with (fail)
                    clear hmk3 g0 g1 g2 g3
                    have hrow0 : GrowB wg (some ⟨wg.heap.size, 0, none⟩) 0 g.n3 (g.row (fun c i => decide (i < TL c) && T c i) k) (wg.alloc (.cells (madeCells #[.bool false] g.n3) 4)) :=
                      ⟨World.ownsRow_made wg _ _ (Nat.le_refl _) (by simp [maxLen]; omega) (by simp [madeCells]), (Below.refl _ _).alloc (Nat.le_refl _) _⟩
                    generalize wg.alloc (.cells (madeCells #[.bool false] g.n3) 4) = wh at *
                    obtain ⟨g0, g1, g2, g3⟩ := (hboxg.keeps (Grow.keeps hrow0)).four
                    go_wp2_with fail
                    clear g0 g1 g2 g3
                    go_loopw [17, 114] (fun v i wi => ∃ (m : Nat) (A : Option Addr) (c : Nat), m ≤ g.n3 ∧ i = .int .i64 m ∧ v = .slice A m c ∧ GrowB wg A m c (g.row (fun c i => decide (i < TL c) && T c i) k) wi) (fun _ i _ => g.n3 - (intOf i).toNat)
                    case atStart => exact ⟨0, _, _, by omega, rfl, rfl, hrow0⟩
                    case round =>
                      clear hrow0
                      obtain ⟨m, Am, cm, hm, rfl, rfl, HG⟩ := hrel
                      have HBg := Lib.hid ((HBw.out.trans (HOG.out.below (B := w.heap.size) (fun j _ c => by omega) (by omega))).trans (HG.bel.mono (by omega)))
                      have hAg := hA3.below HG.bel
                      have hvgr : VarAt wr (bv + 1) bv nv := Grow.keeps HG _ _ hvg
                      have hszg := HG.size
                      by_cases hlt : m < g.n3
                      · obtain ⟨b3, o3, rfl, x0⟩ := (hg.keeps (Keeps.of_below HBg.out)).outs.at_ hlt
                        have hok := hv.outs m hlt
                        unfold G.LitOk at hok
                        have hnv2 : (nv : Int) = 1 + g.ins + g.n1 + g.n2 := HNV.out
                        have HC := Lib.hid (at_any (bv + 1) bv nv V2 (g.O m) wr hvgr hAg (by omega) (by omega) (by omega))
                        have HLC := Lib.hid (show litF V2 (g.O m) = g.row (fun c i => decide (i < TL c) && T c i) k m from litF_congr nv HV3.out (by omega) (by omega))
                        clear hnv2
                        go_wp2_with fail
                        refine HC.out.mono ?_
                        rintro e w' ⟨rfl, rfl⟩
                        rw [HLC.out]
                        go_wp2_with (at_builtin; refine wp_append rfl (.tmp 118) (.tmp 122) _ rfl elBool wg.heap.size Am m cm _ rfl (Grow.alloc HG _).own _ 1 1 [.bool (g.row (fun c i => decide (i < TL c) && T c i) k m)] rfl (src_new _ _ _ rfl) (by omega) (sz_alloc HG.size) ?_; intro A' c' w1 ho hk' hb')
                        go_roundw
                        case rel => exact ⟨m + 1, A', c', by omega, by go_num, rfl, GrowB.push (Grow.alloc HG _) ho hk' (fun _ _ => rfl) rfl⟩
                        case measure => simp [intOf]; omega
                      · obtain rfl : m = g.n3 := by omega
                        have hrow := (rowT_of_bits HG.own).mono (p' := fun b => w4.heap.size ≤ b) (fun b _ hb => by have := HOG.out.size; omega)
                        have hmat2 := hmat.below HG.bel
                        have hst2 := hstg.below HG.bel
                        have hbox2 := hboxg.keeps (Grow.keeps HG)
                        have HO2 := Lib.hid (HOG.out.call HG.bel)
                        have hA4 := hA3.below HG.bel
                        have hv4r : VarAt wr (bv + 1) bv nv := Grow.keeps HG _ _ hvg
                        clear HG hmat hstg hboxg hvg hA3 hAg hvgr HBg
                        have hszr : w4.heap.size ≤ wr.heap.size := by have := HOG.out.size; omega
                        go_upto_region 32 with (at_builtin; refine wp_append rfl (.tmp 125) (.tmp 127) _ rfl elBoolRow w4.heap.size A k c _ rfl (hmat2.alloc _).own _ 1 1 [.slice Am g.n3 cm] rfl (src_new _ _ _ rfl) (by omega) (sz_alloc hszr) ?_; intro A' c' w6 ho hk' hb')
                        have hbA := own_base hmat2.own
                        have hkp := Keeps.alloc wr (.cells #[.slice Am g.n3 cm] 31)
                        have hbox6 := hk'.box (hbox2.keeps hkp) (fun c => by have := hbA _ c; omega)
                        have hst6 := (hst2.alloc (.cells #[.slice Am g.n3 cm] 31)).only hk' (fun c => by have := hbA _ c; omega)
                        have hA6 := (hA4.alloc (.cells #[.slice Am g.n3 cm] 31)).only hk' (fun c => by have := hbA _ c; omega)
                        have hv6 : VarAt w6 (bv + 1) bv nv := hk'.cell (hkp _ _ hv4r) (fun c => by have := hbA (bv + 1) c; omega)
                        have hmat6 : OwnMat w6 w4.heap.size A' (k + 1) c' g.n3 (g.row (fun c i => decide (i < TL c) && T c i)) (lastly k Am RA) (lastly k cm RC) := (hmat2.alloc _).push ho hk' (hrow.below ((Below.refl _ _).alloc (Nat.le_refl _) _))
                        have HO6 : Hid (Only (fun j => j = bv ∨ j = bv + 1 + 1) w4 w6) := ((H.only.then_ HO2.out (fun i _ c => .inl c)).alloc _).then_ hk' (fun i hi c => absurd (hbA _ c) (by omega))
                        clear hk' ho hb' hmat2 hst2 hbox2 hrow HO2 hA4 hv4r hkp
                        have hsz6 := HO6.out.size
                        have HB6 := Lib.hid (HBr.out.trans (HO6.out.below (B := w.heap.size) (fun j _ c => by omega) (by omega)))
                        obtain ⟨g0, g1, g2, g3⟩ := hbox6.four
                        go_wp2_with fail
                        clear g0 g1 g2 g3
                        go_loopw [132] (fun i wi => ∃ m : Nat, m ≤ g.n1 ∧ i = .int .i64 m ∧ Only (fun j => j = bv + 1 + 1) w6 wi ∧ Hid (∃ V : Nat → Bool, Arr wi (bv + 1 + 1) 4 g.n1 (fun j => .bool (V j)) ∧ ∀ j, j < m → V j = g.state (fun c i => decide (i < TL c) && T c i) (k + 1) j)) (fun i _ => g.n1 - (intOf i).toNat)
                        case atStart => exact ⟨0, by omega, rfl, Only.refl _ _, _, hst6, fun j hj => by omega⟩
                        case round =>
                          obtain ⟨m, hm, rfl, HOl, HSl⟩ := hrel
                          obtain ⟨V5, hA5, hV5⟩ := HSl.out
                          have HV5 := Lib.hid hV5; clear hV5
                          have HBl := Lib.hid (HB6.out.trans (HOl.below (B := w.heap.size) (fun j _ c => by omega) (by omega)))
                          by_cases hlt : m < g.n1
                          · obtain ⟨b1, o1, rfl, x0, y0⟩ := (hg.keeps (Keeps.of_below HBl.out)).lat.at2 hlt
                            simp only [two] at x0 y0
                            have hok := hv.lat m hlt
                            unfold G.LitOk at hok
                            have hca := fun o => (hA5.alloc o).cell hlt
                            have hfa := fun o => (hA5.alloc o).thaw m
                            have hnv2 : (nv : Int) = 1 + g.ins + g.n1 + g.n2 := HNV.out
                            have HC := Lib.hid (fun o => at_any (bv + 1) bv nv V2 (g.L m) (wr.alloc o) (Keeps.alloc _ _ _ _ (HOl.cell hv6 (by simp))) ((hA6.only HOl (by omega)).alloc o) (by omega) (by omega) (by omega))
                            have HLC := Lib.hid (show litF V2 (g.L m) = g.state (fun c i => decide (i < TL c) && T c i) (k + 1) m from litF_congr nv HV3.out (by omega) (by omega))
                            clear hnv2
                            go_wp2_with fail
                            refine (HC.out _).mono ?_
                            rintro e w' ⟨rfl, rfl⟩
                            rw [HLC.out]
                            go_wp2_with fail
                            refine ⟨⟨m + 1, by omega, by go_num, (HOl.alloc _).setCell (p := ⟨bv + 1 + 1, m, none⟩) (fun _ => rfl) _, fun j => if j = m then g.state (fun c i => decide (i < TL c) && T c i) (k + 1) m else V5 j, (hA5.alloc _).set (fun j _ hj => by simp [hj]) (by simp), fun j hj => ?_⟩, by simp [intOf]; omega⟩
                            by_cases e : j = m
                            · simp only [if_pos e]; rw [e]
                            · simp only [if_neg e]; exact HV5.out j (by omega)
                          · obtain rfl : m = g.n1 := by omega
                            have hnv2 := HNV.out
                            have hst7 : Arr wr (bv + 1 + 1) 4 g.n1 (fun j => .bool (g.state (fun c i => decide (i < TL c) && T c i) (k + 1) j)) := hA5.congr (fun j hj => by rw [HV5.out j hj])
                            have hA7 := hA6.only HOl (by omega)
                            have hmat7 := hmat6.only HOl (fun k hk c => by omega)
                            have hO7 := HO6.out.then_ HOl (fun i _ c => .inr c)
                            have hv0 : V2 0 = false := (HV3.out 0 (by omega)).trans (G.vals_zero _ _ _)
                            clear hnv2
                            go_wp2_with fail
                            go_roundw
                            case rel => exact ⟨k + 1, A', c', _, _, by omega, by go_num, rfl, ⟨hO7, hst7, ⟨V2, hA7, hv0⟩, hmat7⟩⟩
                            case measure => simp [intOf]; omega
        · obtain rfl : k = nt := by omega
          have hsz := H.only.size
          go_wp2_with fail
          go_ret
          exact ⟨A, c, RA, RC, rfl, ⟨own_mono H.mat.own (by omega), fun i hi => (H.mat.rows i hi).mono (fun b _ hb => by omega)⟩, HBw.out⟩
end Go.Proofs.Ytdhgbikmaglgpaa
