/- aig.Clean, walked: it returns the clean graph in new memory. Conditions: the graph is valid and lies in memory. -/
import Derived.Test.YtdhgbikmaglgpaaClose
namespace Go.Proofs.Ytdhgbikmaglgpaa
open Go.RowKit

theorem zeroInt : (Try.prog.info? 3).map (fun i => (i.zero, i.size, i.bytes)) = some (some (.int .i64 0), 1, 8) := by kernel_rfl

theorem RowS.only {S : Nat → Prop} {w w1 : World} {s n : Nat} {A : Option Addr} {f : Nat → Nat → Value} (h : RowS w s A n f) (k : Only S w w1) (hs : ∀ b, blockOf A b → ¬ S b) : RowS w1 s A n f := fun hn => by
  obtain ⟨b, off, rfl, hc⟩ := h hn
  exact ⟨b, off, rfl, fun i hi j hj => k.cell (hc i hi j hj) (hs b ⟨_, rfl, rfl⟩)⟩
theorem Row1.only {S : Nat → Prop} {w w1 : World} {n : Nat} {A : Option Addr} {f : Nat → Value} (h : Row1 w A n f) (k : Only S w w1) (hs : ∀ b, blockOf A b → ¬ S b) : Row1 w1 A n f := fun hn => by
  obtain ⟨b, off, rfl, hc⟩ := h hn
  exact ⟨b, off, rfl, fun i hi => k.cell (hc i hi) (hs b ⟨_, rfl, rfl⟩)⟩

theorem G.to_no (g : G) {k : Nat} (h : g.need (g.first + k) = false) (j : Nat) : g.to (k + 1) j = g.to k j := by
  rw [G.to_step]
  by_cases e : j = g.first + k
  · rw [if_pos e, e, h, G.to_new]; rfl
  · rw [if_neg e]

/-- where Clean stands among the gates -/
structure KAt (g : G) (w8 wr : World) (bm bt nv : Nat) (v1 v4 : Value) (k : Nat) (Aa : Option Addr) (ca : Nat) : Prop where
  only : Only (fun j => j = bm ∨ j = bt) w8 wr
  tos : Arr wr bt 3 nv (fun j => .int .i64 (g.to k j))
  ands : wr.ownsRow w8.heap.size 59 2 (.slice Aa (g.cnt k) ca) (g.cnt k) (flat2 (fun j => two (.int .i64 (g.cx g.X k j)) (.int .i64 (g.cx g.Y k j))) (g.cnt k))
  box : MBox wr bm (.int .i64 g.ins) v1 (.slice Aa (g.cnt k) ca) (.slice none 0 0) v4

theorem KAt.gate {g : G} {w8 wq w7 : World} {bm bt nv k ca ca' : Nat} {v1 v4 : Value} {Aa Aa' : Option Addr} {o : Obj} (h1 : Only (fun j => j = bm ∨ j = bt) w8 wq) (h2 : Arr wq bt 3 nv (fun j => .int .i64 (g.to (k + 1) j)))
    (h3 : wq.ownsRow w8.heap.size 59 2 (.slice Aa (g.cnt k) ca) (g.cnt k) (flat2 (fun j => two (.int .i64 (g.cx g.X k j)) (.int .i64 (g.cx g.Y k j))) (g.cnt k)))
    (h4 : MBox wq bm (.int .i64 g.ins) v1 (.slice Aa (g.cnt k) ca) (.slice none 0 0) v4) (hbm : bm < w8.heap.size) (hbt : bt < w8.heap.size) (hne : bm ≠ bt) (hx : g.need (g.first + k) = true)
    (hk : Only (blockOf Aa) (wq.alloc o) w7)
    (ho : w7.ownsRow w8.heap.size 59 2 (.slice Aa' (g.cnt k + 1) ca') (g.cnt k + 1) (flat2 (fun j => two (.int .i64 (g.cx g.X k j)) (.int .i64 (g.cx g.Y k j))) (g.cnt k) ++ [.int .i64 (g.mv (g.X k)), .int .i64 (g.mv (g.Y k))])) :
    KAt g w8 (w7.setCell ⟨bm, 2, none⟩ (.slice Aa' (g.cnt k + 1) ca')) bm bt nv v1 v4 (k + 1) Aa' ca' := by
  have hba := own_base h3
  have hb3 := own_base ho
  have o7 := (h1.alloc o).grew hk hba
  have t7 := Arr.only (Arr.alloc h2 o) hk (fun c => by have := hba _ c; omega)
  have b7 : MBox w7 bm (.int .i64 g.ins) v1 (.slice Aa (g.cnt k) ca) (.slice none 0 0) v4 := Arr.only (Arr.alloc h4 o) hk (fun c => by have := hba _ c; omega)
  have os := (Only.refl (fun j => j = bm) w7).setCell (p := ⟨bm, 2, none⟩) (fun _ => rfl) (.slice Aa' (g.cnt k + 1) ca')
  have e : flat2 (fun j => two (.int .i64 (g.cx g.X (k + 1) j)) (.int .i64 (g.cx g.Y (k + 1) j))) (g.cnt k + 1) = flat2 (fun j => two (.int .i64 (g.cx g.X k j)) (.int .i64 (g.cx g.Y k j))) (g.cnt k) ++ [.int .i64 (g.mv (g.X k)), .int .i64 (g.mv (g.Y k))] := by
    simp only [flat2]
    congr 1
    · refine flat2_congr _ fun j hj i hi => ?_
      rw [G.cx_lo g _ hj, G.cx_lo g _ hj]
    · rw [G.cx_yes g _ hx, G.cx_yes g _ hx]; rfl
  refine ⟨o7.trans (os.mono (fun _ _ c => .inl c)), Arr.only t7 os (fun c => hne c.symm), ?_, ?_⟩
  · rw [G.cnt_yes g hx, e]
    exact own_only ho os (fun b c => by have := hb3 b c; omega)
  · rw [G.cnt_yes g hx]
    exact b7.put2 _

set_option maxHeartbeats 20000000 in
set_option maxRecDepth 100000 in
theorem cleanAig_any (g : G) (A1 A2 A3 : Option Addr) (c1 c2 c3 : Nat) (w : World) (hg : g.At w A1 A2 A3) (hv : g.Valid) :
    Calls Try.prog 42 #[.agg #[.int .i64 g.ins, .slice A1 g.n1 c1, .slice A2 g.n2 c2, .slice A3 g.n3 c3]] w (MadeG g.clean w) := by
  have v1 := hv.i0; have v2 := hv.i1; have v3 := hv.n; have v4 := hv.n1; have v5 := hv.n3
  obtain ⟨hf, hn⟩ := hv.nums
  obtain ⟨nv, hnv⟩ : ∃ nv : Nat, nv = g.first + g.n2 := ⟨_, rfl⟩
  have hnvi : (nv : Int) = 1 + g.ins + g.n1 + g.n2 := by omega
  have HNV := Lib.hid hnv; have HNVI := Lib.hid hnvi; have HF := Lib.hid hf
  have hnv6 : nv ≤ 60000 := by omega
  have hfn : g.first + g.n2 ≤ 60000 := hn
  have hfv : g.first ≤ nv := by omega
  clear hnv hnvi hf hn
  go_enter Try.func42, Try.ntmps42
  go_upto_region 1 with (fail)
  have hbel : Below w.heap.size w ((w.alloc (.cells #[.int .i64 g.ins, .slice A1 g.n1 c1, .slice A2 g.n2 c2, .slice A3 g.n3 c3] 26)).alloc (.cells #[.int .i64 0, .slice none 0 0, .slice none 0 0, .slice none 0 0] 26)) := ((Below.refl _ _).alloc (Nat.le_refl _) _).alloc (by simp) _
  have hbx := (BoxAt.new w [.int .i64 g.ins, .slice A1 g.n1 c1, .slice A2 g.n2 c2, .slice A3 g.n3 c3] 26).keeps (Keeps.alloc _ (.cells #[.int .i64 0, .slice none 0 0, .slice none 0 0, .slice none 0 0] 26))
  have hrs := GBox.new (w.alloc (.cells #[.int .i64 g.ins, .slice A1 g.n1 c1, .slice A2 g.n2 c2, .slice A3 g.n3 c3] 26)) (.int .i64 0) (.slice none 0 0) (.slice none 0 0) (.slice none 0 0)
  rw [show (w.alloc (.cells #[.int .i64 g.ins, .slice A1 g.n1 c1, .slice A2 g.n2 c2, .slice A3 g.n3 c3] 26)).heap.size = w.heap.size + 1 by simp] at hrs
  have hsz : ((w.alloc (.cells #[.int .i64 g.ins, .slice A1 g.n1 c1, .slice A2 g.n2 c2, .slice A3 g.n3 c3] 26)).alloc (.cells #[.int .i64 0, .slice none 0 0, .slice none 0 0, .slice none 0 0] 26)).heap.size = w.heap.size + 2 := by simp
  generalize ((w.alloc (.cells #[.int .i64 g.ins, .slice A1 g.n1 c1, .slice A2 g.n2 c2, .slice A3 g.n3 c3] 26)).alloc (.cells #[.int .i64 0, .slice none 0 0, .slice none 0 0, .slice none 0 0] 26)) = w1 at *
  have HB1 := Lib.hid hbel; clear hbel
  obtain ⟨g0, g1, g2, g3⟩ := hbx.four
  have e1 : IntKind.i64.wrap (1 + g.ins + (g.n1 : Int)) = g.first := by rw [HF.out]; exact IntWalk.i64_in _ (by omega)
  go_wp2_with fail
  refine (variables_any _ _ _ _ _ _ _ _ _ _ _ (by omega) (by omega) (by omega) (by omega)).mono ?_
  rw [← HNVI.out]
  rintro e w2 ⟨rfl, hb2⟩
  have HB2 := Lib.hid (Below.then_call HB1.out hb2 (by omega))
  have hbx2 := hbx.keeps (Keeps.of_below hb2)
  have hrs2 : GBox w2 (w.heap.size + 1) (.int .i64 0) (.slice none 0 0) (.slice none 0 0) (.slice none 0 0) := Arr.below hrs hb2
  have hs2 := hb2.size
  clear hb2 hrs hbx g0 g1 g2 g3 e1
  have hmk := fun W => run_mk Try.underlying31 zeroB .i64 .i64 (nv : Int) nv (by omega) (by omega) (by omega) (by omega) W
  simp only [Int.toNat_natCast, Value.cells, Nat.mul_one] at hmk
  go_upto_region 3 with (fail)
  clear hmk
  have hbA : Below w2.heap.size w2 (w2.alloc (.cells (madeCells #[.bool false] nv) 4)) := (Below.refl _ _).alloc (Nat.le_refl _) _
  have harr : Arr (w2.alloc (.cells (madeCells #[.bool false] nv) 4)) w2.heap.size 4 nv (fun j => .bool (g.needO 0 j)) := Arr.made w2 (.bool false) nv 4
  have hsA : (w2.alloc (.cells (madeCells #[.bool false] nv) 4)).heap.size = w2.heap.size + 1 := by simp
  generalize w2.alloc (.cells (madeCells #[.bool false] nv) 4) = w3 at *
  have HB3 := Lib.hid (Below.then_call HB2.out hbA (by omega))
  have hbx3 := hbx2.keeps (Keeps.of_below hbA)
  have hrs3 : GBox w3 (w.heap.size + 1) (.int .i64 0) (.slice none 0 0) (.slice none 0 0) (.slice none 0 0) := Arr.below hrs2 hbA
  clear hbA hbx2 hrs2 HB2
  generalize w2.heap.size = bn at *
  obtain ⟨g0, g1, g2, g3⟩ := hbx3.four
  go_wp2_with fail
  clear g0 g1 g2 g3
  go_loopw [29] (fun i wr => ∃ k : Nat, k ≤ g.n3 ∧ i = .int .i64 k ∧ Only (fun j => j = bn) w3 wr ∧ Arr wr bn 4 nv (fun j => .bool (g.needO k j))) (fun i _ => g.n3 - (intOf i).toNat)
  case atStart => exact ⟨0, by omega, rfl, Only.refl _ _, harr⟩
  case round =>
    clear harr
    obtain ⟨k, hk, rfl, HO, HA⟩ := hrel
    have HBr := Lib.hid (HB3.out.trans (HO.below (B := w.heap.size) (fun j _ c => by omega) (by omega)))
    have hbxr := HO.box hbx3 (by omega)
    obtain ⟨g0, g1, g2, g3⟩ := hbxr.four
    by_cases hlt : k < g.n3
    · obtain ⟨b1, o1, rfl, x0⟩ := (hg.outs.keeps (Keeps.of_below HBr.out)).at_ hlt
      have hok := hv.outs k hlt
      unfold G.LitOk at hok
      have h0 : 0 ≤ g.O k := hok.1
      have h1 : g.O k / 2 < nv := by have := HNVI.out; omega
      have h2 : 0 ≤ g.O k / 2 := by omega
      have hca := HA.cell (k := (g.O k / 2).toNat) (by omega)
      have hfa := HA.thaw (g.O k / 2).toNat
      go_wp2_with fail
      refine ⟨⟨k + 1, by omega, by go_num, HO.setCell (p := ⟨bn, (g.O k / 2).toNat, none⟩) (fun _ => rfl) _, HA.mark h0⟩, by simp [intOf]; omega⟩
    · obtain rfl : k = g.n3 := by omega
      have HA' : Arr wr bn 4 nv (fun j => .bool (g.needL 0 j)) := HA
      clear HA
      go_wp2_with fail
      clear g0 g1 g2 g3
      go_loopw [41] (fun i wr => ∃ k : Nat, k ≤ g.n1 ∧ i = .int .i64 k ∧ Only (fun j => j = bn) w3 wr ∧ Arr wr bn 4 nv (fun j => .bool (g.needL k j))) (fun i _ => g.n1 - (intOf i).toNat)
      case atStart => exact ⟨0, by omega, rfl, HO, HA'⟩
      case round =>
        clear HA' HO HBr hbxr
        obtain ⟨k, hk, rfl, HO, HA⟩ := hrel
        have HBr := Lib.hid (HB3.out.trans (HO.below (B := w.heap.size) (fun j _ c => by omega) (by omega)))
        have hbxr := HO.box hbx3 (by omega)
        obtain ⟨g0, g1, g2, g3⟩ := hbxr.four
        by_cases hlt : k < g.n1
        · obtain ⟨b1, o1, rfl, x0, x1⟩ := (hg.lat.keeps (Keeps.of_below HBr.out)).at2 hlt
          simp only [two] at x0 x1
          have hok := hv.lat k hlt
          unfold G.LitOk at hok
          have h0 : 0 ≤ g.L k := hok.1
          have h1 : g.L k / 2 < nv := by have := HNVI.out; omega
          have h2 : 0 ≤ g.L k / 2 := by omega
          have hAq := HA.alloc (.cells #[.int .i64 (g.L k), .bool (g.I k)] 68)
          have hOq := HO.alloc (.cells #[.int .i64 (g.L k), .bool (g.I k)] 68)
          have q0 : (wr.alloc (.cells #[.int .i64 (g.L k), .bool (g.I k)] 68)).cell? ⟨wr.heap.size, 0, none⟩ = some (.int .i64 (g.L k)) := BoxAt.new wr [.int .i64 (g.L k), .bool (g.I k)] 68 0 _ rfl
          go_upto_region 11 with (fail)
          generalize wr.alloc (.cells #[.int .i64 (g.L k), .bool (g.I k)] 68) = wq at *
          clear HA HO x0 x1
          generalize wr.heap.size = bq at *
          have hca := hAq.cell (k := (g.L k / 2).toNat) (by omega)
          have hfa := hAq.thaw (g.L k / 2).toNat
          go_wp2_with fail
          refine ⟨⟨k + 1, by omega, by go_num, hOq.setCell (p := ⟨bn, (g.L k / 2).toNat, none⟩) (fun _ => rfl) _, hAq.mark h0⟩, by simp [intOf]; omega⟩
        · obtain rfl : k = g.n1 := by omega
          have HA' : Arr wr bn 4 nv (fun j => .bool (g.needA 0 j)) := HA
          clear HA
          go_wp2_with fail
          clear g0 g1 g2 g3
          go_loopw [9] (fun i wr => ∃ k : Nat, k ≤ g.n2 ∧ i = .int .i64 ((g.n2 : Int) - 1 - k) ∧ Only (fun j => j = bn) w3 wr ∧ Arr wr bn 4 nv (fun j => .bool (g.needA k j))) (fun i _ => (intOf i + 1).toNat)
          case atStart => exact ⟨0, by omega, congrArg (Value.int .i64) (by omega), HO, HA'⟩
          case round =>
            clear HA' HO HBr hbxr
            obtain ⟨k, hk, rfl, HO, HA⟩ := hrel
            have HBr := Lib.hid (HB3.out.trans (HO.below (B := w.heap.size) (fun j _ c => by omega) (by omega)))
            have hbxr := HO.box hbx3 (by omega)
            obtain ⟨g0, g1, g2, g3⟩ := hbxr.four
            by_cases hlt : k < g.n2
            · rw [show (g.n2 : Int) - 1 - k = ((g.n2 - 1 - k : Nat) : Int) by omega]
              obtain ⟨m, hm⟩ : ∃ m, m = g.n2 - 1 - k := ⟨_, rfl⟩
              have HM := Lib.hid hm
              rw [← hm]
              have hm2 : m < g.n2 := by omega
              clear hm
              have e2 : 0 ≤ (g.first : Int) + m := by omega
              have e3 : ((g.first : Int) + m).toNat = g.first + m := by omega
              have hfm : g.first + m < nv := by have := HNV.out; omega
              have e4 : (g.first : Int) + m < nv := by omega
              have e1 : IntKind.i64.wrap ((g.first : Int) + m) = (g.first : Int) + m := IntWalk.i64_in _ (by omega)
              have hcn := HA.cell hfm
              cases hx : g.needA k (g.first + m)
              · rw [hx] at hcn
                have HA2 : Arr wr bn 4 nv (fun j => .bool (g.needA (k + 1) j)) := HA.congr (fun j _ => by simp only [G.needA, ← HM.out, hx]; rfl)
                go_wp2_with fail
                refine ⟨⟨k + 1, by omega, congrArg (Value.int .i64) (by have := HM.out; omega), HO, HA2⟩, by have := HM.out; simp [intOf]; try omega⟩
              · rw [hx] at hcn
                obtain ⟨b1, o1, rfl, x0, x1⟩ := (hg.ands.keeps (Keeps.of_below HBr.out)).at2 hm2
                simp only [two] at x0 x1
                have hok := hv.ands m hm2
                have hlo := hv.lo hm2
                unfold G.AndOk at hok
                go_upto_region 17 with (fail)
                -- [[pair
                have h0 : 0 ≤ g.X m := hok.1.1
                have h1 : g.X m / 2 < nv := by have := HNVI.out; omega
                have h2 : 0 ≤ g.X m / 2 := by omega
                have j0 : 0 ≤ g.Y m := hok.2.1
                have j1 : g.Y m / 2 < nv := by have := HNVI.out; omega
                have j2 : 0 ≤ g.Y m / 2 := by omega
                have m0 : (0 : Int) ≤ m := by omega
                have m1 : (m : Int) < g.n2 := by omega
                have hne : b1 ≠ bn := by
                  obtain ⟨b1', o1', hAe, x0', _⟩ := hg.ands.at2 hm2
                  obtain ⟨rfl, rfl⟩ : b1 = b1' ∧ o1 = o1' := by simpa using hAe
                  have := World.block_lt_of_cell? w _ x0'
                  simp only at this
                  omega
                have hca := HA.cell (k := (g.X m / 2).toNat) (by omega)
                have hfa := HA.thaw (g.X m / 2).toNat
                obtain ⟨g0, g1, g2, g3⟩ := hbxr.four
                refine wp_region_z (fun w' => w'.cell? ⟨w.heap.size, 2, none⟩ = some (.slice (some ⟨b1, o1, none⟩) g.n2 c2) ∧ w'.cell? ⟨b1, o1 + m * 2, none⟩ = some (.int .i64 (g.X m)) ∧ w'.cell? ⟨b1, o1 + m * 2 + 1, none⟩ = some (.int .i64 (g.Y m))) [0, 1, 2, 3, 4, 5, 6, 7, 8, 9, 10, 11, 12, 13, 14, 15] [18, 19] (by kernel_rfl) (by kernel_rfl) (by kernel_rfl) (by rfl) (fun _ _ _ _ e h => ⟨e.symm.trans h.1, h.2⟩) ⟨g2, x0, x1⟩ ?_
                iterate 16
                  refine Heads.step (v := ?_) rfl (by rfl) (fun W hW => ?_) ?_
                  rotate_left
                  · (obtain ⟨s0, s1, s2⟩ := hW; go_simp; try with_reducible rfl)
                refine AnyZ.one (i := 16) (by kernel_rfl) rfl (fun K hK => ?_)
                go_simp
                refine hK _ _ (fun _ => ⟨g2, x0, x1⟩) ?_
                clear hK
                refine AnyZ.one (i := 17) (by kernel_rfl) rfl (fun K hK => ?_)
                go_simp
                have f1 := set_far (b := bn) (i := (g.X m / 2).toNat) (u := .bool true) g2 (by show w.heap.size ≠ bn; omega)
                have f2 := set_far (b := bn) (i := (g.X m / 2).toNat) (u := .bool true) x0 hne
                have f3 := set_far (b := bn) (i := (g.X m / 2).toNat) (u := .bool true) x1 hne
                refine hK _ _ (fun _ => ⟨f1, f2, f3⟩) ?_
                clear hK g0 g1 g2 g3
                have HO1 := HO.setCell (p := ⟨bn, (g.X m / 2).toNat, none⟩) (fun _ => rfl) (.bool true)
                have HA1 := HA.mark h0
                generalize wr.setCell ⟨bn, (g.X m / 2).toNat, none⟩ (.bool true) = ws at *
                clear HA HO hca hfa hcn x0 x1 f1 f2 f3 HBr hbxr
                have hca := HA1.cell (k := (g.Y m / 2).toNat) (by omega)
                have hfa := HA1.thaw (g.Y m / 2).toNat
                have HA2 : Arr (ws.setCell ⟨bn, (g.Y m / 2).toNat, none⟩ (.bool true)) bn 4 nv (fun j => .bool (g.needA (k + 1) j)) := (HA1.mark j0).congr (fun j _ => by simp only [G.needA, ← HM.out, hx]; rfl)
                refine AnyZ.one (i := 18) (by kernel_rfl) rfl (fun K hK => ?_)
                go_simp
                refine hK _ _ (fun h => by cases h) ?_
                clear hK
                refine AnyZ.one (i := 19) (by kernel_rfl) rfl (fun K hK => ?_)
                go_simp
                refine hK _ _ (fun h => by cases h) (AnyZ.done (by kernel_rfl) ?_)
                clear hK
                go_wp2_with fail
                refine ⟨⟨k + 1, by omega, congrArg (Value.int .i64) (by have := HM.out; omega), (HO1.setCell (p := ⟨bn, (g.Y m / 2).toNat, none⟩) (fun _ => rfl) _).drew, HA2⟩, by have := HM.out; simp [intOf]; try omega⟩
                -- ]]pair
            · obtain rfl : k = g.n2 := by omega
              rw [show (g.n2 : Int) - 1 - g.n2 = -1 by omega]
              have hrs4 := Arr.only hrs3 HO (by omega)
              have hsz4 := HO.size
              go_wp2_with fail
              refine (newMaker_any g.ins A1 g.n1 c1 g.L g.I wr (hg.lat.keeps (Keeps.of_below HBr.out)) (by omega)).mono ?_
              rintro e w5 ⟨bm, Al, cl, mv, rfl, hm5, hbm, hl5, hb5⟩
              have HB5 := Lib.hid (Below.then_call HBr.out hb5 (by omega))
              have hbx5 := hbxr.keeps (Keeps.of_below hb5)
              have hrs5 : GBox w5 (w.heap.size + 1) (.int .i64 0) (.slice none 0 0) (.slice none 0 0) (.slice none 0 0) := Arr.below hrs4 hb5
              have hn5 : Arr w5 bn 4 nv (fun j => .bool (g.need j)) := Arr.below HA hb5
              have hs5 := hb5.size
              have hbm5 : bm < w5.heap.size := Arr.lt hm5
              have HLO := Lib.hid (fun b (c : blockOf Al b) => And.intro (own_base hl5 b c) (own_lt hl5 b c))
              have hal : ¬ blockOf Al bm := fun c => by
                obtain ⟨a, ha, hb⟩ := c
                subst ha; subst hb
                obtain ⟨cur, hh, _⟩ := hm5
                exact own_type hl5 (by decide) a.block cur hh ⟨a, rfl, rfl⟩
              have hSL := StL.of_own hl5
              generalize hbase : wr.heap.size = base at *
              have hbnb : bn < base := by rw [← hbase]; exact HA.lt
              have hwb : w.heap.size + 2 ≤ base := by omega
              clear hb5 hrs4 HA HO HBr hbxr g0 g1 g2 g3 hrs3 hbx3 HB3 hl5
              obtain ⟨g0, g1, g2, g3⟩ := hbx5.four
              go_wp2_with fail
              refine (variables_any _ _ _ _ _ _ _ _ _ _ _ (by omega) (by omega) (by omega) (by omega)).mono ?_
              rw [← HNVI.out]
              rintro e w6 ⟨rfl, hb6⟩
              have HB6 := Lib.hid (Below.then_call HB5.out hb6 (by omega))
              have hbx6 := hbx5.keeps (Keeps.of_below hb6)
              have hrs6 : GBox w6 (w.heap.size + 1) (.int .i64 0) (.slice none 0 0) (.slice none 0 0) (.slice none 0 0) := Arr.below hrs5 hb6
              have hn6 := Arr.below hn5 hb6
              have hm6 : MBox w6 bm (.int .i64 g.ins) (.slice Al g.n1 cl) (.slice none 0 0) (.slice none 0 0) mv := Arr.below hm5 hb6
              have hSL6 := hSL.below hb6
              have hs6 := hb6.size
              clear hb6 hbx5 hrs5 hn5 hm5 hSL HB5 g0 g1 g2 g3
              have hmk2 := fun W => run_mk Try.underlying24 zeroInt .i64 .i64 (nv : Int) nv (by omega) (by omega) (by omega) (by omega) W
              simp only [Int.toNat_natCast, Value.cells, Nat.mul_one] at hmk2
              go_upto_region 20 with (fail)
              clear hmk2
              have hbelA : Below w6.heap.size w6 ((w6.alloc (.cells (madeCells #[.int .i64 0] nv) 3)).alloc (.cells #[.slice (some ⟨w6.heap.size, 0, none⟩) nv nv] 24)) := ((Below.refl _ _).alloc (Nat.le_refl _) _).alloc (by simp) _
              have hszA : ((w6.alloc (.cells (madeCells #[.int .i64 0] nv) 3)).alloc (.cells #[.slice (some ⟨w6.heap.size, 0, none⟩) nv nv] 24)).heap.size = w6.heap.size + 2 := by simp
              have hvarA : VarAt ((w6.alloc (.cells (madeCells #[.int .i64 0] nv) 3)).alloc (.cells #[.slice (some ⟨w6.heap.size, 0, none⟩) nv nv] 24)) (w6.heap.size + 1) w6.heap.size nv := by
                have hq := BoxAt.new (w6.alloc (.cells (madeCells #[.int .i64 0] nv) 3)) [.slice (some ⟨w6.heap.size, 0, none⟩) nv nv] 24 0 _ rfl
                rw [show (w6.alloc (.cells (madeCells #[.int .i64 0] nv) 3)).heap.size = w6.heap.size + 1 by simp] at hq
                exact hq
              have harrA : Arr ((w6.alloc (.cells (madeCells #[.int .i64 0] nv) 3)).alloc (.cells #[.slice (some ⟨w6.heap.size, 0, none⟩) nv nv] 24)) w6.heap.size 3 nv (fun j => .int .i64 (if j < 0 then 2 * (j : Int) else 0)) := (Arr.made w6 (.int .i64 0) nv 3).below ((Below.refl _ _).alloc (Nat.le_refl _) _)
              generalize ((w6.alloc (.cells (madeCells #[.int .i64 0] nv) 3)).alloc (.cells #[.slice (some ⟨w6.heap.size, 0, none⟩) nv nv] 24)) = w7 at *
              have HB7 := Lib.hid (Below.then_call HB6.out hbelA (by omega))
              have hbx7 := hbx6.keeps (Keeps.of_below hbelA)
              have hrs7 : GBox w7 (w.heap.size + 1) (.int .i64 0) (.slice none 0 0) (.slice none 0 0) (.slice none 0 0) := Arr.below hrs6 hbelA
              have hn7 := Arr.below hn6 hbelA
              have hm7 : MBox w7 bm (.int .i64 g.ins) (.slice Al g.n1 cl) (.slice none 0 0) (.slice none 0 0) mv := Arr.below hm6 hbelA
              have hSL7 := hSL6.below hbelA
              clear hbelA hbx6 hrs6 hn6 hm6 hSL6 HB6
              generalize w6.heap.size = bt at *
              have HL2 := Lib.hid (fun b (c : blockOf Al b) => show b < bt by have := (HLO.out b c).2; omega)
              go_wp2_with fail
              go_loopw [92] (fun i wr => ∃ m : Nat, m ≤ g.first ∧ i = .int .i64 m ∧ Only (fun j => j = bt) w7 wr ∧ Arr wr bt 3 nv (fun j => .int .i64 (if j < m then 2 * (j : Int) else 0))) (fun i _ => g.first - (intOf i).toNat)
              case atStart => exact ⟨0, by omega, rfl, Only.refl _ _, harrA⟩
              case round =>
                clear harrA
                obtain ⟨m, hm, rfl, HO, HT⟩ := hrel
                have hvr : wr.cell? ⟨bt + 1, 0, none⟩ = some (.slice (some ⟨bt, 0, none⟩) nv nv) := HO.cell hvarA (by simp)
                by_cases hlt : m < g.first
                · have hca := HT.cell (k := m) (by omega)
                  have hfa := HT.thaw m
                  have e1 : IntKind.i64.wrap (2 * (m : Int)) = 2 * (m : Int) := IntWalk.i64_in _ (by omega)
                  have e4 : (m : Int) < nv := by omega
                  go_wp2_with fail
                  refine ⟨⟨m + 1, by omega, by go_num, HO.setCell (p := ⟨bt, m, none⟩) (fun _ => rfl) _, HT.set (fun j _ hj => ?_) (by simp)⟩, by simp [intOf]; omega⟩
                  by_cases h : j < m
                  · rw [if_pos h, if_pos (by omega)]
                  · rw [if_neg h, if_neg (by omega)]
                · obtain rfl : m = g.first := by omega
                  have hT8 : Arr wr bt 3 nv (fun j => .int .i64 (g.to 0 j)) := HT.congr (fun j _ => by
                    unfold G.to
                    by_cases h : j < g.first
                    · rw [if_pos h, if_pos h]
                    · rw [if_neg h, if_neg h]; simp [show ¬ j < g.first by omega])
                  have HB8 := Lib.hid (HB7.out.trans (HO.below (B := w.heap.size) (fun j _ c => by omega) (by omega)))
                  have hbx8 := HO.box hbx7 (by omega)
                  have hrs8 : GBox wr (w.heap.size + 1) (.int .i64 0) (.slice none 0 0) (.slice none 0 0) (.slice none 0 0) := Arr.only hrs7 HO (by omega)
                  have hn8 := Arr.only hn7 HO (by omega)
                  have hm8 : MBox wr bm (.int .i64 g.ins) (.slice Al g.n1 cl) (.slice none 0 0) (.slice none 0 0) mv := Arr.only hm7 HO (by omega)
                  have hSL8 := hSL7.only HO (fun b _ _ c e => by have := HL2.out b c; omega)
                  have hs8 := HO.size
                  clear HT HO hbx7 hrs7 hn7 hm7 hSL7 HB7 hvarA
                  obtain ⟨g0, g1, g2, g3⟩ := hbx8.four
                  go_wp2_with fail
                  clear g0 g1 g2 g3
                  obtain ⟨w8, rfl⟩ : ∃ w8 : World, w8 = wr := ⟨_, rfl⟩
                  go_loopw [105] (fun i wi => ∃ (k : Nat) (Aa : Option Addr) (ca : Nat), k ≤ g.n2 ∧ i = .int .i64 k ∧ KAt g w8 wi bm bt nv (.slice Al g.n1 cl) mv k Aa ca) (fun i _ => g.n2 - (intOf i).toNat)
                  case atStart => exact ⟨0, none, 0, by omega, rfl, Only.refl _ _, hT8, World.ownsRow_nil _ _ _ _, hm8⟩
                  case round =>
                    clear hT8
                    obtain ⟨k, Aa, ca, hk, rfl, H⟩ := hrel
                    have HBr := Lib.hid (HB8.out.trans (H.only.below (B := w.heap.size) (fun j _ c => by omega) (by omega)))
                    have hbxr := H.only.box hbx8 (by omega)
                    have hnr := hn8.only H.only (by omega)
                    have hvk : wr.cell? ⟨bt + 1, 0, none⟩ = some (.slice (some ⟨bt, 0, none⟩) nv nv) := H.only.cell hvr (by simp; omega)
                    have hszr := H.only.size
                    have hck := g.cnt_le k
                    obtain ⟨g0, g1, g2, g3⟩ := hbxr.four
                    by_cases hlt : k < g.n2
                    · obtain ⟨b1, o1, rfl, x0, x1⟩ := (hg.ands.keeps (Keeps.of_below HBr.out)).at2 hlt
                      simp only [two] at x0 x1
                      have hok := hv.ands k hlt
                      have hlo := hv.lo hlt
                      unfold G.AndOk at hok
                      have q0 : (wr.alloc (.cells #[.int .i64 (g.X k), .int .i64 (g.Y k)] 59)).cell? ⟨wr.heap.size, 0, none⟩ = some (.int .i64 (g.X k)) := BoxAt.new wr [.int .i64 (g.X k), .int .i64 (g.Y k)] 59 0 _ rfl
                      have q1 : (wr.alloc (.cells #[.int .i64 (g.X k), .int .i64 (g.Y k)] 59)).cell? ⟨wr.heap.size, 1, none⟩ = some (.int .i64 (g.Y k)) := BoxAt.new wr [.int .i64 (g.X k), .int .i64 (g.Y k)] 59 1 _ rfl
                      have r1 := H.only.alloc (.cells #[.int .i64 (g.X k), .int .i64 (g.Y k)] 59)
                      have r2 := H.tos.alloc (.cells #[.int .i64 (g.X k), .int .i64 (g.Y k)] 59)
                      have r3 := World.ownsRow.alloc H.ands (.cells #[.int .i64 (g.X k), .int .i64 (g.Y k)] 59)
                      have r4 : MBox (wr.alloc (.cells #[.int .i64 (g.X k), .int .i64 (g.Y k)] 59)) bm (.int .i64 g.ins) (.slice Al g.n1 cl) (.slice Aa (g.cnt k) ca) (.slice none 0 0) mv := Arr.alloc H.box _
                      have r5 := hnr.alloc (.cells #[.int .i64 (g.X k), .int .i64 (g.Y k)] 59)
                      have r6 := Keeps.alloc wr (.cells #[.int .i64 (g.X k), .int .i64 (g.Y k)] 59) _ _ hvk
                      have HLA := Lib.hid (own_lt H.ands)
                      go_upto_region 29 with (fail)
                      generalize wr.alloc (.cells #[.int .i64 (g.X k), .int .i64 (g.Y k)] 59) = wq at *
                      clear HBr hbxr hnr hvk x0 x1 g0 g1 g2 g3
                      have hbq : w8.heap.size ≤ wr.heap.size := hszr
                      generalize hbqe : wr.heap.size = bq at *
                      have e2 : 0 ≤ (g.first : Int) + k := by omega
                      have e3 : ((g.first : Int) + k).toNat = g.first + k := by omega
                      have hfm : g.first + k < nv := by have := HNV.out; omega
                      have e4 : (g.first : Int) + k < nv := by omega
                      have e1 : IntKind.i64.wrap ((g.first : Int) + k) = (g.first : Int) + k := IntWalk.i64_in _ (by omega)
                      have hcn := r5.cell hfm
                      cases hx : g.need (g.first + k)
                      · rw [hx] at hcn
                        have H7 : KAt g w8 wq bm bt nv (.slice Al g.n1 cl) mv (k + 1) Aa ca := ⟨r1, r2.congr (fun j _ => by rw [G.to_no g hx]), by rw [G.cnt_no g hx, G.cx_no g _ hx, G.cx_no g _ hx]; exact r3, by rw [G.cnt_no g hx]; exact r4⟩
                        go_wp2_with fail
                        go_roundw
                        case rel => exact ⟨k + 1, Aa, ca, by omega, by go_num, H7⟩
                        case measure => simp [intOf]; omega
                      · rw [hx] at hcn
                        go_upto_region 30 with (fail)
                        obtain ⟨p0, p1, p2, p3⟩ := r4.at_
                        have e5 : IntKind.i64.wrap ((g.first : Int) + (g.cnt k : Int)) = (g.first : Int) + (g.cnt k : Int) := IntWalk.i64_in _ (by omega)
                        have e6 : IntKind.i64.wrap (2 * ((g.first : Int) + (g.cnt k : Int))) = 2 * ((g.first : Int) + (g.cnt k : Int)) := IntWalk.i64_in _ (by omega)
                        have hca := r2.cell hfm
                        have hfa := r2.thaw (g.first + k)
                        refine wp_region_z (fun w' => w'.cell? ⟨bt + 1, 0, none⟩ = some (.slice (some ⟨bt, 0, none⟩) nv nv) ∧ w'.cell? ⟨bm, 2, none⟩ = some (.slice Aa (g.cnt k) ca)) [0, 1, 2, 3, 4, 5, 6, 7, 8, 9, 10, 11, 12] [13, 14] (by kernel_rfl) (by kernel_rfl) (by kernel_rfl) (by rfl) (fun _ _ _ _ e h => ⟨e.symm.trans h.1, h.2⟩) ⟨r6, p2⟩ ?_
                        iterate 13
                          refine Heads.step (v := ?_) rfl (by rfl) (fun W hW => ?_) ?_
                          rotate_left
                          · (obtain ⟨s0, s1⟩ := hW; go_simp; try with_reducible rfl)
                        refine AnyZ.one (i := 13) (by kernel_rfl) rfl (fun K hK => ?_)
                        go_simp
                        refine hK _ _ (fun h => by cases h) ?_
                        clear hK
                        refine AnyZ.one (i := 14) (by kernel_rfl) rfl (fun K hK => ?_)
                        go_simp
                        refine hK _ _ (fun h => by cases h) (AnyZ.done (by kernel_rfl) ?_)
                        clear hK
                        have o1' := (Only.refl (fun j => j = bt) wq).setCell (p := ⟨bt, g.first + k, none⟩) (fun _ => rfl) (.int .i64 (2 * ((g.first : Int) + (g.cnt k : Int))))
                        have t1 := r1.trans (o1'.mono (fun _ _ c => .inr c))
                        have t2 : Arr (wq.setCell ⟨bt, g.first + k, none⟩ (.int .i64 (2 * ((g.first : Int) + (g.cnt k : Int))))) bt 3 nv (fun j => .int .i64 (g.to (k + 1) j)) := r2.set (fun j _ hj => by rw [G.to_step, if_neg hj]) (by
                          rw [G.to_step, if_pos rfl, hx, if_pos rfl, G.pos_gate]; congr 1)
                        have hb3 := own_base r3
                        have t3 := own_only r3 o1' (fun b c => by have := hb3 b c; omega)
                        have t4 : MBox (wq.setCell ⟨bt, g.first + k, none⟩ (.int .i64 (2 * ((g.first : Int) + (g.cnt k : Int))))) bm (.int .i64 g.ins) (.slice Al g.n1 cl) (.slice Aa (g.cnt k) ca) (.slice none 0 0) mv := Arr.only r4 o1' (by omega)
                        have t5 : VarAt (wq.setCell ⟨bt, g.first + k, none⟩ (.int .i64 (2 * ((g.first : Int) + (g.cnt k : Int))))) (bt + 1) bt nv := o1'.cell r6 (by simp)
                        have t6 := o1'.cell q0 (by show ¬ bq = bt; omega)
                        have t7 := o1'.cell q1 (by show ¬ bq = bt; omega)
                        go_upto_region 31 with (fail)
                        generalize wq.setCell ⟨bt, g.first + k, none⟩ (.int .i64 (2 * ((g.first : Int) + (g.cnt k : Int)))) = ws at *
                        clear r1 r2 r3 r4 r5 r6 p0 p1 p2 p3 e1 e2 e3 e4 e5 e6 hca hfa hcn o1' q0 q1 hb3
                        have y1 := t1.drew
                        have y2 : Arr ws.drew bt 3 nv (fun j => .int .i64 (g.to (k + 1) j)) := t2.heap rfl
                        have y3 := World.ownsRow.drew t3
                        have y4 : MBox ws.drew bm (.int .i64 g.ins) (.slice Al g.n1 cl) (.slice Aa (g.cnt k) ca) (.slice none 0 0) mv := Arr.heap t4 rfl
                        have y5 : VarAt ws.drew (bt + 1) bt nv := t5.heap rfl
                        have y6 : ws.drew.cell? ⟨bq, 0, none⟩ = some (.int .i64 (g.X k)) := t6
                        have y7 : ws.drew.cell? ⟨bq, 1, none⟩ = some (.int .i64 (g.Y k)) := t7
                        clear t1 t2 t3 t4 t5 t6 t7
                        generalize ws.drew = wx at *
                        clear ws
                        obtain ⟨p0, p1, p2, p3⟩ := y4.at_
                        have hnd := hv.need_and hlt hx
                        have HCX := Lib.hid (mv_any (y5.heap rfl : VarAt wx.drew (bt + 1) bt nv) (y2.heap rfl) hok.1.1 (by omega) hnd.1 (by have := HNV.out; omega) hnv6)
                        have HCY := Lib.hid (mv_any (y5.heap rfl : VarAt wx.drew (bt + 1) bt nv) (y2.heap rfl) hok.2.1 (by omega) hnd.2 (by have := HNV.out; omega) hnv6)
                        have hba := own_base y3
                        have HCB := Lib.hid (show (g.cnt k + 1) * 16 ≤ 140737488355328 by omega)
                        have hsx := y1.size
                        clear hnd
                        refine wp_region_z (fun w' => w'.cell? ⟨bm, 2, none⟩ = some (.slice Aa (g.cnt k) ca) ∧ w'.cell? ⟨bq, 0, none⟩ = some (.int .i64 (g.X k)) ∧ w'.cell? ⟨bq, 1, none⟩ = some (.int .i64 (g.Y k))) [0, 1, 2, 3, 4, 5, 6, 7, 8, 10, 11, 12] [17, 18, 19, 20] (by kernel_rfl) (by kernel_rfl) (by kernel_rfl) (by rfl) (fun _ _ _ _ e h => ⟨e.symm.trans h.1, h.2⟩) ⟨p2, y6, y7⟩ ?_
                        iterate 12
                          refine Heads.step (v := ?_) rfl (by rfl) (fun W hW => ?_) ?_
                          rotate_left
                          · (obtain ⟨s0, s1, s2⟩ := hW; go_simp; try with_reducible rfl)
                        refine AnyZ.one (i := 9) (by kernel_rfl) rfl (fun K hK => ?_)
                        go_simp
                        refine HCX.out.mono ?_
                        rintro e w' ⟨rfl, rfl⟩
                        refine hK _ _ (fun _ => ⟨p2, y6, y7⟩) ?_
                        clear hK
                        refine AnyZ.one (i := 13) (by kernel_rfl) rfl (fun K hK => ?_)
                        go_simp
                        refine HCY.out.mono ?_
                        rintro e w' ⟨rfl, rfl⟩
                        refine hK _ _ (fun _ => ⟨p2, y6, y7⟩) ?_
                        clear hK
                        refine AnyZ.one (i := 14) (by kernel_rfl) rfl (fun K hK => ?_)
                        go_simp
                        refine hK _ _ (fun _ => ⟨p2, y6, y7⟩) ?_
                        clear hK
                        refine AnyZ.one (i := 15) (by kernel_rfl) rfl (fun K hK => ?_)
                        go_simp
                        refine hK _ _ (fun _ => ⟨Keeps.alloc _ _ _ _ p2, Keeps.alloc _ _ _ _ y6, Keeps.alloc _ _ _ _ y7⟩) ?_
                        clear hK
                        refine AnyZ.one (i := 16) (by kernel_rfl) rfl (fun K hK => ?_)
                        refine step_append (by rfl) (.tmp 135) (.tmp 145) _ (by rfl) elPair w8.heap.size Aa (g.cnt k) ca _ (by rfl) ((World.ownsRow.alloc y3 _).drew) _ 1 1 [.int .i64 (g.mv (g.X k)), .int .i64 (g.mv (g.Y k))] (by rfl) (Src.drew (src_news wx #[.int .i64 (g.mv (g.X k)), .int .i64 (g.mv (g.Y k))] 59 2 1 rfl (by simp [Value.oneCell']))) HCB.out (by simp; omega) ?_
                        intro Aa' ca' w9 ho hk' hb'
                        have hb9 : MBox w9 bm (.int .i64 g.ins) (.slice Al g.n1 cl) (.slice Aa (g.cnt k) ca) (.slice none 0 0) mv := Arr.only (Arr.alloc y4 _) hk'.drawn (fun c => by have := hba _ c; omega)
                        have hf9 : w9.frozen? ⟨bm, 2, none⟩ = false := Arr.thaw hb9 2
                        have p9 : w9.cell? ⟨bm, 2, none⟩ = some (.slice Aa (g.cnt k) ca) := hb9.at_.2.2.1
                        have H8 := KAt.gate y1 y2 y3 y4 (by omega) (by omega) (by omega) hx hk'.drawn ho
                        refine hK _ _ (fun _ => ⟨p9, hk'.drawn.cell (Keeps.alloc _ _ _ _ y6) (fun c => by have := HLA.out _ c; simp only at this; omega), hk'.drawn.cell (Keeps.alloc _ _ _ _ y7) (fun c => by have := HLA.out _ c; simp only at this; omega)⟩) ?_
                        clear hK hb9 ho hk' hb'
                        refine AnyZ.one (i := 17) (by kernel_rfl) rfl (fun K hK => ?_)
                        go_simp
                        refine hK _ _ (fun h => by cases h) ?_
                        clear hK
                        refine AnyZ.one (i := 18) (by kernel_rfl) rfl (fun K hK => ?_)
                        go_simp
                        refine hK _ _ (fun h => by cases h) ?_
                        clear hK
                        refine AnyZ.one (i := 19) (by kernel_rfl) rfl (fun K hK => ?_)
                        go_simp
                        refine hK _ _ (fun h => by cases h) ?_
                        clear hK
                        refine AnyZ.one (i := 20) (by kernel_rfl) rfl (fun K hK => ?_)
                        go_simp
                        refine hK _ _ (fun h => by cases h) (AnyZ.done (by kernel_rfl) ?_)
                        clear hK
                        go_wp2_with fail
                        go_roundw
                        case rel => exact ⟨k + 1, Aa', ca', by omega, by go_num, H8⟩
                        case measure => simp [intOf]; omega
                    · obtain rfl : k = g.n2 := by omega
                      have hrsr : GBox wr (w.heap.size + 1) (.int .i64 0) (.slice none 0 0) (.slice none 0 0) (.slice none 0 0) := Arr.only hrs8 H.only (by omega)
                      have hSLr := hSL8.only H.only (fun b _ _ c e => e.elim (fun e => hal (e ▸ c)) (fun e => by have := HL2.out b c; omega))
                      have hands := own_rows2 H.ands
                      have hHs := H.only.size
                      go_wp2_with fail
                      refine (close_any g A1 A2 A3 Al c1 c2 c3 cl bm (bt + 1) bt nv base Aa (g.cnt g.n2) ca mv w wr hg hv HBr.out (by omega) H.box hSLr (by omega) hal (fun b c => ⟨(HLO.out b c).1, by have := HL2.out b c; omega⟩) hvk H.tos HNV.out ⟨by omega, fun c => by have := HL2.out _ c; omega⟩ ⟨by omega, fun c => by have := HL2.out _ c; omega⟩).mono ?_
                      rintro e w9 ⟨Ao, co, rfl, hl9, ho9, hO9, hAo⟩
                      have HAO := Lib.hid hAo; clear hAo
                      have hHBs := HBr.out.size
                      have hB9 := Lib.hid (HBr.out.trans (hO9.below (B := w.heap.size) (fun j _ c => c.elim (fun c => by omega) (fun c => by have := (HLO.out j c).1; omega)) (by omega)))
                      have hrs9 : GBox w9 (w.heap.size + 1) (.int .i64 0) (.slice none 0 0) (.slice none 0 0) (.slice none 0 0) := Arr.only hrsr hO9 (fun c => c.elim (fun c => by omega) (fun c => by have := (HLO.out _ c).1; omega))
                      have hands9 := hands.only hO9 (fun b cur hb _ c => c.elim (fun c => by omega) (fun c => by have := HL2.out b c; omega))
                      obtain ⟨z0, z1, z2, z3⟩ := hrs9.at_
                      have u0 := Arr.thaw hrs9 0
                      have u1 := Arr.thaw hrs9 1
                      have u2 := Arr.thaw hrs9 2
                      have u3 := Arr.thaw hrs9 3
                      have hs9 := hB9.out.size
                      clear hO9 H g0 g1 g2 g3
                      go_wp2_with fail
                      have h9 := (((hrs9.put0 (.int .i64 g.ins)).put1 (.slice Al g.n1 cl)).put2 (.slice Aa (g.cnt g.n2) ca)).put3 (.slice Ao g.n3 co)
                      have hOA := ((((Only.refl (fun j => j = w.heap.size + 1) w9).setCell (p := ⟨w.heap.size + 1, 0, none⟩) (fun _ => rfl) (.int .i64 g.ins)).setCell (p := ⟨w.heap.size + 1, 1, none⟩) (fun _ => rfl) (.slice Al g.n1 cl)).setCell (p := ⟨w.heap.size + 1, 2, none⟩) (fun _ => rfl) (.slice Aa (g.cnt g.n2) ca)).setCell (p := ⟨w.heap.size + 1, 3, none⟩) (fun _ => rfl) (.slice Ao g.n3 co)
                      generalize (((w9.setCell ⟨w.heap.size + 1, 0, none⟩ (.int .i64 g.ins)).setCell ⟨w.heap.size + 1, 1, none⟩ (.slice Al g.n1 cl)).setCell ⟨w.heap.size + 1, 2, none⟩ (.slice Aa (g.cnt g.n2) ca)).setCell ⟨w.heap.size + 1, 3, none⟩ (.slice Ao g.n3 co) = wA at *
                      clear z0 z1 z2 z3
                      obtain ⟨q0, q1, q2, q3⟩ := h9.at_
                      have hBA := hB9.out.trans (hOA.below (B := w.heap.size) (fun j _ c => by omega) (by omega))
                      refine bodyPost_ret (v := .agg #[.int .i64 g.ins, .slice Al g.n1 cl, .slice Aa (g.cnt g.n2) ca, .slice Ao g.n3 co]) ?_ rfl ?_
                      · simp [results, Try.results42, go_sem, q0, q1, q2, q3]
                      · exact ⟨Al, Aa, Ao, cl, ca, co, rfl, ⟨hl9.only hOA (fun b c e => by have := (HLO.out b c).1; omega), (hands9.only hOA (fun b cur hb _ => by omega)).row, Row1.only ho9 hOA (fun b c e => by have := HAO.out b c; omega)⟩, hBA⟩
end Go.Proofs.Ytdhgbikmaglgpaa
