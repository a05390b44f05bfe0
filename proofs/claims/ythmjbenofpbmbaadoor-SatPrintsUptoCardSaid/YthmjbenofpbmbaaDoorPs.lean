/- sat.Print and the reference's literal and CnfPrint, walked: the formula's text; and the law SatPrints. Conditions: the formula lies in memory, is right and of the given bulk; the table of powers of ten reads as laid. -/
import Derived.Test.YthmjbenofpbmbaaDoorLns
import Derived.Test.YthmjbenofpbmbaaDoorDec
import Derived.Test.YthmjbenofpbmbaaDoorPsP
namespace Go.Proofs.YthmjbenofpbmbaaDoor
open Go.RowKit

theorem cnfT_lt {vars : Int} {F : List (List Int)} (h0 : 0 ≤ vars) (h1 : vars ≤ 100000) (hl : ∀ c, c ∈ F → Lits c) (b1 : F.length ≤ 2000000) (b3 : tot F ≤ 2000000) {k : Nat} (hk : k ≤ F.length) : (cnfT vars F k).length ≤ 50000060 := by
  have := cnfT_len h0 h1 b1 hl hk
  have := tot_le (cs := F) (k := k)
  omega
theorem cnfT_next {vars : Int} {F : List (List Int)} {k : Nat} {l : List Int} (h : F[k]? = some l) : cnfT vars F k ++ clT l l.length ++ [48, 10] = cnfT vars F (k + 1) := by
  have e : F.getD k [] = l := by rw [List.getD_eq_getElem?_getD, h]; rfl
  simp only [cnfT, cat, e, clauseT, List.append_assoc]

set_option maxHeartbeats 4000000 in
set_option maxRecDepth 100000 in
theorem satPrint_any (S : Nat) (vars : Int) (FA : Option Addr) (fc : Nat) (F : List (List Int)) (vf : List Value) (w : World) (hF : MatC w FA F vf) (h0 : 0 ≤ vars) (h1 : vars ≤ 100000) (hl : ∀ c, c ∈ F → Lits c) (b1 : F.length ≤ 2000000) (b3 : tot F ≤ 2000000) (ht : Tab S w) (hS : S ≤ w.heap.size) :
    Calls Tryd.prog 6 #[.agg #[.int .i64 vars, .slice FA F.length fc]] w fun e w' => e = .returned (.string (str (cnfT vars F F.length))) ∧ Below w.heap.size w w' := by
  have HF := Lib.hid hF; have HT0 := Lib.hid ht; have HL := Lib.hid hl; have HLT := Lib.hid (fun k (hk : k ≤ F.length) => cnfT_lt h0 h1 hl b1 b3 hk)
  have HC : Hid (∀ c, c ∈ F → c.length ≤ 2000000) := Lib.hid (fun c hc => by have := tot_mem hc; omega)
  clear hF ht hl
  obtain ⟨B, hBe⟩ : ∃ B, B = w.heap.size + 1 := ⟨_, rfl⟩
  have HBE := Lib.hid hBe
  go_enter Tryd.func6, Tryd.ntmps6
  go_upto_region 2 with (fail)
  have hq := BoxT.new w [.int .i64 vars, .slice FA F.length fc] 24
  have hv0 := (Below.refl w.heap.size w).alloc (Nat.le_refl _) (.cells #[.int .i64 vars, .slice FA F.length fc] 24)
  have hz : (w.alloc (.cells #[.int .i64 vars, .slice FA F.length fc] 24)).heap.size = B := by rw [hBe]; simp
  generalize w.alloc (.cells #[.int .i64 vars, .slice FA F.length fc] 24) = v0 at *
  have hI := Lib.IsBuilderF.of (Lib.fresh_isBuilder 37 5 v0)
  have hv := hv0.alloc (by omega) (.cells #[.pointer none, .slice none 0 0] 37)
  replace hq := hq.below ((Below.refl v0.heap.size v0).alloc (Nat.le_refl _) (.cells #[.pointer none, .slice none 0 0] 37))
  have hvz : B < (v0.alloc (.cells #[.pointer none, .slice none 0 0] 37)).heap.size := by simp [hz]
  rw [hz] at hI
  rw [← hBe]
  generalize v0.alloc (.cells #[.pointer none, .slice none 0 0] 37) = v at *
  have HV := Lib.hid hv
  have HW0 : Hid (Wrote B B [] v v) := Lib.hid (Wrote.refl hI)
  have hSB : S ≤ B := by omega
  have HT := Lib.hid (HT0.out.next HV.out hS)
  clear hz hI hv hv0 hBe HT0
  have p0 := hq.at_ 0 _ rfl
  have p1' := hq.at_ 1 _ rfl
  have hqb : w.heap.size ≠ B := by have := HBE.out; omega
  have li := itoa_len vars (by omega) (by omega)
  have ln := itoa_len (F.length : Int) (by omega) (by omega)
  have da := run_ccat (P := Tryd.prog) [112, 32, 99, 110, 102, 32] (Lib.itoa vars) (by simp; omega)
  obtain ⟨p1, hp⟩ : ∃ p, p = [112, 32, 99, 110, 102, 32] ++ (Lib.itoa vars) := ⟨_, rfl⟩
  rw [← hp] at da
  have lp1 : p1.length ≤ 40 := by rw [hp]; simp; omega
  have Hp1 := Lib.hid hp; clear hp
  have db := run_catc (P := Tryd.prog) p1 [32] (by simp; omega)
  obtain ⟨p2, hp⟩ : ∃ p, p = p1 ++ [32] := ⟨_, rfl⟩
  rw [← hp] at db
  have lp2 : p2.length ≤ 60 := by rw [hp]; simp; omega
  have Hp2 := Lib.hid hp; clear hp
  have dc := run_cat (P := Tryd.prog) p2 (Lib.itoa (F.length : Int)) (by omega)
  obtain ⟨p3, hp⟩ : ∃ p, p = p2 ++ (Lib.itoa (F.length : Int)) := ⟨_, rfl⟩
  rw [← hp] at dc
  have lp3 : p3.length ≤ 100 := by rw [hp]; simp; omega
  have Hp3 := Lib.hid hp; clear hp
  have dd : ∀ W, (Op.stringOp .add (str p3) ⟨List.toArray [10]⟩).run Tryd.prog W = .ok (.string (str (cnfHead vars F.length))) W := by
    rw [show cnfHead vars F.length = p3 ++ [10] by rw [Hp3.out, Hp2.out, Hp1.out]; rfl]
    exact run_catc p3 [10] (by simp; omega)
  refine wp_region_z (fun w' => w'.cell? ⟨w.heap.size, 0, none⟩ = some (.int .i64 vars) ∧ w'.cell? ⟨w.heap.size, 1, none⟩ = some (.slice FA F.length fc)) [0, 1, 5, 6, 7] [11] (by kernel_rfl) (by kernel_rfl) (by kernel_rfl) (by rfl) (fun _ _ _ _ e h => ⟨e.symm.trans h.1, h.2⟩) ⟨p0, p1'⟩ ?_
  iterate 5
    refine Heads.step (v := ?_) rfl (by rfl) (fun W hW => ?_) ?_
    rotate_left
    · (obtain ⟨s0, s1⟩ := hW; go_simp; try with_reducible rfl)
  refine AnyZ.one (i := 2) (by kernel_rfl) rfl (fun K hK => ?_)
  go_simp
  refine (itoa_any vars _ (by omega) (by omega) (HT.out.next HW0.out.2.1.drew hSB).here).mono ?_
  rintro e w1 ⟨rfl, k2⟩
  replace k2 : Below v.heap.size v w1 := ⟨k2.os, k2.tape, k2.output, k2.size, k2.block⟩
  replace hq := hq.below k2
  have HW1 := Lib.hid (HW0.out.call k2 (by omega))
  have hs1 : B < w1.heap.size := Nat.lt_of_lt_of_le hvz HW1.out.2.1.size
  clear k2 p0 p1'
  have p0 := hq.at_ 0 _ rfl
  have p1' := hq.at_ 1 _ rfl
  refine hK _ _ (fun _ => ⟨p0, p1'⟩) ?_
  clear hK
  refine AnyZ.mid [3, 4] [11] 4 rfl (by kernel_rfl) (by kernel_rfl) (by kernel_rfl) (fun _ _ _ _ e h => ⟨e.symm.trans h.1, h.2⟩) ⟨p0, p1'⟩ ?_
  iterate 2
    refine Heads.step (v := ?_) rfl (by rfl) (fun W hW => ?_) ?_
    rotate_left
    · (obtain ⟨s0, s1⟩ := hW; go_simp; try with_reducible rfl)
  refine AnyZ.one (i := 8) (by kernel_rfl) rfl (fun K hK => ?_)
  go_simp
  refine (itoa_any (F.length : Int) _ (by omega) (by omega) (HT.out.next HW1.out.2.1 hSB).here).mono ?_
  rintro e w2 ⟨rfl, k2⟩
  replace hq := hq.below k2
  have HW2 := Lib.hid (HW1.out.call k2 (by omega))
  have hs2 : B < w2.heap.size := Nat.lt_of_lt_of_le hvz HW2.out.2.1.size
  clear k2 p0 p1'
  have p0 := hq.at_ 0 _ rfl
  have p1' := hq.at_ 1 _ rfl
  refine hK _ _ (fun _ => ⟨p0, p1'⟩) ?_
  clear hK
  refine AnyZ.mid [9, 10] [11] 1 rfl (by kernel_rfl) (by kernel_rfl) (by kernel_rfl) (fun _ _ _ _ e h => ⟨e.symm.trans h.1, h.2⟩) ⟨p0, p1'⟩ ?_
  iterate 2
    refine Heads.step (v := ?_) rfl (by rfl) (fun W hW => ?_) ?_
    rotate_left
    · (obtain ⟨s0, s1⟩ := hW; go_simp; try with_reducible rfl)
  refine AnyZ.one (i := 11) (by kernel_rfl) rfl (fun K hK => ?_)
  go_simp
  refine (writeString_any B B _ (cnfHead vars F.length) _ HW2.out.1 (by have := cnfHead_len vars F.length h0 h1 (by omega) (by omega); simp; omega) (by omega)).mono ?_
  rintro e w3 ⟨rfl, k3⟩
  replace hq := hq.wrote k3 hqb (by decide)
  have HW3 : Hid (Wrote B B (cnfT vars F 0) v w3) := Lib.hid ((HW2.out.trans k3).text (by simp [cnfT, cat]))
  clear k3 p0 p1' da db dc dd
  refine hK _ _ (fun h => by cases h) (AnyZ.done (by kernel_rfl) ?_)
  clear hK
  have p0 := hq.at_ 0 _ rfl
  have p1' := hq.at_ 1 _ rfl
  clear Hp1 Hp2 Hp3 lp1 lp2 lp3 li ln
  go_wp2_with fail
  go_loopw [23] (fun i wr => ∃ k : Nat, k ≤ F.length ∧ i = .int .i64 k ∧ Hid (Wrote B B (cnfT vars F k) v wr)) (fun i _ => F.length - (intOf i).toNat)
  case atStart => exact ⟨0, by omega, rfl, HW3⟩
  case round =>
    obtain ⟨k, hk, rfl, HW⟩ := hrel
    have hsz : B < wr.heap.size := Nat.lt_of_lt_of_le hvz HW.out.2.1.size
    have HK : Hid (Below w.heap.size w wr) := Lib.hid (HV.out.trans (HW.out.2.1.mono (by have := HBE.out; omega)))
    have hlen := HLT.out k hk
    by_cases hlt : k < F.length
    · obtain ⟨l, A', d, ba, oa, hl1, _, rfl, x0, hcl⟩ := HF.out.at_ hlt
      replace x0 := (Keeps.of_below HK.out) _ _ x0
      have HLI := Lib.hid (HL.out l (List.mem_of_getElem? hl1))
      have hc2 := HC.out l (List.mem_of_getElem? hl1)
      have HNX := Lib.hid (cnfT_next (vars := vars) hl1)
      have HCL := Lib.hid hcl
      clear hl1 hcl
      go_wp2_with fail
      obtain ⟨wo, rfl⟩ : ∃ wo : World, wo = wr := ⟨_, rfl⟩
      go_loopw [29] (fun i wr => ∃ j : Nat, j ≤ l.length ∧ i = .int .i64 j ∧ Hid (Wrote B B (cnfT vars F k ++ clT l j) v wr) ∧ Hid (Below w.heap.size wo wr)) (fun i _ => l.length - (intOf i).toNat)
      case atStart => exact ⟨0, by omega, rfl, Lib.hid (HW.out.text (by simp [clT, cat])), Lib.hid (Below.refl _ _)⟩
      case round =>
        obtain ⟨j, hj, rfl, HWI, HBI⟩ := hrel
        have hsi : B < wr.heap.size := Nat.lt_of_lt_of_le hvz HWI.out.2.1.size
        have hcl := clT_len HLI.out (k := j) hj
        by_cases hlt2 : j < l.length
        · obtain ⟨bb, ob, rfl, y0⟩ := Row1.at_ HCL.out hlt2
          have hx1 := (HLI.out j hlt2).1; have hx2 := (HLI.out j hlt2).2
          have HCN := Lib.hid (show cnfT vars F k ++ clT l (j + 1) = cnfT vars F k ++ clT l j ++ (Lib.itoa (l.getD j 0) ++ [32]) by simp [clT, cat])
          generalize l.getD j 0 = x at *
          have hx := itoa_len x (by omega) (by omega)
          have hcat := run_catc (P := Tryd.prog) (Lib.itoa x) [32] (by simp; omega)
          replace y0 := (Keeps.of_below (HK.out.trans HBI.out)) _ _ y0
          go_wp2_with fail
          refine (itoa_any x _ (by omega) (by omega) (HT.out.next HWI.out.2.1 hSB).here).mono ?_
          rintro e w5 ⟨rfl, k2⟩
          have HW5 := Lib.hid (HWI.out.call k2 (by omega))
          have hs5 : B < w5.heap.size := Nat.lt_of_lt_of_le hvz HW5.out.2.1.size
          have HB5 : Hid (Below w.heap.size wo w5) := Lib.hid (HBI.out.trans (k2.mono (by have := HBE.out; omega)))
          clear k2 y0
          go_wp2_with fail
          refine (writeString_any B B _ (Lib.itoa x ++ [32]) _ HW5.out.1 (by simp; omega) (by omega)).mono ?_
          rintro e w6 ⟨rfl, k2⟩
          have HW6 := Lib.hid ((HW5.out.trans k2).text HCN.out.symm)
          have HB6 : Hid (Below w.heap.size wo w6) := Lib.hid (HB5.out.trans (k2.2.1.mono (by have := HBE.out; omega)))
          clear k2 hcat hx
          go_wp2_with fail
          go_roundw
          case rel => exact ⟨j + 1, by omega, by go_num, HW6, HB6⟩
          case measure => simp [intOf]; omega
        · obtain rfl : j = l.length := by omega
          go_wp2_with fail
          refine (writeString_any B B _ [48, 10] _ HWI.out.1 (by simp; omega) (by omega)).mono ?_
          rintro e w6 ⟨rfl, k2⟩
          have HW6 := Lib.hid ((HWI.out.trans k2).text HNX.out)
          clear k2
          go_wp2_with fail
          go_roundw
          case rel => exact ⟨k + 1, by omega, by go_num, HW6⟩
          case measure => simp [intOf]; omega
    · obtain rfl : k = F.length := by omega
      go_wp2_with fail
      refine (string_any B B _ _ HW.out.1 (by omega)).mono ?_
      rintro e w5 ⟨rfl, k5⟩
      have HB5 : Hid (Below w.heap.size w w5) := Lib.hid (HK.out.trans (k5.mono (by have := HBE.out; omega)))
      clear k5
      go_wp2_with fail
      go_ret
      exact ⟨rfl, HB5.out⟩

theorem literal_any (n : Int) (w : World) (h0 : -100000 ≤ n) (h1 : n ≤ 100000) :
    Calls Tryd.prog 17 #[.int .i64 n] w fun e w' => e = .returned (.string (str (Lib.itoa n))) ∧ Below w.heap.size w w' := by
  by_cases h : n < 0
  · have hi := itoa_len (-n) (by omega) (by omega)
    have hcat := run_ccat (P := Tryd.prog) [45] (Lib.itoa (-n)) (by simp; omega)
    have HE := Lib.hid (itoa_minus n h)
    go_enter Tryd.func17, Tryd.ntmps17
    go_wp2_with fail
    refine (whole_any (-n) _ (by omega) (by omega)).mono ?_
    rintro e w1 ⟨rfl, k1⟩
    go_wp2_with fail
    go_ret
    exact ⟨ret_str HE.out.symm, k1⟩
  · go_enter Tryd.func17, Tryd.ntmps17
    go_wp2_with fail
    refine (whole_any n _ (by omega) (by omega)).mono ?_
    rintro e w1 ⟨rfl, k1⟩
    go_wp2_with fail
    go_ret
    exact ⟨rfl, k1⟩

set_option maxHeartbeats 4000000 in
set_option maxRecDepth 100000 in
theorem cnfPrint_any (vars : Int) (FA : Option Addr) (fc : Nat) (F : List (List Int)) (vf : List Value) (w : World) (hF : MatC w FA F vf) (h0 : 0 ≤ vars) (h1 : vars ≤ 100000) (hl : ∀ c, c ∈ F → Lits c) (b1 : F.length ≤ 2000000) (b3 : tot F ≤ 2000000) :
    Calls Tryd.prog 8 #[.agg #[.int .i64 vars, .slice FA F.length fc]] w fun e w' => e = .returned (.string (str (cnfT vars F F.length))) ∧ Below w.heap.size w w' := by
  have HF := Lib.hid hF; have HL := Lib.hid hl; have HLT := Lib.hid (fun k (hk : k ≤ F.length) => cnfT_lt h0 h1 hl b1 b3 hk)
  have HC : Hid (∀ c, c ∈ F → c.length ≤ 2000000) := Lib.hid (fun c hc => by have := tot_mem hc; omega)
  clear hF hl
  go_enter Tryd.func8, Tryd.ntmps8
  go_upto_region 1 with (fail)
  have hq := BoxAt.new w [.int .i64 vars, .slice FA F.length fc] 24
  have HV := Lib.hid ((Below.refl w.heap.size w).alloc (Nat.le_refl _) (.cells #[.int .i64 vars, .slice FA F.length fc] 24))
  have hvz : w.heap.size < (w.alloc (.cells #[.int .i64 vars, .slice FA F.length fc] 24)).heap.size := by simp
  generalize w.alloc (.cells #[.int .i64 vars, .slice FA F.length fc] 24) = v at *
  have HQ := Lib.hid hq
  have p0 := hq 0 _ rfl
  have p1' := hq 1 _ rfl
  have li := itoa_len vars (by omega) (by omega)
  have ln := itoa_len (F.length : Int) (by omega) (by omega)
  have da := run_ccat (P := Tryd.prog) [112, 32, 99, 110, 102, 32] (Lib.itoa vars) (by simp; omega)
  obtain ⟨p1, hp⟩ : ∃ p, p = [112, 32, 99, 110, 102, 32] ++ (Lib.itoa vars) := ⟨_, rfl⟩
  rw [← hp] at da
  have lp1 : p1.length ≤ 40 := by rw [hp]; simp; omega
  have Hp1 := Lib.hid hp; clear hp
  have db := run_catc (P := Tryd.prog) p1 [32] (by simp; omega)
  obtain ⟨p2, hp⟩ : ∃ p, p = p1 ++ [32] := ⟨_, rfl⟩
  rw [← hp] at db
  have lp2 : p2.length ≤ 60 := by rw [hp]; simp; omega
  have Hp2 := Lib.hid hp; clear hp
  have dc := run_cat (P := Tryd.prog) p2 (Lib.itoa (F.length : Int)) (by omega)
  obtain ⟨p3, hp⟩ : ∃ p, p = p2 ++ (Lib.itoa (F.length : Int)) := ⟨_, rfl⟩
  rw [← hp] at dc
  have lp3 : p3.length ≤ 100 := by rw [hp]; simp; omega
  have Hp3 := Lib.hid hp; clear hp
  have dd : ∀ W, (Op.stringOp .add (str p3) ⟨List.toArray [10]⟩).run Tryd.prog W = .ok (.string (str (cnfHead vars F.length))) W := by
    rw [show cnfHead vars F.length = p3 ++ [10] by rw [Hp3.out, Hp2.out, Hp1.out]; rfl]
    exact run_catc p3 [10] (by simp; omega)
  refine wp_region_z (fun w' => w'.cell? ⟨w.heap.size, 0, none⟩ = some (.int .i64 vars) ∧ w'.cell? ⟨w.heap.size, 1, none⟩ = some (.slice FA F.length fc)) [0, 1, 5, 6, 7] [] (by kernel_rfl) (by kernel_rfl) (by kernel_rfl) (by rfl) (fun _ _ _ _ e h => ⟨e.symm.trans h.1, h.2⟩) ⟨p0, p1'⟩ ?_
  iterate 5
    refine Heads.step (v := ?_) rfl (by rfl) (fun W hW => ?_) ?_
    rotate_left
    · (obtain ⟨s0, s1⟩ := hW; go_simp; try with_reducible rfl)
  refine AnyZ.one (i := 2) (by kernel_rfl) rfl (fun K hK => ?_)
  go_simp
  refine (whole_any vars _ (by omega) (by omega)).mono ?_
  rintro e w1 ⟨rfl, k2⟩
  replace k2 : Below v.heap.size v w1 := ⟨k2.os, k2.tape, k2.output, k2.size, k2.block⟩
  have HB1 := Lib.hid k2
  replace hq := hq.keeps (Keeps.of_below k2)
  clear k2 p0 p1'
  have p0 := hq 0 _ rfl
  have p1' := hq 1 _ rfl
  refine hK _ _ (fun _ => ⟨p0, p1'⟩) ?_
  clear hK
  refine AnyZ.mid [3, 4] [] 4 rfl (by kernel_rfl) (by kernel_rfl) (by kernel_rfl) (fun _ _ _ _ e h => ⟨e.symm.trans h.1, h.2⟩) ⟨p0, p1'⟩ ?_
  iterate 2
    refine Heads.step (v := ?_) rfl (by rfl) (fun W hW => ?_) ?_
    rotate_left
    · (obtain ⟨s0, s1⟩ := hW; go_simp; try with_reducible rfl)
  refine AnyZ.one (i := 8) (by kernel_rfl) rfl (fun K hK => ?_)
  go_simp
  refine (whole_any (F.length : Int) _ (by omega) (by omega)).mono ?_
  rintro e w2 ⟨rfl, k2⟩
  have HB2 := Lib.hid (Below.then_call HB1.out k2 HB1.out.size)
  replace hq := hq.keeps (Keeps.of_below k2)
  clear k2 p0 p1'
  have p0 := hq 0 _ rfl
  have p1' := hq 1 _ rfl
  refine hK _ _ (fun _ => ⟨p0, p1'⟩) ?_
  clear hK
  refine AnyZ.mid [9, 10, 11] [] 0 rfl (by kernel_rfl) (by kernel_rfl) (by kernel_rfl) (fun _ _ _ _ e h => ⟨e.symm.trans h.1, h.2⟩) ⟨p0, p1'⟩ ?_
  iterate 3
    refine Heads.step (v := ?_) rfl (by rfl) (fun W hW => ?_) ?_
    rotate_left
    · (obtain ⟨s0, s1⟩ := hW; go_simp; try with_reducible rfl)
  refine AnyZ.done (by kernel_rfl) ?_
  have hx : str (cnfHead vars F.length) = str (cnfT vars F 0) := by simp [cnfT, cat]
  rw [hx]
  clear hx da db dc dd Hp1 Hp2 Hp3 lp1 lp2 lp3 li ln
  go_wp2_with fail
  go_loopw [3, 4] (fun s i wr => ∃ k : Nat, k ≤ F.length ∧ i = .int .i64 k ∧ s = .string (str (cnfT vars F k)) ∧ Hid (Below v.heap.size v wr)) (fun _ i _ => F.length - (intOf i).toNat)
  case atStart => exact ⟨0, by omega, rfl, rfl, HB2⟩
  case round =>
    obtain ⟨k, hk, rfl, rfl, HB⟩ := hrel
    have hq := HQ.out.keeps (Keeps.of_below HB.out)
    have p0 := hq 0 _ rfl
    have p1' := hq 1 _ rfl
    have HK : Hid (Below w.heap.size w wr) := Lib.hid (HV.out.trans (HB.out.mono (by omega)))
    have hlen := HLT.out k hk
    by_cases hlt : k < F.length
    · obtain ⟨l, A', d, ba, oa, hl1, _, rfl, x0, hcl⟩ := (HF.out.keeps (Keeps.of_below HK.out)).at_ hlt
      have HLI := Lib.hid (HL.out l (List.mem_of_getElem? hl1))
      have hc2 := HC.out l (List.mem_of_getElem? hl1)
      have HNX := Lib.hid (cnfT_next (vars := vars) hl1)
      have HCL := Lib.hid hcl
      have HX0 := Lib.hid x0
      clear hl1 hcl x0
      go_wp2_with fail
      obtain ⟨wo, rfl⟩ : ∃ wo : World, wo = wr := ⟨_, rfl⟩
      go_loopw [3, 5] (fun s i wr => ∃ j : Nat, j ≤ l.length ∧ i = .int .i64 j ∧ s = .string (str (cnfT vars F k ++ clT l j)) ∧ Hid (Below v.heap.size v wr) ∧ Hid (Keeps wo wr)) (fun _ i _ => l.length - (intOf i).toNat)
      case atStart => exact ⟨0, by omega, rfl, by simp [clT, cat], HB, Lib.hid (Keeps.refl _)⟩
      case round =>
        obtain ⟨j, hj, rfl, rfl, HBI, HKI⟩ := hrel
        have hq := HQ.out.keeps (Keeps.of_below HBI.out)
        have p0 := hq 0 _ rfl
        have p1' := hq 1 _ rfl
        have x0 := HKI.out _ _ HX0.out
        have hcl := clT_len HLI.out (k := j) hj
        by_cases hlt2 : j < l.length
        · obtain ⟨bb, ob, rfl, y0⟩ := Row1.at_ (Row1.keeps HCL.out HKI.out) hlt2
          have hx1 := (HLI.out j hlt2).1; have hx2 := (HLI.out j hlt2).2
          have HCN := Lib.hid (show cnfT vars F k ++ clT l (j + 1) = cnfT vars F k ++ clT l j ++ (Lib.itoa (l.getD j 0) ++ [32]) by simp [clT, cat])
          generalize l.getD j 0 = x at *
          have hx := itoa_len x (by omega) (by omega)
          obtain ⟨p0s, hps⟩ : ∃ p, p = cnfT vars F k ++ clT l j := ⟨_, rfl⟩
          have lp0s : p0s.length ≤ 100000000 := by rw [hps]; simp; omega
          rw [← hps] at HCN ⊢
          have HPS := Lib.hid hps; clear hps
          have da := run_cat (P := Tryd.prog) p0s (Lib.itoa x) (by omega)
          obtain ⟨p1, hp⟩ : ∃ p, p = p0s ++ (Lib.itoa x) := ⟨_, rfl⟩
          rw [← hp] at da
          have lp1 : p1.length ≤ 100000100 := by rw [hp]; simp; omega
          have Hp1 := Lib.hid hp; clear hp
          have db : ∀ W, (Op.stringOp .add (str p1) ⟨List.toArray [32]⟩).run Tryd.prog W = .ok (.string (str (cnfT vars F k ++ clT l (j + 1)))) W := by
            rw [show cnfT vars F k ++ clT l (j + 1) = p1 ++ [32] by rw [HCN.out, Hp1.out, List.append_assoc]]
            exact run_catc p1 [32] (by simp; omega)
          obtain ⟨pn, hpn⟩ : ∃ p, p = cnfT vars F k ++ clT l (j + 1) := ⟨_, rfl⟩
          rw [← hpn] at db
          have HPN := Lib.hid hpn; clear hpn
          go_wp2_with fail
          refine (literal_any x _ hx1 hx2).mono ?_
          rintro e w5 ⟨rfl, k2⟩
          have HB5 := Lib.hid (Below.then_call HBI.out k2 HBI.out.size)
          have HK5 := Lib.hid (HKI.out.trans (Keeps.of_below k2))
          clear k2 y0
          go_wp2_with fail
          go_roundw
          case rel => exact ⟨j + 1, by omega, by go_num, by rw [HPN.out], HB5, HK5⟩
          case measure => simp [intOf]; omega
        · obtain rfl : j = l.length := by omega
          obtain ⟨p0s, hps⟩ : ∃ p, p = cnfT vars F k ++ clT l l.length := ⟨_, rfl⟩
          have lp0s : p0s.length ≤ 100000000 := by rw [hps]; simp; omega
          rw [← hps] at HNX ⊢
          clear hps
          have db : ∀ W, (Op.stringOp .add (str p0s) ⟨List.toArray [48, 10]⟩).run Tryd.prog W = .ok (.string (str (cnfT vars F (k + 1)))) W := by
            rw [show cnfT vars F (k + 1) = p0s ++ [48, 10] by exact HNX.out.symm]
            exact run_catc p0s [48, 10] (by simp; omega)
          go_wp2_with fail
          go_roundw
          case rel => exact ⟨k + 1, by omega, by go_num, rfl, HBI⟩
          case measure => simp [intOf]; omega
    · obtain rfl : k = F.length := by omega
      go_wp2_with fail
      go_ret
      exact ⟨rfl, HK.out⟩
end Go.Proofs.YthmjbenofpbmbaaDoor
