/- stream.Valid, walked. Condition: the configuration lies in memory, its lists are within reach. -/
import Derived.Test.YtbnjbclkmjjkhaaDoorFdV
namespace Go.Proofs.YtbnjbclkmjjkhaaDoor
open Go.RowKit Go.Shelf Go.Deep
attribute [local go_sem] Oper.semAt_some

set_option maxRecDepth 100000 in
set_option maxHeartbeats 16000000 in
theorem valid_any (c : Cf) (AC AR AO : Option Addr) (w : World) (hc : c.At w) (hf : c.Fits) (eC : c.AC = AC) (eR : c.AR = AR) (eO : c.AO = AO) :
    Calls Tryd.prog 26 #[.agg #[.int .i64 (c.sh 0), .int .i64 (c.sh 1), .int .i64 (c.sh 2), .int .i64 (c.sh 3), .int .i64 (c.sh 4), .slice AC c.nc c.cC, .slice AR c.nr c.cR, .slice AO c.no c.cO]] w fun e w' => e = .returned (.bool (tf c.Ok)) ∧ Below w.heap.size w w' := by
  have hF : ∀ f, Fence.wide.fn f := fun _ => trivial
  have HC := Lib.hid hc; have HFT := Lib.hid hf; have EC := Lib.hid eC; have ER := Lib.hid eR; have EO := Lib.hid eO
  have f1 := hf.b1; have f3 := hf.b3; have f4 := hf.b4
  have r0 := hf.s 0 (by omega); have r1 := hf.s 1 (by omega); have r2 := hf.s 2 (by omega); have r3 := hf.s 3 (by omega); have r4 := hf.s 4 (by omega)
  have HN := Lib.hid (fun h : ¬ c.Dims => tf_no (p := c.Ok) (fun k => h k.d))
  have hbox : ∀ j v, c.cells[j]? = some v → Firm w.heap.size (w.alloc (.cells c.cells.toArray 31)) ⟨w.heap.size, j, none⟩ v := fun j v e => ⟨BoxAt.new w c.cells 31 j v e, .inr ⟨_, _, _, .inl rfl, heap_alloc_new w _⟩⟩
  have hcols : ∀ i, i < c.nc → ∃ b off, c.AC = some ⟨b, off, none⟩ ∧ Firm w.heap.size (w.alloc (.cells c.cells.toArray 31)) ⟨b, off + i, none⟩ (.slice (c.CA i) (c.rows i) (c.cc i)) := fun i hi => by
    obtain ⟨b, off, e, h⟩ := hc.cols.at_ hi
    exact ⟨b, off, e, Keeps.alloc _ _ _ _ h, .inl (World.block_lt_of_cell? w _ h)⟩
  have HH0 : Hid (c.Hdr w.heap.size (w.alloc (.cells c.cells.toArray 31)) w.heap.size) := Lib.hid ⟨hbox, hcols⟩
  have hcs : c.cells.toArray = #[.int .i64 (c.sh 0), .int .i64 (c.sh 1), .int .i64 (c.sh 2), .int .i64 (c.sh 3), .int .i64 (c.sh 4), .slice AC c.nc c.cC, .slice AR c.nr c.cR, .slice AO c.no c.cO] := by simp [Cf.cells, eC, eR, eO]
  have hb0 := (Below.refl w.heap.size w).alloc (Nat.le_refl _) (.cells #[.int .i64 (c.sh 0), .int .i64 (c.sh 1), .int .i64 (c.sh 2), .int .i64 (c.sh 3), .int .i64 (c.sh 4), .slice AC c.nc c.cC, .slice AR c.nr c.cR, .slice AO c.no c.cO] 31)
  have hz0 : (w.alloc (.cells #[.int .i64 (c.sh 0), .int .i64 (c.sh 1), .int .i64 (c.sh 2), .int .i64 (c.sh 3), .int .i64 (c.sh 4), .slice AC c.nc c.cC, .slice AR c.nr c.cR, .slice AO c.no c.cO] 31)).heap.size = w.heap.size + 1 := by simp
  have hq := BoxAt.new w [.int .i64 (c.sh 0), .int .i64 (c.sh 1), .int .i64 (c.sh 2), .int .i64 (c.sh 3), .int .i64 (c.sh 4), .slice AC c.nc c.cC, .slice AR c.nr c.cR, .slice AO c.no c.cO] 31
  have HCS := Lib.hid hcs
  rw [hcs] at HH0
  clear eC eR eO hc hf hbox hcols hcs
  refine (callsIn_wide (n := 10)).1 ?_
  refine callsIn_of_wp_marks Tryd.func26 rfl trivial ?_ rfl
  simp only [Tryd.ntmps26, List.size_toArray, List.length_cons, List.length_nil, Nat.reduceAdd, Nat.reduceSub, Array.replicate_succ, Array.replicate_zero, List.push_toArray, List.append_toArray, List.nil_append, List.cons_append]
  gi_wp2_with fail
  generalize w.alloc (.cells #[.int .i64 (c.sh 0), .int .i64 (c.sh 1), .int .i64 (c.sh 2), .int .i64 (c.sh 3), .int .i64 (c.sh 4), .slice AC c.nc c.cC, .slice AR c.nr c.cR, .slice AO c.no c.cO] 31) = v0 at *
  have hbx0 := Boxed.new v0 4 (.bool false)
  rw [hz0] at hbx0
  have hb1 := hb0.alloc (by omega) (.cells #[.bool false] 4)
  have hk1 : Kept w.heap.size v0 (v0.alloc (.cells #[.bool false] 4)) := Kept.below ((Below.refl _ _).alloc (Nat.le_refl _) _)
  have HH1 := Lib.hid (HH0.out.kept hk1)
  replace hq := hq.keeps (Keeps.alloc v0 (.cells #[.bool false] 4))
  have hz1 : (v0.alloc (.cells #[.bool false] 4)).heap.size = w.heap.size + 2 := by simp [hz0]
  generalize v0.alloc (.cells #[.bool false] 4) = v1 at *
  refine (callsIn_wide.2 (shapeOk_any c.sh v1)).mono ?_
  rintro e v2 ⟨rfl, k1⟩
  have hbx := hbx0.kept (row := none) ⟨k1.os, k1.tape, k1.output, k1.size, fun k hk _ => k1.block k hk⟩ (by simp)
  have HB2 : Hid (Below w.heap.size w v2) := Lib.hid (hb1.trans (k1.mono (by omega)))
  have HH2 := Lib.hid (HH1.out.kept (Kept.below k1))
  have hz2 : w.heap.size + 2 ≤ v2.heap.size := by have := k1.size; omega
  replace hq := hq.keeps (Keeps.of_below k1)
  have HBX := Lib.hid hbx
  have hbc := hbx.cell; have hbf := hbx.frozen
  clear hbx hbx0 k1 HH1 HH0 hb0 hb1 hk1 hz0 hz1 v0 v1
  have q0 := hq 0 _ rfl; have q1 := hq 1 _ rfl; have q2 := hq 2 _ rfl; have q3 := hq 3 _ rfl; have q4 := hq 4 _ rfl; have q5 := hq 5 _ rfl; have q6 := hq 6 _ rfl; have q7 := hq 7 _ rfl
  have HQ := Lib.hid hq
  clear hq
  by_cases hsh : ShOk c.sh
  case neg =>
    rw [tf_no hsh]
    have HE := Lib.hid (HN.out (fun d => hsh d.sh)); clear hsh
    gi_wp2_with fail
    have hc5 := World.cell?_setCell_same' v2 ⟨w.heap.size + 1, 0, none⟩ (.bool false) (by rw [hbc]; rfl)
    exact leaves0 (v := .bool false) (by simp [results, Tryd.f26, go_sem, hc5]) ⟨ret_bool HE.out.symm, HB2.out.setCell (p := ⟨w.heap.size + 1, 0, none⟩) (by simp) _⟩
  rw [tf_yes hsh]
  have HSH := Lib.hid hsh
  have h0 := hsh.s0; have h1 := hsh.s1; have h2 := hsh.s2; have h3 := hsh.s3; have h4 := hsh.s4
  clear hsh r0 r1 r2 r3 r4
  by_cases hnc : (c.nc : Int) = c.sh 4
  case neg =>
    have HE := Lib.hid (HN.out (fun d => hnc d.nc))
    have hb : ((c.nc : Int) != c.sh 4) = true := by simpa using hnc
    clear hnc
    gi_wp2_with fail
    have hc5 := World.cell?_setCell_same' v2 ⟨w.heap.size + 1, 0, none⟩ (.bool false) (by rw [hbc]; rfl)
    exact leaves0 (v := .bool false) (by simp [results, Tryd.f26, go_sem, hc5]) ⟨ret_bool HE.out.symm, HB2.out.setCell (p := ⟨w.heap.size + 1, 0, none⟩) (by simp) _⟩
  by_cases hnr : (c.nr : Int) = c.sh 2
  case neg =>
    have HE := Lib.hid (HN.out (fun d => hnr d.nr))
    have hb : ((c.nr : Int) != c.sh 2) = true := by simpa using hnr
    have hb0 : ((c.nc : Int) != c.sh 4) = false := by simpa using hnc
    clear hnr hnc
    gi_wp2_with fail
    have hc5 := World.cell?_setCell_same' v2 ⟨w.heap.size + 1, 0, none⟩ (.bool false) (by rw [hbc]; rfl)
    exact leaves0 (v := .bool false) (by simp [results, Tryd.f26, go_sem, hc5]) ⟨ret_bool HE.out.symm, HB2.out.setCell (p := ⟨w.heap.size + 1, 0, none⟩) (by simp) _⟩
  by_cases hno : (c.no : Int) = c.sh 1
  case neg =>
    have HE := Lib.hid (HN.out (fun d => hno d.no))
    have hb : ((c.no : Int) != c.sh 1) = true := by simpa using hno
    have hb0 : ((c.nc : Int) != c.sh 4) = false := by simpa using hnc
    have hb1 : ((c.nr : Int) != c.sh 2) = false := by simpa using hnr
    clear hno hnc hnr
    gi_wp2_with fail
    have hc5 := World.cell?_setCell_same' v2 ⟨w.heap.size + 1, 0, none⟩ (.bool false) (by rw [hbc]; rfl)
    exact leaves0 (v := .bool false) (by simp [results, Tryd.f26, go_sem, hc5]) ⟨ret_bool HE.out.symm, HB2.out.setCell (p := ⟨w.heap.size + 1, 0, none⟩) (by simp) _⟩
  have hb1 : ((c.nc : Int) != c.sh 4) = false := by simpa using hnc
  have hb2 : ((c.nr : Int) != c.sh 2) = false := by simpa using hnr
  have hb3 : ((c.no : Int) != c.sh 1) = false := by simpa using hno
  have HNC := Lib.hid hnc; have HNR := Lib.hid hnr; have HNO := Lib.hid hno
  clear hnc hnr hno
  gi_wp2_with fail
  clear hb1 hb2 hb3
  gi_loop [40] (fun vi => ∃ i : Nat, i ≤ c.nc ∧ vi = .int .i64 i ∧ Hid (∀ m, m < i → (c.rows m : Int) = c.sh 3)) (fun vi => c.nc - (intOf vi).toNat)
  case atStart => exact ⟨0, by omega, rfl, Lib.hid (fun m hm => by omega)⟩
  case round =>
    obtain ⟨i, hi, rfl, HRW⟩ := hrel
    by_cases hlt : i < c.nc
    · obtain ⟨ba, oa, eA, hcol⟩ := HH2.out.cols i hlt
      obtain rfl : AC = some ⟨ba, oa, none⟩ := EC.out.symm.trans eA
      clear eA
      have x0 := hcol.1
      clear hcol
      obtain ⟨A', hA'⟩ : ∃ A', c.CA i = A' := ⟨_, rfl⟩
      rw [hA'] at x0
      clear hA'
      by_cases hrw : (c.rows i : Int) = c.sh 3
      case neg =>
        have HE := Lib.hid (HN.out (fun d => hrw (d.rows i hlt)))
        have hb : ((c.rows i : Int) != c.sh 3) = true := by simpa using hrw
        clear hrw
        gi_wp2_with fail
        have hc5 := World.cell?_setCell_same' v2 ⟨w.heap.size + 1, 0, none⟩ (.bool false) (by rw [hbc]; rfl)
        exact leaves0 (v := .bool false) (by simp [results, Tryd.f26, go_sem, hc5]) ⟨ret_bool HE.out.symm, HB2.out.setCell (p := ⟨w.heap.size + 1, 0, none⟩) (by simp) _⟩
      have hb : ((c.rows i : Int) != c.sh 3) = false := by simpa using hrw
      have HRW2 : Hid (∀ m, m < i + 1 → (c.rows m : Int) = c.sh 3) := Lib.hid (fun m hm => if e : m = i then e ▸ hrw else HRW.out m (by omega))
      clear hrw
      gi_wp2_with fail
      go_round
      case rel => exact ⟨i + 1, by omega, by go_num, HRW2⟩
      case measure => simp [intOf]; omega
    · obtain rfl : i = c.nc := by omega
      have HD : Hid c.Dims := Lib.hid ⟨HSH.out, HNC.out, HNR.out, HNO.out, HRW.out⟩
      gi_wp2_with fail
      refine (callsIn_wide.2 (fields_any w.heap.size v2)).mono ?_
      rintro e v3 ⟨rfl, rfl⟩
      gi_wp2_with fail
      have hHdr : c.Hdr w.heap.size (v2.alloc (.cells #[.pointer (some ⟨w.heap.size, 0, none⟩)] 72)) w.heap.size := HH2.out.kept (Kept.below ((Below.refl _ _).alloc (Nat.le_refl _) _))
      have hfp := Firm.new w.heap.size v2 (.pointer (some ⟨w.heap.size, 0, none⟩)) 72 (.inr (.inl rfl))
      have hb3 := HB2.out.alloc (by omega) (.cells #[.pointer (some ⟨w.heap.size, 0, none⟩)] 72)
      have hbx3 := HBX.out.alloc (.cells #[.pointer (some ⟨w.heap.size, 0, none⟩)] 72)
      have HP := Lib.hid HC.out.ptr
      refine wpIn_rangeFunc_ownH rfl (by omega) (gf := 37) (lb := #[.pointer (some ⟨v2.heap.size, 0, none⟩)]) rfl trivial (enters_of Tryd.func37 (by kernel_rfl) rfl)
        (fields_stops c _ w.heap.size v2.heap.size w.heap.size _ HSH.out HFT.out HP.out hHdr hfp) (fun h k => h.trans k) (kept_b (by simp; omega)) (Below.refl _ _) (fun _ => rfl)
        (fun pre W => ((W.cell? ⟨w.heap.size + 1, 0, none⟩ = some (.bool false) ∧ W.frozen? ⟨w.heap.size + 1, 0, none⟩ = false) ∧ (∀ x ∈ pre, c.okF x.1)) ∧ Below w.heap.size w W)
        (fun cc pre W => (W.cell? ⟨w.heap.size + 1, 0, none⟩ = some (.bool false) ∧ cc = .ret ∧ ∃ x ∈ pre, ¬ c.okF x.1) ∧ Below w.heap.size w W)
        (OwnFrom.and (Own.from (fun s A B row hs hg hr => ⟨⟨cell_kept hs.1.1 hg hr, (frozen_kept hs.1.1 hg hr).trans hs.1.2⟩, hs.2⟩) _) (ownFrom_below (Nat.le_refl _) (by simp; omega)))
        (fun cc => OwnFrom.and (Own.from (fun s A B row hs hg hr => ⟨cell_kept hs.1 hg hr, hs.2⟩) _) (ownFrom_below (Nat.le_refl _) (by simp; omega)))
        ⟨⟨⟨hbx3.cell, hbx3.frozen⟩, by simp⟩, hb3⟩
        (fun x a' W => ∃ Bx P Q m d, c.fv x.1 = .agg #[.pointer P, .pointer Q, .int .i64 m, .int .i64 d] ∧ W.heap[Bx]? = some (.cells #[.pointer P, .pointer Q, .int .i64 m, .int .i64 d] 75 (0, 0)) ∧ a' = { tmps := #[.agg #[.int .i64 (c.sh 0), .int .i64 (c.sh 1), .int .i64 (c.sh 2), .int .i64 (c.sh 3), .int .i64 (c.sh 4), .slice AC c.nc c.cC, .slice AR c.nr c.cR, .slice AO c.no c.cO], .pointer (some ⟨w.heap.size, 0, none⟩), .pointer (some ⟨w.heap.size + 1, 0, none⟩), undef, u4, .pointer (some ⟨Bx, 0, none⟩), .pointer (some ⟨w.heap.size, 0, none⟩), .agg #[.int .i64 (c.sh 0), .int .i64 (c.sh 1), .int .i64 (c.sh 2), .int .i64 (c.sh 3), .int .i64 (c.sh 4)], .bool true, .bool false, .bool false, .pointer (some ⟨w.heap.size, 5, none⟩), .slice AC c.nc c.cC, .int .i64 ↑c.nc, .pointer (some ⟨w.heap.size, 0, none⟩), .pointer (some ⟨w.heap.size, 4, none⟩), .int .i64 (c.sh 4), .bool false, .bool false, .bool false, .pointer (some ⟨w.heap.size, 6, none⟩), .slice AR c.nr c.cR, .int .i64 ↑c.nr, .pointer (some ⟨w.heap.size, 0, none⟩), .pointer (some ⟨w.heap.size, 2, none⟩), .int .i64 (c.sh 2), .bool false, .bool false, .bool false, .pointer (some ⟨w.heap.size, 7, none⟩), .slice AO c.no c.cO, .int .i64 ↑c.no, .pointer (some ⟨w.heap.size, 0, none⟩), .pointer (some ⟨w.heap.size, 1, none⟩), .int .i64 (c.sh 1), .bool false, .bool false, .pointer (some ⟨w.heap.size, 5, none⟩), .slice AC c.nc c.cC, .int .i64 ↑c.nc, .int .i64 ↑c.nc, .bool false, u42, u43, u44, u45, u46, u47, u48, u49, u50, .func (.func 37) #[] #[.pointer (some ⟨v2.heap.size, 0, none⟩)], .agg #[.pointer P, .pointer Q, .int .i64 m, .int .i64 d], undef, undef, undef, undef, undef, undef, undef, undef, undef, undef, undef, undef, undef, undef, undef, undef, undef, undef, undef], defers := [] })
        (fun x a' s A B row hs hg hr => by
          obtain ⟨Bx, P, Q, m, d, h1, h2, h3⟩ := hs
          refine ⟨Bx, P, Q, m, d, h1, (hg.block Bx (Array.getElem?_eq_some_iff.1 h2).1 (fun e => ?_)).trans h2, h3⟩
          obtain ⟨_, o, ho, hc⟩ := hr Bx e.symm
          rw [h2] at ho; cases ho; cases hc) ?assign ?body ?done ?stop
      case assign =>
        rintro l pre x W K ⟨⟨⟨hcr, hfr⟩, hall⟩, hB⟩ hK
        obtain ⟨P, Q, m, d, e, _⟩ := Cf.fv_cases (HC.out.keeps (Keeps.of_below hB)) x
        simp only [e]
        have hKE := Lib.hid e
        clear e
        gi_wp2
        exact hK _ _ ((KeepsOthers.alloc _ _).from _) (Kept.below ((Below.refl _ _).alloc (Nat.le_refl _) _)) ⟨⟨⟨Keeps.alloc _ _ _ _ hcr, (frozen_kept hcr (World.grownBy_alloc W _ none) (fun r e => by cases e)).trans hfr⟩, hall⟩, hB.alloc hB.size _⟩ ⟨W.heap.size, P, Q, m, d, hKE.out, heap_alloc_new W _, rfl⟩
      case body =>
        rintro l pre x a' W hl hrec ⟨⟨⟨hcr, hfr⟩, hall⟩, hB⟩ ⟨Bx, P, Q, m, d, he, hbx, rfl⟩ hlt
        have hF : ∀ f, (Fence.wide.inRound l).fn f := fun _ => trivial
        obtain ⟨P', Q', m', d', e', hcase⟩ := Cf.fv_cases (HC.out.keeps (Keeps.of_below hB)) x
        obtain ⟨rfl, rfl, rfl, rfl⟩ : P = P' ∧ Q = Q' ∧ m = m' ∧ d = d' := by rw [he] at e'; simpa using e'
        have x0 : W.cell? ⟨Bx, 0, none⟩ = some (.pointer P) := by rw [cell_of_row W Bx 0 _ _ _ hbx]; rfl
        have x2 : W.cell? ⟨Bx, 2, none⟩ = some (.int .i64 m) := by rw [cell_of_row W Bx 2 _ _ _ hbx]; rfl
        have HAL := Lib.hid hall
        have HRE := Lib.hid hrec
        clear e' he hbx hall hrec
        have hkd : KeepsFrom (v2.alloc (.cells #[.pointer (some ⟨w.heap.size, 0, none⟩)] 72)).heap.size W W.drew := (KeepsOthers.drew _).from _
        have hKD := Lib.hid hkd
        have HKK : Hid (Kept w.heap.size W W.drew) := Lib.hid (Kept.below (Below.refl _ _).drew)
        have HBB := Lib.hid hB
        clear hkd
        rcases hcase with ⟨rfl, hok⟩ | ⟨b, o, v, rfl, hv, hiff⟩
        · have HOK : Hid (∀ y ∈ pre ++ [x], c.okF y.1) := Lib.hid (fun y hy => by
            rcases List.mem_append.1 hy with h | h
            · exact HAL.out y h
            · simp at h; subst h; exact hok)
          clear hok
          gi_wp2_with fail
          refine wpIn_region_z (fun w' => w'.cell? ⟨Bx, 0, none⟩ = some (.pointer none)) [0, 1, 2, 3, 4, 5, 6, 7, 8, 9, 10, 11, 12, 13, 14, 15, 16, 17, 18] [] hF (by kernel_rfl) (by kernel_rfl) (by kernel_rfl) (by kernel_rfl) (by rfl) (fun _ _ _ _ _ h => h) x0 ?_
          iterate 4
            refine Heads.step (v := ?_) rfl (by first | (go_simp; done) | rfl) (fun W hW => ?_) ?_
            rotate_left
            · (have t0 := hW; go_simp; try with_reducible rfl)
          iterate 6
            refine Heads.skip rfl (by first | (go_simp; done) | rfl) ?_
          refine Heads.skipU (j := 9) (want := false) rfl rfl (by go_simp) ?_
          refine Heads.skipU (j := 9) (want := false) rfl rfl (by go_simp) ?_
          refine Heads.skipU (j := 9) (want := false) rfl rfl (by go_simp) ?_
          refine Heads.skipU (j := 9) (want := false) rfl rfl (by go_simp) ?_
          refine Heads.skipU (j := 9) (want := false) rfl rfl (by go_simp) ?_
          refine Heads.skipU (j := 9) (want := false) rfl rfl (by go_simp) ?_
          refine Heads.skipU (j := 9) (want := false) rfl rfl (by go_simp) ?_
          iterate 1
            refine Heads.skip rfl (by first | (go_simp; done) | rfl) ?_
          iterate 1
            refine Heads.step (v := ?_) rfl (by first | (go_simp; done) | rfl) (fun W hW => ?_) ?_
            rotate_left
            · (have t0 := hW; go_simp; try with_reducible rfl)
          refine AnyY.done (by kernel_rfl) ?_
          go_simp
          gi_wp2
          exact ⟨hKD.out, HKK.out, ⟨⟨hcr, hfr⟩, HOK.out⟩, HBB.out.drew⟩
        · have HIFF := Lib.hid hiff
          clear hiff
          by_cases h0 : 0 ≤ v
          case neg =>
            have HNO : Hid (∃ y ∈ pre ++ [x], ¬ c.okF y.1) := Lib.hid ⟨x, by simp, fun h => h0 (HIFF.out.1 h).1⟩
            gi_wp2_with fail
            refine wpIn_region_z (fun w' => w'.cell? ⟨Bx, 0, none⟩ = some (.pointer (some ⟨b, o, none⟩)) ∧ w'.cell? ⟨b, o, none⟩ = some (.int .i64 v)) [0, 1, 2, 3, 4, 5, 6, 7, 8, 9, 10, 11, 12, 13, 14, 15, 16, 17, 18] [] hF (by kernel_rfl) (by kernel_rfl) (by kernel_rfl) (by kernel_rfl) (by rfl) (fun _ _ _ _ _ h => h) ⟨x0, hv⟩ ?_
            iterate 10
              refine Heads.step (v := ?_) rfl (by first | (go_simp; done) | rfl) (fun W hW => ?_) ?_
              rotate_left
              · (obtain ⟨t0, t1⟩ := hW; go_simp; try with_reducible rfl)
            iterate 7
              refine Heads.skip rfl (by first | (go_simp; done) | rfl) ?_
            iterate 2
              refine Heads.step (v := ?_) rfl (by first | (go_simp; done) | rfl) (fun W hW => ?_) ?_
              rotate_left
              · (obtain ⟨t0, t1⟩ := hW; go_simp; try with_reducible rfl)
            refine AnyY.done (by kernel_rfl) ?_
            go_simp
            gi_wp2
            exact ⟨(hKD.out.trans ((KeepsOthers.setCell _ _ _).from _)), ⟨World.cell?_setCell_same' _ _ _ (by rw [hcr]; rfl), rfl, HNO.out⟩, HBB.out.drew.setCell (p := ⟨w.heap.size + 1, 0, none⟩) (by simp) _⟩
          by_cases h1 : v < m
          case neg =>
            have HNO : Hid (∃ y ∈ pre ++ [x], ¬ c.okF y.1) := Lib.hid ⟨x, by simp, fun h => h1 (HIFF.out.1 h).2⟩
            gi_wp2_with fail
            refine wpIn_region_z (fun w' => w'.cell? ⟨Bx, 0, none⟩ = some (.pointer (some ⟨b, o, none⟩)) ∧ w'.cell? ⟨b, o, none⟩ = some (.int .i64 v) ∧ w'.cell? ⟨Bx, 2, none⟩ = some (.int .i64 m)) [0, 1, 2, 3, 4, 5, 6, 7, 8, 9, 10, 11, 12, 13, 14, 15, 16, 17, 18] [] hF (by kernel_rfl) (by kernel_rfl) (by kernel_rfl) (by kernel_rfl) (by rfl) (fun _ _ _ _ _ h => h) ⟨x0, hv, x2⟩ ?_
            iterate 19
              refine Heads.step (v := ?_) rfl (by first | (go_simp; done) | rfl) (fun W hW => ?_) ?_
              rotate_left
              · (obtain ⟨t0, t1, t2⟩ := hW; go_simp; try with_reducible rfl)
            refine AnyY.done (by kernel_rfl) ?_
            go_simp
            gi_wp2
            exact ⟨(hKD.out.trans ((KeepsOthers.setCell _ _ _).from _)), ⟨World.cell?_setCell_same' _ _ _ (by rw [hcr]; rfl), rfl, HNO.out⟩, HBB.out.drew.setCell (p := ⟨w.heap.size + 1, 0, none⟩) (by simp) _⟩
          have HOK : Hid (∀ y ∈ pre ++ [x], c.okF y.1) := Lib.hid (fun y hy => by
            rcases List.mem_append.1 hy with h | h
            · exact HAL.out y h
            · simp at h; subst h; exact HIFF.out.2 ⟨h0, h1⟩)
          gi_wp2_with fail
          refine wpIn_region_z (fun w' => w'.cell? ⟨Bx, 0, none⟩ = some (.pointer (some ⟨b, o, none⟩)) ∧ w'.cell? ⟨b, o, none⟩ = some (.int .i64 v) ∧ w'.cell? ⟨Bx, 2, none⟩ = some (.int .i64 m)) [0, 1, 2, 3, 4, 5, 6, 7, 8, 9, 10, 11, 12, 13, 14, 15, 16, 17, 18] [] hF (by kernel_rfl) (by kernel_rfl) (by kernel_rfl) (by kernel_rfl) (by rfl) (fun _ _ _ _ _ h => h) ⟨x0, hv, x2⟩ ?_
          iterate 19
            refine Heads.step (v := ?_) rfl (by first | (go_simp; done) | rfl) (fun W hW => ?_) ?_
            rotate_left
            · (obtain ⟨t0, t1, t2⟩ := hW; go_simp; try with_reducible rfl)
          refine AnyY.done (by kernel_rfl) ?_
          go_simp
          gi_wp2
          exact ⟨hKD.out, HKK.out, ⟨⟨hcr, hfr⟩, HOK.out⟩, HBB.out.drew⟩
      case done =>
        rintro D ys W hD hS ⟨⟨⟨hcr, hfr⟩, hall⟩, hB⟩ hK
        have HOK : Hid c.Ok := Lib.hid (Cf.ok_of HD.out (fun x hx => by
          have hm := c.mem_flds x hx
          rw [← hS] at hm
          obtain ⟨y, hy, rfl⟩ := List.mem_map.1 hm
          exact hall y hy))
        have HS := Lib.hid hS; have HAL := Lib.hid hall
        clear hS hall
        gi_wp2
        have hK' := (KeepsOthers.setCell W ⟨w.heap.size + 1, 0, none⟩ (.bool true)).same D _ hK rfl
        refine ⟨by simp, .inl ⟨_, _, rfl, run_takeDeferred hK', ?_⟩⟩
        have hc5 := cell_kept (World.cell?_setCell_same' W ⟨w.heap.size + 1, 0, none⟩ (.bool true) (by rw [hcr]; rfl)) (grownBy_putObj' _ D (.deferred none)) (fun r e => by cases e; exact ⟨_, hK', rfl⟩)
        exact leaves0 (v := .bool true) (by simp [results, Tryd.f26, go_sem, hc5]) ⟨ret_bool (tf_yes HOK.out).symm, (hB.setCell (p := ⟨w.heap.size + 1, 0, none⟩) (by simp) _).trans (belowK_b (w := w) (Nat.le_refl _) _ D _ _ (by simp at hD; omega) hK' rfl rfl)⟩
      case stop =>
        rintro D cc pre W hD _ ⟨⟨hcr, rfl, hno⟩, hB⟩ hK
        have HNO : Hid (¬ c.Ok) := Lib.hid (fun h => by obtain ⟨y, _, hy⟩ := hno; exact hy (h.field y.1 y.2))
        clear hno
        gi_wp2
        refine ⟨by simp, .inl ⟨_, _, rfl, run_takeDeferred hK, ?_⟩⟩
        have hc5 := cell_kept hcr (grownBy_putObj' _ D (.deferred none)) (fun r e => by cases e; exact ⟨_, hK, rfl⟩)
        exact leaves0 (v := .bool false) (by simp [results, Tryd.f26, go_sem, hc5]) ⟨ret_bool (tf_no HNO.out).symm, hB.trans (belowK_b (w := w) (Nat.le_refl _) W D _ _ (by simp at hD; omega) hK rfl rfl)⟩
end Go.Proofs.YtbnjbclkmjjkhaaDoor
