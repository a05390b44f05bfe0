/- place's look, walked: how deep each signal is, how far it is needed; false, where a needed table lies deeper than the fabric. Conditions: the net is valid and lies in memory, the placer's box is new. -/
import Derived.Test.YtlmcbhmaccncbaaDoorPcA
namespace Go.Proofs.YtlmcbhmaccncbaaDoor
open Go.RowKit

set_option maxRecDepth 100000 in
set_option maxHeartbeats 16000000 in
theorem look_any (g : Tb) (a : Ta) (s : Nat → Int) (P bm : Nat) (w0 w : World) (hg : g.At w0 a.A1 a.A2 a.A3 a.A4) (hv : g.Valid) (hfit : g.Fits) (hb0 : Below w0.heap.size w0 w) (hP : w0.heap.size ≤ P) (hX : w.heap[P]? = some (plO g a s (0) (.slice none 0 0) (.slice none 0 0) bm)) (hs : 1 ≤ s 4 ∧ s 4 ≤ 100) :
    Calls Tryd.prog 17 #[.pointer (some ⟨P, 0, none⟩)] w fun e w' =>
      (e = .returned (.bool (tf (g.LookOk s))) ∧ (g.LookOk s → ∃ bd bl, w.heap.size ≤ bd ∧ w.heap.size ≤ bl ∧ bd ≠ bl ∧ w'.heap[P]? = some (plO g a s g.pre (.slice (some ⟨bd, 0, none⟩) g.num g.num) (.slice (some ⟨bl, 0, none⟩) g.num g.num) bm) ∧ Ints w' bd g.num g.D ∧ Ints w' bl g.num (g.L s))) ∧ Only (fun b => b = P) w w' := by
  obtain ⟨nv, hnv, hnvi, hprei, hnvb, hn2⟩ := hv.nums hfit
  have hnum : g.num = nv := by rw [hnv]; rfl
  rw [hnum]
  have f1 := hfit.b1; have f2 := hfit.b2; have f3 := hfit.b3; have f4 := hfit.b4
  have v1 := hv.i0; have v2 := hv.i1; have v3 := hv.n4
  obtain ⟨pre, hpre⟩ : ∃ pre, g.pre = pre := ⟨_, rfl⟩
  have HPRE := Lib.hid hpre; have HNV := Lib.hid hnv
  rw [hpre] at hprei hnv ⊢
  obtain ⟨TA, TC, t1, t2⟩ := hg.tabs
  have HT1 := Lib.hid t1; have HT2 := Lib.hid t2
  clear t1 t2
  have HG := Lib.hid hg; have HV := Lib.hid hv; have HB0 := Lib.hid hb0; have HX := Lib.hid hX; have HNUM := Lib.hid hnum
  have hPw : P < w.heap.size := (Array.getElem?_eq_some_iff.1 hX).1
  have HPI := Lib.hid hprei; have HNI := Lib.hid hnvi
  have ew2 : IntKind.i64.wrap (2 + g.ins + (g.n1 : Int)) = 2 + g.ins + (g.n1 : Int) := by rw [IntKind.wrap_i64]; omega
  have hprb : pre ≤ nv := by omega
  clear hg hv hb0 hX hnum hfit hpre hprei hnvi hnv
  have HKW : Hid (∀ wr, Only (fun b => b = P) w wr → Keeps w0 wr) := Lib.hid (fun wr h => Keeps.of_below (HB0.out.trans (h.below (B := w0.heap.size) (fun b _ e => by omega) HB0.out.size)))
  go_enter Tryd.func17, Tryd.ntmps17
  obtain ⟨⟨x0, x1, x2, x3, x4⟩, ⟨x8, x9⟩, x10, x11, x12, x13⟩ := pl_cell HX.out
  have z10 := pl_thaw HX.out 10
  have ew1 : IntKind.i64.wrap (2 + g.ins) = 2 + g.ins := by rw [IntKind.wrap_i64]; omega
  go_wp2_with fail
  refine wp_region_z (fun w' => w'.cell? ⟨P, 0, none⟩ = some (.int .i64 g.ins) ∧ w'.cell? ⟨P, 1, none⟩ = some (.slice a.A1 g.n1 a.c1)) [0, 1, 2, 3, 4, 5, 6, 7, 8, 9, 10, 11, 12, 13, 14, 15] [16] (by kernel_rfl) (by kernel_rfl) (by kernel_rfl) (by rfl) (fun _ _ _ _ e h => ⟨e.symm.trans h.1, h.2⟩) ⟨x0, x1⟩ ?_
  iterate 16
    refine Heads.step (v := ?_) rfl (by first | (go_simp; done) | rfl) (fun W hW => ?_) ?_
    rotate_left
    · (obtain ⟨t0, t1⟩ := hW; go_simp; try with_reducible rfl)
  refine AnyZ.one (i := 16) (by kernel_rfl) rfl (fun K hK => ?_)
  go_simp
  refine hK _ _ (fun h => by cases h) (AnyZ.done (by kernel_rfl) ?_)
  clear hK
  go_simp
  rw [← HPI.out]
  obtain ⟨w1, hw1⟩ : ∃ x, x = (w.setCell ⟨P, 10, none⟩ (.int .i64 (pre : Int))).drew := ⟨_, rfl⟩
  have HX1 : Hid (w1.heap[P]? = some (plO g a s (pre) (.slice none 0 0) (.slice none 0 0) bm)) := Lib.hid (by rw [hw1]; exact pl_set10 HX.out)
  have HO1 : Hid (Only (fun b => b = P) w w1) := Lib.hid (by rw [hw1]; exact (Only.setCell (p := ⟨P, 10, none⟩) (Only.refl (fun b => b = P) w) (fun _ => rfl) _).drew)
  rw [← hw1]
  clear hw1 x0 x1 x2 x3 x4 x8 x9 x10 x11 x12 x13 z10 ew1 ew2
  obtain ⟨⟨x0, x1, x2, x3, x4⟩, ⟨x8, x9⟩, x10, x11, x12, x13⟩ := pl_cell HX1.out
  have ew3 : IntKind.i64.wrap ((pre : Int) + (g.n2 : Int)) = (nv : Int) := by have h1 := HPI.out; have h2 := HNI.out; rw [IntKind.wrap_i64]; omega
  go_wp2_with fail
  refine wp_region_z (fun w' => w'.cell? ⟨P, 10, none⟩ = some (.int .i64 (pre : Nat)) ∧ w'.cell? ⟨P, 2, none⟩ = some (.slice a.A2 g.n2 a.c2)) [0, 1, 2, 3, 4, 5, 6, 7, 8, 9, 10, 11] [] (by kernel_rfl) (by kernel_rfl) (by kernel_rfl) (by rfl) (fun _ _ _ _ e h => ⟨e.symm.trans h.1, h.2⟩) ⟨x10, x2⟩ ?_
  iterate 12
    refine Heads.step (v := ?_) rfl (by first | (go_simp; done) | rfl) (fun W hW => ?_) ?_
    rotate_left
    · (obtain ⟨t0, t1⟩ := hW; go_simp; try with_reducible rfl)
  refine AnyZ.done (by kernel_rfl) ?_
  go_simp
  obtain ⟨w2, hw2⟩ : ∃ x, x = w1.drew := ⟨_, rfl⟩
  have HX2 : Hid (w2.heap[P]? = some (plO g a s (pre) (.slice none 0 0) (.slice none 0 0) bm)) := Lib.hid (by rw [hw2]; exact HX1.out)
  have HO2 : Hid (Only (fun b => b = P) w w2) := Lib.hid (by rw [hw2]; exact HO1.out.drew)
  rw [← hw2]
  clear hw2 x0 x1 x2 x3 x4 x8 x9 x10 x11 x12 x13 ew3
  have hmk := fun W => mk_ints nv hnvb W
  have hX2 := HX2.out
  have z11 := pl_thaw hX2 11
  obtain ⟨_, _, _, x11, _, _⟩ := pl_cell hX2
  -- the depths' array
  have hb2 : Below w2.heap.size w2 (w2.alloc (.cells (madeCells #[.int .i64 0] nv) 3)) := (Below.refl _ _).alloc (Nat.le_refl _) _
  have hD0 : Ints (w2.alloc (.cells (madeCells #[.int .i64 0] nv) 3)) w2.heap.size nv (fun _ => 0) := Arr.made w2 (.int .i64 0) nv 3
  have hX3 := heap_below0 hb2 hX2
  have hz3 : (w2.alloc (.cells (madeCells #[.int .i64 0] nv) 3)).heap.size = w2.heap.size + 1 := by simp
  have y11 := (pl_cell hX3).2.2.2.1
  have y11z := pl_thaw hX3 11
  clear hX2 z11 x11
  go_upto_region 4 with (fail)
  generalize w2.alloc (.cells (madeCells #[.int .i64 0] nv) 3) = w3 at *
  have hP2 : P < w2.heap.size := (Array.getElem?_eq_some_iff.1 HX2.out).1
  have hX4 := pl_set11 (v := .slice (some ⟨w2.heap.size, 0, none⟩) nv nv) hX3
  have hO3 : Only (fun b => b = P) w3 (w3.setCell ⟨P, 11, none⟩ (.slice (some ⟨w2.heap.size, 0, none⟩) nv nv)) := Only.setCell (p := ⟨P, 11, none⟩) (Only.refl (fun b => b = P) w3) (fun _ => rfl) _
  have hD1 : Ints (w3.setCell ⟨P, 11, none⟩ (.slice (some ⟨w2.heap.size, 0, none⟩) nv nv)) w2.heap.size nv (fun _ => 0) := Arr.only hD0 hO3 (by omega)
  have HO4 := Lib.hid ((HO2.out.call hb2).then_ hO3 (fun _ _ h => h))
  have hz4 : (w3.setCell ⟨P, 11, none⟩ (.slice (some ⟨w2.heap.size, 0, none⟩) nv nv)).heap.size = w2.heap.size + 1 := by simp [World.setCell, hz3]
  generalize w3.setCell ⟨P, 11, none⟩ (.slice (some ⟨w2.heap.size, 0, none⟩) nv nv) = w4 at *
  clear hb2 hD0 hX3 hz3 y11 y11z hO3
  obtain ⟨bd, hbd⟩ : ∃ bd, bd = w2.heap.size := ⟨_, rfl⟩
  rw [← hbd] at hX4 hD1 hz4 ⊢
  have hbw : w.heap.size ≤ bd := by rw [hbd]; exact HO2.out.size
  clear hbd hP2
  -- the marks' array
  have HZ4 := Lib.hid hz4
  clear hz4
  have hb4 : Below w4.heap.size w4 (w4.alloc (.cells (madeCells #[.int .i64 0] nv) 3)) := (Below.refl _ _).alloc (Nat.le_refl _) _
  have hL0 : Ints (w4.alloc (.cells (madeCells #[.int .i64 0] nv) 3)) w4.heap.size nv (fun _ => 0) := Arr.made w4 (.int .i64 0) nv 3
  have hX5 := heap_below0 hb4 hX4
  have hD2 := Arr.below hD1 hb4
  have y12 := (pl_cell hX5).2.2.2.2.1
  have y12z := pl_thaw hX5 12
  go_upto_region 5 with (fail)
  generalize w4.alloc (.cells (madeCells #[.int .i64 0] nv) 3) = w5 at *
  have hX6 := pl_set12 (v := .slice (some ⟨w4.heap.size, 0, none⟩) nv nv) hX5
  have hO5 : Only (fun b => b = P) w5 (w5.setCell ⟨P, 12, none⟩ (.slice (some ⟨w4.heap.size, 0, none⟩) nv nv)) := Only.setCell (p := ⟨P, 12, none⟩) (Only.refl (fun b => b = P) w5) (fun _ => rfl) _
  have hL1 : Ints (w5.setCell ⟨P, 12, none⟩ (.slice (some ⟨w4.heap.size, 0, none⟩) nv nv)) w4.heap.size nv (fun _ => 0) := Arr.only hL0 hO5 (by have := HZ4.out; omega)
  have hD3 : Ints (w5.setCell ⟨P, 12, none⟩ (.slice (some ⟨w4.heap.size, 0, none⟩) nv nv)) bd nv (fun _ => 0) := Arr.only hD2 hO5 (by omega)
  have HO6 := Lib.hid ((HO4.out.call hb4).then_ hO5 (fun _ _ h => h))
  generalize w5.setCell ⟨P, 12, none⟩ (.slice (some ⟨w4.heap.size, 0, none⟩) nv nv) = w6 at *
  clear hb4 hL0 hX5 hD2 hD1 hX4 y12 y12z hO5 hmk
  have hz4 := HZ4.out
  obtain ⟨bl, hbl⟩ : ∃ bl, bl = w4.heap.size := ⟨_, rfl⟩
  rw [← hbl] at hX6 hL1 hz4 ⊢
  have hblw : w.heap.size ≤ bl := by omega
  have hne : bd ≠ bl := by omega
  have hPd : P ≠ bd := by omega
  have hPl : P ≠ bl := by omega
  clear hbl hz4 HO4 HO2 HO1 HX1 HX2
  have HX6 := Lib.hid hX6; have HL1 := Lib.hid hL1; have HD3 := Lib.hid hD3
  clear hX6 hL1 hD3
  -- what stands from here on: only the two arrays are written
  have HKP : Hid (∀ wr, Only (fun b => b = bd ∨ b = bl) w6 wr → wr.heap[P]? = some (plO g a s (pre) (.slice (some ⟨bd, 0, none⟩) nv nv) (.slice (some ⟨bl, 0, none⟩) nv nv) bm) ∧ Only (fun b => b = P) w wr) := Lib.hid (fun wr h => ⟨(h.block P (Array.getElem?_eq_some_iff.1 HX6.out).1 (by omega)).trans HX6.out, HO6.out.then_ h (fun b hb e => by omega)⟩)
  obtain ⟨⟨x0, x1, x2, x3, x4⟩, ⟨x8, x9⟩, x10, x11, x12, x13⟩ := pl_cell HX6.out
  go_wp2_with fail
  clear x0 x1 x2 x3 x4 x8 x9 x10 x11 x12 x13
  go_loopw [59] (fun vk wr => ∃ k : Nat, k ≤ nv ∧ vk = .int .i64 k ∧ Hid (Ints wr bl nv (fun y => if y < k then -1 else 0)) ∧ Hid (Only (fun b => b = bl) w6 wr)) (fun vk _ => nv - (intOf vk).toNat)
  case atStart => exact ⟨0, by omega, rfl, Lib.hid (HL1.out.congr (fun x _ => if_neg (by omega))), Lib.hid (Only.refl _ _)⟩
  case round =>
    obtain ⟨k, hk, rfl, HL, HO⟩ := hrel
    have hxk := (HKP.out wr (HO.out.mono (fun _ _ h => .inr h))).1
    obtain ⟨⟨x0, x1, x2, x3, x4⟩, ⟨x8, x9⟩, x10, x11, x12, x13⟩ := pl_cell hxk
    by_cases hlt : k < nv
    · have c0 := HL.out.cell hlt
      have cz := Arr.thaw HL.out k
      go_wp2_with fail
      have h1 := (HL.out.upd k (-1)).congr (L' := fun y => if y < k + 1 then -1 else 0) (fun x _ => by
        unfold upd
        by_cases e : x = k
        · subst e; rw [if_pos rfl, if_pos (by omega)]
        · rw [if_neg e]
          by_cases h : x < k
          · simp only [if_pos h, if_pos (show x < k + 1 by omega)]
          · simp only [if_neg h, if_neg (show ¬ x < k + 1 by omega)])
      have h2 := HO.out.setCell (p := ⟨bl, k, none⟩) (fun _ => rfl) (.int .i64 (-1))
      go_roundw
      case rel => exact ⟨k + 1, by omega, by go_num, Lib.hid h1, Lib.hid h2⟩
      case measure => simp [intOf]; omega
    · obtain rfl : nv = k := by omega
      obtain ⟨w7, hw7⟩ : ∃ x, x = wr := ⟨_, rfl⟩
      subst hw7
      have HM0 : Hid (Ints w7 bl nv (fun _ => -1)) := Lib.hid (HL.out.congr (fun x hx => (if_pos hx).symm))
      have HO7 := HO
      clear hxk HL HO
      go_wp2_with fail
      refine wp_region_z (fun w' => w'.cell? ⟨P, 3, none⟩ = some (.slice a.A3 g.n3 a.c3) ∧ w'.cell? ⟨P, 4, none⟩ = some (.slice a.A4 g.n4 a.c4)) [0, 1, 2, 3, 4, 5, 6, 7, 8, 9, 10, 11] [] (by kernel_rfl) (by kernel_rfl) (by kernel_rfl) (by rfl) (fun _ _ _ _ e h => ⟨e.symm.trans h.1, h.2⟩) ⟨x3, x4⟩ ?_
      iterate 12
        refine Heads.step (v := ?_) rfl (by first | (go_simp; done) | rfl) (fun W hW => ?_) ?_
        rotate_left
        · (obtain ⟨t0, t1⟩ := hW; go_simp; try with_reducible rfl)
      refine AnyZ.done (by kernel_rfl) ?_
      go_simp
      clear x0 x1 x2 x3 x4 x8 x9 x10 x11 x12 x13
      replace HM0 : Hid (Ints w7.drew bl nv (fun _ => -1)) := Lib.hid (Arr.heap HM0.out rfl)
      replace HO7 := Lib.hid HO7.out.drew
      generalize w7.drew = w8 at *
      have HIX : Hid (∀ j, j < 2 → ∀ W, (Instr.index 79 (.agg #[.slice a.A3 g.n3 a.c3, .slice a.A4 g.n4 a.c4]) (.int .i64 (j : Nat))).run Tryd.prog W = .ok (if j = 0 then .slice a.A3 g.n3 a.c3 else .slice a.A4 g.n4 a.c4) W) := Lib.hid (fun j hj W => two_slices _ _ _ _ _ _ j W hj)
      go_wp2_with fail
      go_loopw [80] (fun vj wr => ∃ j : Nat, j ≤ 2 ∧ vj = .int .i64 j ∧ Hid (Ints wr bl nv (if j = 0 then fun _ => -1 else if j = 1 then g.lastN s g.n3 else g.lastO s g.n4)) ∧ Hid (Only (fun b => b = bl) w6 wr)) (fun vj _ => 2 - (intOf vj).toNat)
      case atStart => exact ⟨0, by omega, rfl, HM0, HO7⟩
      case round =>
        clear HM0 HO7
        obtain ⟨j, hj, rfl, HM, HO⟩ := hrel
        obtain ⟨wj, hwj⟩ : ∃ x, x = wr := ⟨_, rfl⟩
        subst hwj
        obtain rfl | rfl | rfl : j = 0 ∨ j = 1 ∨ j = 2 := by omega
        · have hix := HIX.out 0 (by omega) wj
          simp only [if_true] at hix
          rw [show ((0 : Nat) : Int) = 0 from rfl] at hix ⊢
          replace HM : Hid (Ints wj bl nv (g.lastN s 0)) := HM
          go_wp2_with fail
          clear hix
          go_loopw [85] (fun vk wr => ∃ k : Nat, k ≤ g.n3 ∧ vk = .int .i64 k ∧ Hid (Ints wr bl nv (g.lastN s k)) ∧ Hid (Only (fun b => b = bl) w6 wr)) (fun vk _ => g.n3 - (intOf vk).toNat)
          case atStart => exact ⟨0, by omega, rfl, HM, HO⟩
          case round =>
            clear HM HO
            obtain ⟨k, hk, rfl, HM, HO⟩ := hrel
            obtain ⟨hxk, hok⟩ := HKP.out wr (HO.out.mono (fun _ _ h => .inr h))
            obtain ⟨⟨x0, x1, x2, x3, x4⟩, ⟨x8, x9⟩, x10, x11, x12, x13⟩ := pl_cell hxk
            by_cases hlt : k < g.n3
            · -- QB fill
              obtain ⟨bA, oA, hA, y0⟩ := (HG.out.next.keeps (HKW.out wr hok)).at_ hlt
              have hnm := HV.out.next k hlt
              obtain ⟨m, hm⟩ : ∃ m : Nat, g.N k = (m : Int) := ⟨(g.N k).toNat, by omega⟩
              have hmb : m < nv := by have h := num_of HV.out hnm; rw [HNUM.out, hm, Int.toNat_natCast] at h; exact h
              rw [hm] at y0
              rw [hA]
              have HNX : Hid (g.lastN s (k + 1) = upd (g.lastN s k) m (s 4)) := Lib.hid (by show upd (g.lastN s k) (g.N k).toNat (s 4) = _; rw [hm, Int.toNat_natCast])
              clear hm hnm
              have c0 := Arr.cell HM.out hmb
              have cz := Arr.thaw HM.out m
              go_wp2_with fail
              refine wp_region_z (fun w' => w'.cell? ⟨P, 12, none⟩ = some (.slice (some ⟨bl, 0, none⟩) nv nv) ∧ w'.cell? ⟨P, 9, none⟩ = some (.int .i64 (s 4))) [0, 1, 2, 3, 4, 5, 6, 7, 8, 9, 10] [11] (by kernel_rfl) (by kernel_rfl) (by kernel_rfl) (by rfl) (fun _ _ _ _ e h => ⟨e.symm.trans h.1, h.2⟩) ⟨x12, x9⟩ ?_
              iterate 11
                refine Heads.step (v := ?_) rfl (by first | (go_simp; done) | rfl) (fun W hW => ?_) ?_
                rotate_left
                · (obtain ⟨t0, t1⟩ := hW; go_simp; try with_reducible rfl)
              replace c0 : wr.drew.cell? ⟨bl, m, none⟩ = _ := c0
              replace cz : wr.drew.frozen? ⟨bl, m, none⟩ = _ := cz
              refine AnyZ.one (i := 11) (by kernel_rfl) rfl (fun K hK => ?_)
              go_simp
              refine hK _ _ (fun h => by cases h) (AnyZ.done (by kernel_rfl) ?_)
              clear hK
              go_simp
              have h1 : Ints (wr.setCell ⟨bl, m, none⟩ (.int .i64 (s 4))).drew bl nv (g.lastN s (k + 1)) := Arr.heap (w := wr.setCell ⟨bl, m, none⟩ (.int .i64 (s 4))) (by rw [HNX.out]; exact HM.out.upd m (s 4)) rfl
              have h2 := (HO.out.setCell (p := ⟨bl, m, none⟩) (fun _ => rfl) (.int .i64 (s 4))).drew
              clear c0 cz y0 x0 x1 x2 x3 x4 x8 x9 x10 x11 x12 x13 hxk
              go_wp2_with fail
              go_roundw
              case rel => exact ⟨k + 1, by omega, by go_num, Lib.hid h1, Lib.hid h2⟩
              case measure => simp [intOf]; omega
              -- QE fill
            · obtain hkn : k = g.n3 := by omega
              rw [hkn] at HM
              go_wp2_with fail
              go_roundw
              case rel => exact ⟨1, by omega, rfl, HM, HO⟩
              case measure => simp [intOf]
        · have hix := HIX.out 1 (by omega) wj
          simp only [if_neg (show ¬ (1 : Nat) = 0 by omega)] at hix
          rw [show ((1 : Nat) : Int) = 1 from rfl] at hix ⊢
          replace HM : Hid (Ints wj bl nv (g.lastO s 0)) := HM
          go_wp2_with fail
          clear hix
          go_loopw [85] (fun vk wr => ∃ k : Nat, k ≤ g.n4 ∧ vk = .int .i64 k ∧ Hid (Ints wr bl nv (g.lastO s k)) ∧ Hid (Only (fun b => b = bl) w6 wr)) (fun vk _ => g.n4 - (intOf vk).toNat)
          case atStart => exact ⟨0, by omega, rfl, HM, HO⟩
          case round =>
            clear HM HO
            obtain ⟨k, hk, rfl, HM, HO⟩ := hrel
            obtain ⟨hxk, hok⟩ := HKP.out wr (HO.out.mono (fun _ _ h => .inr h))
            obtain ⟨⟨x0, x1, x2, x3, x4⟩, ⟨x8, x9⟩, x10, x11, x12, x13⟩ := pl_cell hxk
            by_cases hlt : k < g.n4
            · -- QB fill
              obtain ⟨bA, oA, hA, y0⟩ := (HG.out.outs.keeps (HKW.out wr hok)).at_ hlt
              have hnm := HV.out.outs k hlt
              obtain ⟨m, hm⟩ : ∃ m : Nat, g.O k = (m : Int) := ⟨(g.O k).toNat, by omega⟩
              have hmb : m < nv := by have h := num_of HV.out hnm; rw [HNUM.out, hm, Int.toNat_natCast] at h; exact h
              rw [hm] at y0
              rw [hA]
              have HNX : Hid (g.lastO s (k + 1) = upd (g.lastO s k) m (s 4)) := Lib.hid (by show upd (g.lastO s k) (g.O k).toNat (s 4) = _; rw [hm, Int.toNat_natCast])
              clear hm hnm
              have c0 := Arr.cell HM.out hmb
              have cz := Arr.thaw HM.out m
              go_wp2_with fail
              refine wp_region_z (fun w' => w'.cell? ⟨P, 12, none⟩ = some (.slice (some ⟨bl, 0, none⟩) nv nv) ∧ w'.cell? ⟨P, 9, none⟩ = some (.int .i64 (s 4))) [0, 1, 2, 3, 4, 5, 6, 7, 8, 9, 10] [11] (by kernel_rfl) (by kernel_rfl) (by kernel_rfl) (by rfl) (fun _ _ _ _ e h => ⟨e.symm.trans h.1, h.2⟩) ⟨x12, x9⟩ ?_
              iterate 11
                refine Heads.step (v := ?_) rfl (by first | (go_simp; done) | rfl) (fun W hW => ?_) ?_
                rotate_left
                · (obtain ⟨t0, t1⟩ := hW; go_simp; try with_reducible rfl)
              replace c0 : wr.drew.cell? ⟨bl, m, none⟩ = _ := c0
              replace cz : wr.drew.frozen? ⟨bl, m, none⟩ = _ := cz
              refine AnyZ.one (i := 11) (by kernel_rfl) rfl (fun K hK => ?_)
              go_simp
              refine hK _ _ (fun h => by cases h) (AnyZ.done (by kernel_rfl) ?_)
              clear hK
              go_simp
              have h1 : Ints (wr.setCell ⟨bl, m, none⟩ (.int .i64 (s 4))).drew bl nv (g.lastO s (k + 1)) := Arr.heap (w := wr.setCell ⟨bl, m, none⟩ (.int .i64 (s 4))) (by rw [HNX.out]; exact HM.out.upd m (s 4)) rfl
              have h2 := (HO.out.setCell (p := ⟨bl, m, none⟩) (fun _ => rfl) (.int .i64 (s 4))).drew
              clear c0 cz y0 x0 x1 x2 x3 x4 x8 x9 x10 x11 x12 x13 hxk
              go_wp2_with fail
              go_roundw
              case rel => exact ⟨k + 1, by omega, by go_num, Lib.hid h1, Lib.hid h2⟩
              case measure => simp [intOf]; omega
              -- QE fill
            · obtain hkn : k = g.n4 := by omega
              rw [hkn] at HM
              go_wp2_with fail
              go_roundw
              case rel => exact ⟨2, by omega, rfl, HM, HO⟩
              case measure => simp [intOf]
        · rw [show ((2 : Nat) : Int) = 2 from rfl]
          obtain ⟨w9, hw9⟩ : ∃ x, x = wj := ⟨_, rfl⟩
          subst hw9
          have HO9 := HO
          have HLO : Hid (Ints w9 bl nv (g.lastO s g.n4)) := HM
          have HD9 : Hid (Ints w9 bd nv (g.dep 0)) := Lib.hid (Arr.only HD3.out HO9.out hne)
          obtain ⟨hxk, hok⟩ := HKP.out w9 (HO.out.mono (fun _ _ h => .inr h))
          obtain ⟨⟨x0, x1, x2, x3, x4⟩, ⟨x8, x9⟩, x10, x11, x12, x13⟩ := pl_cell hxk
          clear hxk hok HM HO
          go_wp2_with fail
          clear x0 x1 x2 x3 x4 x8 x9 x10 x11 x12 x13
          go_loopw [108] (fun vi wr => ∃ i : Nat, i ≤ g.n2 ∧ vi = .int .i64 i ∧ Hid (Ints wr bd nv (g.dep i)) ∧ Hid (Only (fun b => b = bd) w9 wr)) (fun vi _ => g.n2 - (intOf vi).toNat)
          case atStart => exact ⟨0, by omega, rfl, HD9, Lib.hid (Only.refl _ _)⟩
          case round =>
            clear HD9
            obtain ⟨i, hi, rfl, HD, HO⟩ := hrel
            obtain ⟨wi, hwi⟩ : ∃ x, x = wr := ⟨_, rfl⟩
            subst hwi
            by_cases hlt : i < g.n2
            · -- QB dep
              obtain ⟨hxk, hok⟩ := HKP.out wi ((HO9.out.mono (S' := fun b => b = bd ∨ b = bl) (fun _ _ h => .inr h)).then_ HO.out (fun b _ h => .inl h))
              obtain ⟨b2, o2, hA2, y0, y1⟩ := (HT1.out.keeps (HKW.out wi hok)).at2 hlt
              simp only [two] at y0 y1
              have ht2 := HT2.out i hlt
              obtain ⟨A', hA'⟩ : ∃ A', TA i = A' := ⟨_, rfl⟩
              rw [hA'] at y0 ht2
              rw [hA2]
              have HTI := Lib.hid ht2
              clear ht2 hA'
              have hbt : Below wi.heap.size wi (wi.alloc (.cells #[.slice A' (g.tl i) (TC i), .int .i64 (g.tb i)] 50)) := (Below.refl _ _).alloc (Nat.le_refl _) _
              have hbx := BoxAt.new wi [.slice A' (g.tl i) (TC i), .int .i64 (g.tb i)] 50
              have hz1 : (wi.alloc (.cells #[.slice A' (g.tl i) (TC i), .int .i64 (g.tb i)] 50)).heap.size = wi.heap.size + 1 := by simp
              go_upto_region 22 with (fail)
              clear y0 y1
              generalize wi.alloc (.cells #[.slice A' (g.tl i) (TC i), .int .i64 (g.tb i)] 50) = wt at *
              have hD1 := Arr.below HD.out hbt
              have hO1 := HO.out.call hbt
              obtain ⟨hxk1, hok1⟩ := HKP.out wt ((HO9.out.mono (S' := fun b => b = bd ∨ b = bl) (fun _ _ h => .inr h)).then_ hO1 (fun b _ h => .inl h))
              obtain ⟨⟨x0, x1, x2, x3, x4⟩, ⟨x8, x9⟩, x10, x11, x12, x13⟩ := pl_cell hxk1
              have hpi : pre + i < nv := by have := HNV.out; have := HPRE.out; omega
              have ew5 : IntKind.i64.wrap ((pre : Int) + (i : Int)) = (pre : Int) + (i : Int) := by rw [IntKind.wrap_i64]; omega
              have e1 : 0 ≤ (pre : Int) + (i : Int) := by omega
              have e2 : (pre : Int) + (i : Int) < (nv : Int) := by omega
              have e3 : ((pre : Int) + (i : Int)).toNat = pre + i := by omega
              have c0 := Arr.cell hD1 hpi
              have cz := Arr.thaw hD1 (pre + i)
              go_wp2_with fail
              refine wp_region_z (fun w' => w'.cell? ⟨P, 11, none⟩ = some (.slice (some ⟨bd, 0, none⟩) nv nv) ∧ w'.cell? ⟨P, 10, none⟩ = some (.int .i64 (pre : Nat))) [0, 1, 2, 3, 4, 5, 6, 7, 8, 9, 10] [11] (by kernel_rfl) (by kernel_rfl) (by kernel_rfl) (by rfl) (fun _ _ _ _ e h => ⟨e.symm.trans h.1, h.2⟩) ⟨x11, x10⟩ ?_
              iterate 11
                refine Heads.step (v := ?_) rfl (by first | (go_simp; done) | rfl) (fun W hW => ?_) ?_
                rotate_left
                · (obtain ⟨t0, t1⟩ := hW; go_simp; try with_reducible rfl)
              replace c0 : wt.drew.cell? ⟨bd, pre + i, none⟩ = _ := c0
              replace cz : wt.drew.frozen? ⟨bd, pre + i, none⟩ = _ := cz
              refine AnyZ.one (i := 11) (by kernel_rfl) rfl (fun K hK => ?_)
              go_simp
              refine hK _ _ (fun h => by cases h) (AnyZ.done (by kernel_rfl) ?_)
              clear hK
              go_simp
              have hD2 : Ints (wt.setCell ⟨bd, pre + i, none⟩ (.int .i64 1)).drew bd nv (fun y => if y = pre + i then 1 + top (fun m => g.dep i (g.tw i m).toNat) 0 else g.dep i y) := Arr.heap (w := wt.setCell ⟨bd, pre + i, none⟩ (.int .i64 1)) (Ints.congr (Ints.upd hD1 (pre + i) 1) (fun x _ => by unfold upd; split <;> simp [top])) rfl
              have hOs : Only (fun b => b = bd) wt (wt.setCell ⟨bd, pre + i, none⟩ (.int .i64 1)).drew := (Only.setCell (p := ⟨bd, pre + i, none⟩) (Only.refl (fun b => b = bd) wt) (fun _ => rfl) _).drew
              have hO2 := hO1.then_ hOs (fun _ _ h => h)
              have hbdi : bd < wi.heap.size := Arr.lt HD.out
              have hbx2 := hOs.box hbx (by omega)
              generalize (wt.setCell ⟨bd, pre + i, none⟩ (.int .i64 1)).drew = wu at *
              have HDU := Lib.hid hD2; have HOU := Lib.hid hO2; have HBXU := Lib.hid hbx2
              have u0 := hbx2 0 _ rfl
              clear hD2 hO2 hbx2 hOs hbx hbt hD1 hO1 hxk1 hok1 hxk hok c0 cz x0 x1 x2 x3 x4 x8 x9 x10 x11 x12 x13 hz1
              go_wp2_with fail
              clear u0
              have htl := (HV.out.tabs i hlt).len
              go_loopw [127] (fun vj wr => ∃ j : Nat, j ≤ g.tl i ∧ vj = .int .i64 j ∧ Hid (Ints wr bd nv (fun y => if y = pre + i then 1 + top (fun m => g.dep i (g.tw i m).toNat) j else g.dep i y)) ∧ Hid (Only (fun b => b = bd) wu wr)) (fun vj _ => g.tl i - (intOf vj).toNat)
              case atStart => exact ⟨0, by omega, rfl, HDU, Lib.hid (Only.refl _ _)⟩
              case round =>
                clear HDU
                obtain ⟨j, hj, rfl, HDj, HOj⟩ := hrel
                obtain ⟨wj, hwj⟩ : ∃ x, x = wr := ⟨_, rfl⟩
                subst hwj
                have hO3 := HOU.out.then_ HOj.out (fun _ _ h => h)
                obtain ⟨hxk, hok⟩ := HKP.out wj ((HO9.out.mono (S' := fun b => b = bd ∨ b = bl) (fun _ _ h => .inr h)).then_ hO3 (fun b _ h => .inl h))
                by_cases hlj : j < g.tl i
                · obtain ⟨ba, oa, hA3, y0⟩ := (HTI.out.keeps (HKW.out wj hok)).at_ hlj
                  have hin := (HV.out.tabs i hlt).ins j hlj
                  have hil := in_lt HV.out hlt hlj
                  rw [HPRE.out] at hil
                  obtain ⟨m, hm⟩ : ∃ m : Nat, g.tw i j = (m : Int) := ⟨(g.tw i j).toNat, by omega⟩
                  have hT : Hid (∀ q : Nat → Nat → Int, top (fun m => g.dep i (g.tw i m).toNat) (j + 1) = max (top (fun m => g.dep i (g.tw i m).toNat) j) (g.dep i m)) := Lib.hid (fun _ => by show max _ (g.dep i (g.tw i j).toNat) = _; rw [hm, Int.toNat_natCast])
                  rw [hm, Int.toNat_natCast] at hil
                  rw [hm] at y0
                  rw [hA3]
                  clear hm hin
                  have hmn : m < nv := by omega
                  have hne2 : m ≠ pre + i := by omega
                  obtain ⟨⟨x0, x1, x2, x3, x4⟩, ⟨x8, x9⟩, x10, x11, x12, x13⟩ := pl_cell hxk
                  have c0 := Arr.cell HDj.out hpi
                  have c1 := Arr.cell HDj.out hmn
                  have cz := Arr.thaw HDj.out (pre + i)
                  simp only [if_pos] at c0
                  simp only [if_neg hne2] at c1
                  have hdm := g.dep_le i m
                  have htp : 0 ≤ top (fun m => g.dep i (g.tw i m).toNat) j ∧ top (fun m => g.dep i (g.tw i m).toNat) j ≤ i := top_le (by omega) j (fun q _ => (g.dep_le i _).2)
                  have HTP : Hid (max (1 + top (fun m => g.dep i (g.tw i m).toNat) j) (g.dep i m + 1) = 1 + top (fun m => g.dep i (g.tw i m).toNat) (j + 1)) := Lib.hid (by rw [hT.out (fun _ _ => 0)]; omega)
                  obtain ⟨tp, htpe⟩ : ∃ tp, tp = 1 + top (fun m => g.dep i (g.tw i m).toNat) j := ⟨_, rfl⟩
                  obtain ⟨dm, hdme⟩ : ∃ dm, dm = g.dep i m := ⟨_, rfl⟩
                  rw [← htpe] at c0 HTP
                  rw [← hdme] at c1 HTP
                  have ew6 : IntKind.i64.wrap (dm + 1) = dm + 1 := by rw [IntKind.wrap_i64]; omega
                  have hmx := fun W ts t => run_max2 W ts t tp (dm + 1)
                  clear hdm htp htpe hdme hT
                  go_wp2_with fail
                  refine wp_region_z (fun w' => w'.cell? ⟨P, 11, none⟩ = some (.slice (some ⟨bd, 0, none⟩) nv nv) ∧ w'.cell? ⟨P, 10, none⟩ = some (.int .i64 (pre : Nat)) ∧ w'.cell? ⟨bd, pre + i, none⟩ = some (.int .i64 tp) ∧ w'.cell? ⟨bd, m, none⟩ = some (.int .i64 dm)) [0, 1, 2, 3, 4, 5, 6, 7, 8, 9, 10, 11, 12, 13, 14, 15, 16, 17, 18, 19, 20, 21, 22, 23, 24, 25, 26, 27, 28, 29] [32] (by kernel_rfl) (by kernel_rfl) (by kernel_rfl) (by rfl) (fun _ _ _ _ e h => ⟨e.symm.trans h.1, h.2⟩) ⟨x11, x10, c0, c1⟩ ?_
                  iterate 30
                    refine Heads.step (v := ?_) rfl (by first | (go_simp; done) | rfl) (fun W hW => ?_) ?_
                    rotate_left
                    · (obtain ⟨t0, t1, t2, t3⟩ := hW; go_simp; try with_reducible rfl)
                  refine AnyZ.one (i := 30) (by kernel_rfl) rfl (fun K hK => ?_)
                  go_simp
                  rw [HTP.out]
                  obtain ⟨tq, htq⟩ : ∃ tq, tq = 1 + top (fun m => g.dep i (g.tw i m).toNat) (j + 1) := ⟨_, rfl⟩
                  rw [← htq]
                  have HTQ := Lib.hid htq
                  clear htq
                  refine hK _ _ (fun _ => ⟨x11, x10, c0, c1⟩) ?_
                  clear hK
                  refine AnyZ.mid [31] [32] 1 rfl (by kernel_rfl) (by kernel_rfl) (by kernel_rfl) (fun _ _ _ _ e h => ⟨e.symm.trans h.1, h.2⟩) ⟨x11, x10, c0, c1⟩ ?_
                  iterate 1
                    refine Heads.step (v := ?_) rfl (by first | (go_simp; done) | rfl) (fun W hW => ?_) ?_
                    rotate_left
                    · (obtain ⟨t0, t1, t2, t3⟩ := hW; go_simp; try with_reducible rfl)
                  replace c0 : wj.drew.cell? ⟨bd, pre + i, none⟩ = _ := c0
                  replace cz : wj.drew.frozen? ⟨bd, pre + i, none⟩ = _ := cz
                  refine AnyZ.one (i := 32) (by kernel_rfl) rfl (fun K hK => ?_)
                  go_simp
                  refine hK _ _ (fun h => by cases h) (AnyZ.done (by kernel_rfl) ?_)
                  clear hK
                  go_simp
                  have h1 : Ints (wj.setCell ⟨bd, pre + i, none⟩ (.int .i64 tq)).drew bd nv (fun y => if y = pre + i then 1 + top (fun m => g.dep i (g.tw i m).toNat) (j + 1) else g.dep i y) := Arr.heap (w := wj.setCell ⟨bd, pre + i, none⟩ (.int .i64 tq)) (Ints.congr (Ints.upd HDj.out (pre + i) tq) (fun x _ => by
                    unfold upd
                    by_cases e : x = pre + i
                    · simp only [if_pos e]; exact HTQ.out.symm
                    · simp only [if_neg e])) rfl
                  have h2 := (HOj.out.setCell (p := ⟨bd, pre + i, none⟩) (fun _ => rfl) (.int .i64 tq)).drew
                  clear c0 c1 cz y0 x0 x1 x2 x3 x4 x8 x9 x10 x11 x12 x13 hxk hmx
                  go_wp2_with fail
                  go_roundw
                  case rel => exact ⟨j + 1, by omega, by go_num, Lib.hid h1, Lib.hid h2⟩
                  case measure => simp [intOf]; omega
                · obtain hjn : j = g.tl i := by omega
                  rw [hjn] at HDj
                  have h1 : Ints wj bd nv (g.dep (i + 1)) := HDj.out.congr (fun y _ => by
                    show (if y = g.pre + i then _ else _) = _
                    rw [HPRE.out])
                  clear hxk
                  go_wp2_with fail
                  go_roundw
                  case rel => exact ⟨i + 1, by omega, by go_num, Lib.hid h1, Lib.hid hO3⟩
                  case measure => simp [intOf]; omega
              -- QE dep
            · obtain hin : i = g.n2 := by omega
              rw [hin] at HD
              obtain ⟨w10, hw10⟩ : ∃ x, x = wi := ⟨_, rfl⟩
              subst hw10
              have HDD : Hid (Ints w10 bd nv g.D) := HD
              have HO10 := Lib.hid ((HO9.out.mono (S' := fun b => b = bd ∨ b = bl) (fun _ _ h => .inr h)).then_ HO.out (fun b _ h => .inl h))
              have HL10 : Hid (Ints w10 bl nv (g.lastT s 0)) := Lib.hid (Arr.only HLO.out HO.out (fun e => hne e.symm))
              clear HD HO hin
              obtain ⟨hxk, hok⟩ := HKP.out w10 HO10.out
              obtain ⟨⟨x0, x1, x2, x3, x4⟩, ⟨x8, x9⟩, x10, x11, x12, x13⟩ := pl_cell hxk
              have ew7 : IntKind.i64.wrap ((g.n2 : Int) - 1) = (g.n2 : Int) - 1 := by rw [IntKind.wrap_i64]; omega
              clear hxk hok
              go_wp2_with fail
              clear x0 x1 x2 x3 x4 x8 x9 x10 x11 x12 x13 ew7
              go_loopw [13] (fun vi wr => ∃ k : Nat, k ≤ g.n2 ∧ vi = .int .i64 ((g.n2 : Int) - 1 - k) ∧ Hid (Ints wr bl nv (g.lastT s k)) ∧ Hid (∀ m, m < k → 0 ≤ g.lastT s m (g.pre + (g.n2 - 1 - m)) → g.D (g.pre + (g.n2 - 1 - m)) ≤ s 4) ∧ Hid (Only (fun b => b = bl) w10 wr)) (fun vi _ => (intOf vi + 1).toNat)
              case atStart => exact ⟨0, by omega, congrArg (Value.int .i64) (by omega), HL10, Lib.hid (fun m hm => by omega), Lib.hid (Only.refl _ _)⟩
              case round =>
                clear HL10
                obtain ⟨k, hk, rfl, HL, HK, HO⟩ := hrel
                obtain ⟨wk, hwk⟩ : ∃ x, x = wr := ⟨_, rfl⟩
                subst hwk
                have hO3 := HO10.out.then_ HO.out (fun _ _ h => .inr h)
                obtain ⟨hxk, hok⟩ := HKP.out wk hO3
                by_cases hlt : k < g.n2
                · obtain ⟨i, hi⟩ : ∃ i, i = g.n2 - 1 - k := ⟨_, rfl⟩
                  have hii : (g.n2 : Int) - 1 - (k : Int) = (i : Int) := by omega
                  have hi2 : i < g.n2 := by omega
                  rw [hii]
                  obtain ⟨⟨x0, x1, x2, x3, x4⟩, ⟨x8, x9⟩, x10, x11, x12, x13⟩ := pl_cell hxk
                  have hpi : pre + i < nv := by have := HNV.out; have := HPRE.out; omega
                  have ew5 : IntKind.i64.wrap ((pre : Int) + (i : Int)) = (pre : Int) + (i : Int) := by rw [IntKind.wrap_i64]; omega
                  have e1 : 0 ≤ (pre : Int) + (i : Int) := by omega
                  have e2 : (pre : Int) + (i : Int) < (nv : Int) := by omega
                  have e3 : ((pre : Int) + (i : Int)).toNat = pre + i := by omega
                  have c0 := Arr.cell HL.out hpi
                  have hD9 : Ints wk bd nv g.D := Arr.only HDD.out HO.out hne
                  have d0 := Arr.cell hD9 hpi
                  obtain ⟨lv, hlv⟩ : ∃ lv, lv = g.lastT s k (pre + i) := ⟨_, rfl⟩
                  rw [← hlv] at c0
                  have HLV := Lib.hid hlv; have HI := Lib.hid hi
                  have HD9 := Lib.hid hD9
                  have ewi : IntKind.i64.wrap ((i : Int) - 1) = (i : Int) - 1 := by rw [IntKind.wrap_i64]; omega
                  have hi1 : (i : Int) - 1 = (g.n2 : Int) - 1 - ((k + 1 : Nat) : Int) := by omega
                  have HI1 := Lib.hid hi1
                  clear hlv hi hii hi1 hD9
                  have hms : (intOf (.int .i64 ((i : Int) - 1)) + 1).toNat < (intOf (.int .i64 (i : Int)) + 1).toNat := by simp [intOf]
                  by_cases hneg : lv < 0
                  · have hnx : g.lastT s (k + 1) = g.lastT s k := by
                      show (if g.lastT s k (g.pre + (g.n2 - 1 - k)) < 0 then _ else _) = _
                      rw [← HI.out, HPRE.out, ← HLV.out, if_pos hneg]
                    have HNX := Lib.hid hnx
                    have HK2 : Hid (∀ m, m < k + 1 → 0 ≤ g.lastT s m (g.pre + (g.n2 - 1 - m)) → g.D (g.pre + (g.n2 - 1 - m)) ≤ s 4) := Lib.hid (fun m hm h0 => by
                      by_cases e : m = k
                      · subst e
                        rw [← HI.out, HPRE.out, ← HLV.out] at h0
                        omega
                      · exact HK.out m (by omega) h0)
                    clear hnx
                    go_wp2_with fail
                    go_roundw
                    case rel => exact ⟨k + 1, by omega, congrArg (Value.int .i64) HI1.out, by rw [HNX.out]; exact HL, HK2, HO⟩
                    case measure => simp [intOf]
                  · have hq : decide (lv < 0) = false := decide_eq_false hneg
                    go_wp2_with fail
                    obtain ⟨dv, hdv⟩ : ∃ dv, dv = g.D (pre + i) := ⟨_, rfl⟩
                    rw [← hdv] at d0
                    have HDV := Lib.hid hdv
                    clear hdv
                    refine wp_region_z (fun w' => w'.cell? ⟨P, 11, none⟩ = some (.slice (some ⟨bd, 0, none⟩) nv nv) ∧ w'.cell? ⟨P, 9, none⟩ = some (.int .i64 (s 4)) ∧ w'.cell? ⟨bd, pre + i, none⟩ = some (.int .i64 dv)) [0, 1, 2, 3, 4, 5, 6, 7, 8, 9, 10, 11, 12] [] (by kernel_rfl) (by kernel_rfl) (by kernel_rfl) (by rfl) (fun _ _ _ _ e h => ⟨e.symm.trans h.1, h.2⟩) ⟨x11, x9, d0⟩ ?_
                    iterate 13
                      refine Heads.step (v := ?_) rfl (by first | (go_simp; done) | rfl) (fun W hW => ?_) ?_
                      rotate_left
                      · (obtain ⟨t0, t1, t2⟩ := hW; go_simp; try with_reducible rfl)
                    refine AnyZ.done (by kernel_rfl) ?_
                    go_simp
                    by_cases hdeep : s 4 < dv
                    · have HNO : Hid (¬ g.LookOk s) := Lib.hid (fun h => by
                        have h2 := h k hlt
                        rw [← HI.out, HPRE.out, ← HLV.out, ← HDV.out] at h2
                        have := h2 (by omega); omega)
                      go_wp2_with fail
                      go_ret
                      exact ⟨⟨ret_bool (tf_no HNO.out).symm, fun h => absurd h HNO.out⟩, hok.drew⟩
                    · have hok2 : Only (fun b => b = P) w wk.drew := hok.drew
                      have hxk2 : wk.drew.heap[P]? = some (plO g a s (pre) (.slice (some ⟨bd, 0, none⟩) nv nv) (.slice (some ⟨bl, 0, none⟩) nv nv) bm) := hxk
                      replace HL : Hid (Ints wk.drew bl nv (g.lastI (g.lastT s k) i 0)) := Lib.hid (Arr.heap (w := wk) HL.out rfl)
                      replace HD9 : Hid (Ints wk.drew bd nv g.D) := Lib.hid (Arr.heap (w := wk) HD9.out rfl)
                      have HOd := Lib.hid HO.out.drew
                      obtain ⟨b2, o2, hA2, y0, _⟩ := (HT1.out.keeps (HKW.out _ hok2)).at2 hi2
                      simp only [two] at y0
                      obtain ⟨A', hA'⟩ : ∃ A', TA i = A' := ⟨_, rfl⟩
                      have ht2 := HT2.out i hi2
                      rw [hA'] at y0 ht2
                      have HTI := Lib.hid ht2
                      rw [hA2] at x2
                      have HA2 := Lib.hid hA2
                      have HND : Hid (g.D (g.pre + (g.n2 - 1 - k)) ≤ s 4) := Lib.hid (by rw [← HI.out, HPRE.out, ← HDV.out]; omega)
                      have HLN : Hid (g.lastT s (k + 1) = g.lastI (g.lastT s k) i (g.tl i)) := Lib.hid (by
                        show (if g.lastT s k (g.pre + (g.n2 - 1 - k)) < 0 then _ else g.lastI (g.lastT s k) (g.n2 - 1 - k) (g.tl (g.n2 - 1 - k))) = _
                        rw [← HI.out, HPRE.out, ← HLV.out, if_neg (by omega)])
                      clear ht2 hA' hA2 c0 d0 x0 x1 x3 x4 x8 x9 x10 x11 x12 x13 hok
                      replace x2 : wk.drew.cell? ⟨P, 2, none⟩ = _ := x2
                      generalize wk.drew = wd at *
                      go_wp2_with fail
                      clear x2 y0
                      have hdvb : 1 ≤ dv ∧ dv ≤ 100 := by rw [HDV.out, ← HPRE.out]; have := D_pos (g := g) hi2; rw [HPRE.out] at this ⊢; have h := HDV.out; omega
                      have htl := (HV.out.tabs i hi2).len
                      go_loopw [213] (fun vj wr => ∃ j : Nat, j ≤ g.tl i ∧ vj = .int .i64 j ∧ Hid (Ints wr bl nv (g.lastI (g.lastT s k) i j)) ∧ Hid (Only (fun b => b = bl) wd wr)) (fun vj _ => g.tl i - (intOf vj).toNat)
                      case atStart => exact ⟨0, by omega, rfl, HL, Lib.hid (Only.refl _ _)⟩
                      case round =>
                        clear HL
                        obtain ⟨j, hj, rfl, HLj, HOj⟩ := hrel
                        obtain ⟨wj, hwj⟩ : ∃ x, x = wr := ⟨_, rfl⟩
                        subst hwj
                        have hO4 := HOd.out.then_ HOj.out (fun _ _ h => h)
                        obtain ⟨hxj, hokj⟩ := HKP.out wj (HO10.out.then_ hO4 (fun _ _ h => .inr h))
                        by_cases hlj : j < g.tl i
                        · obtain ⟨ba, oa, hA3, y0⟩ := (HTI.out.keeps (HKW.out wj hokj)).at_ hlj
                          have hin := (HV.out.tabs i hi2).ins j hlj
                          have hil := in_lt HV.out hi2 hlj
                          rw [HPRE.out] at hil
                          obtain ⟨m, hm⟩ : ∃ m : Nat, g.tw i j = (m : Int) := ⟨(g.tw i j).toNat, by omega⟩
                          have HNX : Hid (g.lastI (g.lastT s k) i (j + 1) = upd (g.lastI (g.lastT s k) i j) m (max (g.lastI (g.lastT s k) i j m) (dv - 1))) := Lib.hid (by
                            show upd (g.lastI (g.lastT s k) i j) (g.tw i j).toNat (max (g.lastI (g.lastT s k) i j (g.tw i j).toNat) (g.D (g.pre + i) - 1)) = _
                            rw [hm, Int.toNat_natCast, HPRE.out, ← HDV.out])
                          rw [hm, Int.toNat_natCast] at hil
                          rw [hm] at y0
                          rw [hA3]
                          clear hm hin
                          have hmn : m < nv := by omega
                          obtain ⟨⟨x0, x1, x2, x3, x4⟩, ⟨x8, x9⟩, x10, x11, x12, x13⟩ := pl_cell hxj
                          have c1 := Arr.cell HLj.out hmn
                          have cz := Arr.thaw HLj.out m
                          have d0 := Arr.cell (Arr.only HD9.out HOj.out hne) hpi
                          rw [← HDV.out] at d0
                          obtain ⟨lm, hlm⟩ : ∃ lm, lm = g.lastI (g.lastT s k) i j m := ⟨_, rfl⟩
                          rw [← hlm] at c1 HNX
                          have ewd : IntKind.i64.wrap (dv - 1) = dv - 1 := by rw [IntKind.wrap_i64]; omega
                          have hmx := fun W ts t => run_max2 W ts t lm (dv - 1)
                          clear hlm
                          go_wp2_with fail
                          refine wp_region_z (fun w' => w'.cell? ⟨P, 12, none⟩ = some (.slice (some ⟨bl, 0, none⟩) nv nv) ∧ w'.cell? ⟨P, 11, none⟩ = some (.slice (some ⟨bd, 0, none⟩) nv nv) ∧ w'.cell? ⟨bl, m, none⟩ = some (.int .i64 lm) ∧ w'.cell? ⟨bd, pre + i, none⟩ = some (.int .i64 dv)) [0, 1, 2, 3, 4, 5, 6, 7, 8, 9, 10, 11, 12, 13, 14, 15, 16, 17, 18, 19] [22] (by kernel_rfl) (by kernel_rfl) (by kernel_rfl) (by rfl) (fun _ _ _ _ e h => ⟨e.symm.trans h.1, h.2⟩) ⟨x12, x11, c1, d0⟩ ?_
                          iterate 20
                            refine Heads.step (v := ?_) rfl (by first | (go_simp; done) | rfl) (fun W hW => ?_) ?_
                            rotate_left
                            · (obtain ⟨t0, t1, t2, t3⟩ := hW; go_simp; try with_reducible rfl)
                          refine AnyZ.one (i := 20) (by kernel_rfl) rfl (fun K hK => ?_)
                          go_simp
                          obtain ⟨mx, hmxe⟩ : ∃ mx, mx = max lm (dv - 1) := ⟨_, rfl⟩
                          rw [← hmxe] at HNX ⊢
                          clear hmxe
                          refine hK _ _ (fun _ => ⟨x12, x11, c1, d0⟩) ?_
                          clear hK
                          refine AnyZ.mid [21] [22] 1 rfl (by kernel_rfl) (by kernel_rfl) (by kernel_rfl) (fun _ _ _ _ e h => ⟨e.symm.trans h.1, h.2⟩) ⟨x12, x11, c1, d0⟩ ?_
                          iterate 1
                            refine Heads.step (v := ?_) rfl (by first | (go_simp; done) | rfl) (fun W hW => ?_) ?_
                            rotate_left
                            · (obtain ⟨t0, t1, t2, t3⟩ := hW; go_simp; try with_reducible rfl)
                          replace c1 : wj.drew.cell? ⟨bl, m, none⟩ = _ := c1
                          replace cz : wj.drew.frozen? ⟨bl, m, none⟩ = _ := cz
                          refine AnyZ.one (i := 22) (by kernel_rfl) rfl (fun K hK => ?_)
                          go_simp
                          refine hK _ _ (fun h => by cases h) (AnyZ.done (by kernel_rfl) ?_)
                          clear hK
                          go_simp
                          have h1 : Ints (wj.setCell ⟨bl, m, none⟩ (.int .i64 mx)).drew bl nv (g.lastI (g.lastT s k) i (j + 1)) := Arr.heap (w := wj.setCell ⟨bl, m, none⟩ (.int .i64 mx)) (by rw [HNX.out]; exact Ints.upd HLj.out m mx) rfl
                          have h2 := (HOj.out.setCell (p := ⟨bl, m, none⟩) (fun _ => rfl) (.int .i64 mx)).drew
                          clear c1 cz d0 y0 x0 x1 x2 x3 x4 x8 x9 x10 x11 x12 x13 hxj hmx
                          go_wp2_with fail
                          go_roundw
                          case rel => exact ⟨j + 1, by omega, by go_num, Lib.hid h1, Lib.hid h2⟩
                          case measure => simp [intOf]; omega
                        · obtain hjn : j = g.tl i := by omega
                          rw [hjn] at HLj
                          clear hxj hjn hj htl hdvb hms e1 e2 e3 hdeep hq hneg ew5 hpi
                          go_wp2_with fail
                          go_roundw
                          case rel => exact ⟨k + 1, by omega, congrArg (Value.int .i64) HI1.out, by rw [HLN.out]; exact HLj, Lib.hid (fun m hm h0 => if e : m = k then e ▸ HND.out else HK.out m (by omega) h0), Lib.hid hO4⟩
                          case measure => simp [intOf]
                · obtain hkn : k = g.n2 := by omega
                  rw [hkn] at HL HK
                  have hlook : g.LookOk s := HK.out
                  rw [show (g.n2 : Int) - 1 - (k : Int) = -1 by omega]
                  go_wp2_with fail
                  go_ret
                  refine ⟨⟨ret_bool (tf_yes hlook).symm, fun _ => ⟨bd, bl, hbw, hblw, hne, ?_, ?_, HL.out⟩⟩, hok⟩
                  · exact hxk
                  · exact Arr.only HDD.out HO.out hne
end Go.Proofs.YtlmcbhmaccncbaaDoor
