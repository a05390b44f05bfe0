/- The reference's Fits, walked: must the tables fit? Condition: the net is valid and lies in memory. -/
import Derived.Test.YtlmcbhmaccncbaaDoorPcG
import Derived.Test.YtlmcbhmaccncbaaDoorCfV
namespace Go.Proofs.YtlmcbhmaccncbaaDoor
open Go.RowKit

set_option maxRecDepth 100000 in
set_option maxHeartbeats 8000000 in
theorem refFits_any (g : Tb) (a : Ta) (s : Nat → Int) (w : World) (hg : g.At w a.A1 a.A2 a.A3 a.A4) (hfit : g.Fits) (hv : g.Valid) :
    Calls Tryd.prog 9 #[.agg #[.int .i64 g.ins, .slice a.A1 g.n1 a.c1, .slice a.A2 g.n2 a.c2, .slice a.A3 g.n3 a.c3, .slice a.A4 g.n4 a.c4], .agg #[.int .i64 (s 0), .int .i64 (s 1), .int .i64 (s 2), .int .i64 (s 3), .int .i64 (s 4)]] w fun e w' => e = .returned (.bool (tf (g.Must s))) ∧ Below w.heap.size w w' := by
  have HG := Lib.hid hg; have HV := Lib.hid hv; have HFIT := Lib.hid hfit
  have hi0 := hv.i0; have hi1 := hv.i1
  have f2 := hfit.b2; have f1 := hfit.b1
  clear hg hv hfit
  go_enter Tryd.func9, Tryd.ntmps9
  go_upto_region 1 with (fail)
  have hb1 : Below w.heap.size w ((w.alloc (.cells #[.int .i64 g.ins, .slice a.A1 g.n1 a.c1, .slice a.A2 g.n2 a.c2, .slice a.A3 g.n3 a.c3, .slice a.A4 g.n4 a.c4] 26)).alloc (.cells #[.int .i64 (s 0), .int .i64 (s 1), .int .i64 (s 2), .int .i64 (s 3), .int .i64 (s 4)] 28)) := ((Below.refl _ _).alloc (Nat.le_refl _) _).alloc (by simp) _
  have hx1 : BoxAt ((w.alloc (.cells #[.int .i64 g.ins, .slice a.A1 g.n1 a.c1, .slice a.A2 g.n2 a.c2, .slice a.A3 g.n3 a.c3, .slice a.A4 g.n4 a.c4] 26)).alloc (.cells #[.int .i64 (s 0), .int .i64 (s 1), .int .i64 (s 2), .int .i64 (s 3), .int .i64 (s 4)] 28)) w.heap.size [.int .i64 g.ins, .slice a.A1 g.n1 a.c1, .slice a.A2 g.n2 a.c2, .slice a.A3 g.n3 a.c3, .slice a.A4 g.n4 a.c4] := (BoxAt.new w [.int .i64 g.ins, .slice a.A1 g.n1 a.c1, .slice a.A2 g.n2 a.c2, .slice a.A3 g.n3 a.c3, .slice a.A4 g.n4 a.c4] 26).keeps (Keeps.alloc _ _)
  have hx2 : BoxAt ((w.alloc (.cells #[.int .i64 g.ins, .slice a.A1 g.n1 a.c1, .slice a.A2 g.n2 a.c2, .slice a.A3 g.n3 a.c3, .slice a.A4 g.n4 a.c4] 26)).alloc (.cells #[.int .i64 (s 0), .int .i64 (s 1), .int .i64 (s 2), .int .i64 (s 3), .int .i64 (s 4)] 28)) (w.heap.size + 1) [.int .i64 (s 0), .int .i64 (s 1), .int .i64 (s 2), .int .i64 (s 3), .int .i64 (s 4)] := by
    have h := BoxAt.new (w.alloc (.cells #[.int .i64 g.ins, .slice a.A1 g.n1 a.c1, .slice a.A2 g.n2 a.c2, .slice a.A3 g.n3 a.c3, .slice a.A4 g.n4 a.c4] 26)) [.int .i64 (s 0), .int .i64 (s 1), .int .i64 (s 2), .int .i64 (s 3), .int .i64 (s 4)] 28
    rwa [show (w.alloc (.cells #[.int .i64 g.ins, .slice a.A1 g.n1 a.c1, .slice a.A2 g.n2 a.c2, .slice a.A3 g.n3 a.c3, .slice a.A4 g.n4 a.c4] 26)).heap.size = w.heap.size + 1 by simp] at h
  generalize (w.alloc (.cells #[.int .i64 g.ins, .slice a.A1 g.n1 a.c1, .slice a.A2 g.n2 a.c2, .slice a.A3 g.n3 a.c3, .slice a.A4 g.n4 a.c4] 26)).alloc (.cells #[.int .i64 (s 0), .int .i64 (s 1), .int .i64 (s 2), .int .i64 (s 3), .int .i64 (s 4)] 28) = w1 at *
  obtain ⟨y0, y1, y2, y3, y4⟩ := hx2.five
  have HB1 := Lib.hid hb1; have HX1 := Lib.hid hx1; have HX2 := Lib.hid hx2
  clear hb1 hx1 hx2
  go_wp2_with fail
  refine (refShape_any s w1).mono ?_
  rintro e w2 ⟨rfl, hb2⟩
  have HB2 := Lib.hid (HB1.out.trans (hb2.mono HB1.out.size))
  have HX1 := Lib.hid (HX1.out.keeps (Keeps.of_below hb2)); have HX2 := Lib.hid (HX2.out.keeps (Keeps.of_below hb2))
  clear hb2 y0 y1 y2 y3 y4
  obtain ⟨x0, x1, x2, x3, x4⟩ := HX1.out.five
  obtain ⟨q, hq⟩ : ∃ q, q = tf (ShOk s) := ⟨_, rfl⟩
  rw [← hq]
  have HQ := Lib.hid hq
  clear hq
  go_wp2_with fail
  refine (depRef_any g a.A1 a.A2 a.A3 a.A4 a.c1 a.c2 a.c3 a.c4 w2 (HG.out.keeps (Keeps.of_below HB2.out)) HFIT.out HV.out).mono ?_
  rintro e w3 ⟨rfl, hb3⟩
  have HB3 := Lib.hid (HB2.out.trans (hb3.mono HB2.out.size))
  have HX1 := Lib.hid (HX1.out.keeps (Keeps.of_below hb3)); have HX2 := Lib.hid (HX2.out.keeps (Keeps.of_below hb3))
  clear hb3 x0 x1 x2 x3 x4
  go_wp2_with fail
  refine (most_any g.depth 1 w3).mono ?_
  rintro e w4 ⟨rfl, rfl⟩
  obtain ⟨d, hd⟩ : ∃ d, d = max g.depth 1 := ⟨_, rfl⟩
  rw [← hd]
  have HD := Lib.hid hd
  clear hd
  obtain ⟨x0, x1, x2, x3, x4⟩ := HX1.out.five
  obtain ⟨y0, y1, y2, y3, y4⟩ := HX2.out.five
  have ew1 : IntKind.i64.wrap (g.ins + (g.n1 : Int)) = g.ins + (g.n1 : Int) := by rw [IntKind.wrap_i64]; omega
  have ew2 : IntKind.i64.wrap (g.ins + (g.n1 : Int) + (g.n2 : Int)) = g.ins + (g.n1 : Int) + (g.n2 : Int) := by rw [IntKind.wrap_i64]; omega
  by_cases hsh : ShOk s
  rotate_left
  · have e : q = false := by rw [HQ.out]; exact tf_no hsh
    subst e
    go_wp2_with fail
    go_ret
    exact ⟨ret_bool (tf_no (fun h => hsh h.sh.sh)).symm, HB3.out⟩
  have e : q = true := by rw [HQ.out]; exact tf_yes hsh
  subst e
  have HSH := Lib.hid hsh
  clear hsh
  by_cases h0 : g.ins ≤ s 0
  rotate_left
  · go_wp2_with fail
    go_ret
    exact ⟨ret_bool (tf_no (fun h => by have h2 := h.sh.i; have := HD.out; omega)).symm, HB3.out⟩
  by_cases h1 : (g.n4 : Int) ≤ s 1
  rotate_left
  · go_wp2_with fail
    go_ret
    exact ⟨ret_bool (tf_no (fun h => by have h2 := h.sh.o; have := HD.out; omega)).symm, HB3.out⟩
  by_cases h2 : (g.n1 : Int) ≤ s 2
  rotate_left
  · go_wp2_with fail
    go_ret
    exact ⟨ret_bool (tf_no (fun h => by have h2 := h.sh.r; have := HD.out; omega)).symm, HB3.out⟩
  by_cases h3 : d ≤ s 4
  rotate_left
  · go_wp2_with fail
    go_ret
    exact ⟨ret_bool (tf_no (fun h => by have h2 := h.cols; have := HD.out; omega)).symm, HB3.out⟩
  by_cases h4 : g.ins + g.n1 + g.n2 ≤ s 3
  rotate_left
  · go_wp2_with fail
    go_ret
    exact ⟨ret_bool (by rw [decide_eq_false (show ¬ (g.ins + (g.n1 : Int) + (g.n2 : Int) ≤ s 3) by omega)]; exact (tf_no (fun h : g.Must s => by have h2 := h.rows; omega)).symm), HB3.out⟩
  have hok : g.Must s := ⟨⟨HSH.out, h0, h1, h2⟩, by rw [← HD.out]; exact h3, h4⟩
  have HOK := Lib.hid hok
  clear hok
  go_wp2_with fail
  go_ret
  exact ⟨ret_bool (tf_yes HOK.out).symm, HB3.out⟩
end Go.Proofs.YtlmcbhmaccncbaaDoor
