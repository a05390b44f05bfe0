/- place.fits, walked: is the shape one, and great enough? No condition but that the net is valid. -/
import Derived.Test.YtlmcbhmaccncbaaDoorPcB
namespace Go.Proofs.YtlmcbhmaccncbaaDoor
open Go.RowKit

set_option maxRecDepth 100000 in
set_option maxHeartbeats 8000000 in
theorem fits_any (g : Tb) (a : Ta) (s : Nat → Int) (w : World) (hv : g.Valid) :
    Calls Tryd.prog 16 #[.agg #[.int .i64 g.ins, .slice a.A1 g.n1 a.c1, .slice a.A2 g.n2 a.c2, .slice a.A3 g.n3 a.c3, .slice a.A4 g.n4 a.c4], .agg #[.int .i64 (s 0), .int .i64 (s 1), .int .i64 (s 2), .int .i64 (s 3), .int .i64 (s 4)]] w fun e w' => e = .returned (.bool (tf (g.ShapeFor s))) ∧ Below w.heap.size w w' := by
  have hi0 := hv.i0
  clear hv
  go_enter Tryd.func16, Tryd.ntmps16
  go_upto_region 1 with (fail)
  have hb1 : Below w.heap.size w ((w.alloc (.cells #[.int .i64 g.ins, .slice a.A1 g.n1 a.c1, .slice a.A2 g.n2 a.c2, .slice a.A3 g.n3 a.c3, .slice a.A4 g.n4 a.c4] 26)).alloc (.cells #[.int .i64 (s 0), .int .i64 (s 1), .int .i64 (s 2), .int .i64 (s 3), .int .i64 (s 4)] 28)) := ((Below.refl _ _).alloc (Nat.le_refl _) _).alloc (by simp) _
  have hx1 : BoxAt ((w.alloc (.cells #[.int .i64 g.ins, .slice a.A1 g.n1 a.c1, .slice a.A2 g.n2 a.c2, .slice a.A3 g.n3 a.c3, .slice a.A4 g.n4 a.c4] 26)).alloc (.cells #[.int .i64 (s 0), .int .i64 (s 1), .int .i64 (s 2), .int .i64 (s 3), .int .i64 (s 4)] 28)) w.heap.size [.int .i64 g.ins, .slice a.A1 g.n1 a.c1, .slice a.A2 g.n2 a.c2, .slice a.A3 g.n3 a.c3, .slice a.A4 g.n4 a.c4] := (BoxAt.new w [.int .i64 g.ins, .slice a.A1 g.n1 a.c1, .slice a.A2 g.n2 a.c2, .slice a.A3 g.n3 a.c3, .slice a.A4 g.n4 a.c4] 26).keeps (Keeps.alloc _ _)
  have hx2 : BoxAt ((w.alloc (.cells #[.int .i64 g.ins, .slice a.A1 g.n1 a.c1, .slice a.A2 g.n2 a.c2, .slice a.A3 g.n3 a.c3, .slice a.A4 g.n4 a.c4] 26)).alloc (.cells #[.int .i64 (s 0), .int .i64 (s 1), .int .i64 (s 2), .int .i64 (s 3), .int .i64 (s 4)] 28)) (w.heap.size + 1) [.int .i64 (s 0), .int .i64 (s 1), .int .i64 (s 2), .int .i64 (s 3), .int .i64 (s 4)] := by
    have h := BoxAt.new (w.alloc (.cells #[.int .i64 g.ins, .slice a.A1 g.n1 a.c1, .slice a.A2 g.n2 a.c2, .slice a.A3 g.n3 a.c3, .slice a.A4 g.n4 a.c4] 26)) [.int .i64 (s 0), .int .i64 (s 1), .int .i64 (s 2), .int .i64 (s 3), .int .i64 (s 4)] 28
    rwa [show (w.alloc (.cells #[.int .i64 g.ins, .slice a.A1 g.n1 a.c1, .slice a.A2 g.n2 a.c2, .slice a.A3 g.n3 a.c3, .slice a.A4 g.n4 a.c4] 26)).heap.size = w.heap.size + 1 by simp] at h
  generalize (w.alloc (.cells #[.int .i64 g.ins, .slice a.A1 g.n1 a.c1, .slice a.A2 g.n2 a.c2, .slice a.A3 g.n3 a.c3, .slice a.A4 g.n4 a.c4] 26)).alloc (.cells #[.int .i64 (s 0), .int .i64 (s 1), .int .i64 (s 2), .int .i64 (s 3), .int .i64 (s 4)] 28) = w1 at *
  obtain ⟨x0, x1, x2, x3, x4⟩ := hx1.five
  obtain ⟨y0, y1, y2, y3, y4⟩ := hx2.five
  have HB1 := Lib.hid hb1
  clear hx1 hx2 hb1
  by_cases h0 : s 0 ≤ 500
  rotate_left
  · go_wp2_with fail
    go_ret
    exact ⟨ret_bool (tf_no (fun h => by have := h.sh.s0.2; omega)).symm, HB1.out⟩
  by_cases h1 : 0 ≤ s 1
  rotate_left
  · go_wp2_with fail
    go_ret
    exact ⟨ret_bool (tf_no (fun h => by have := h.sh.s1.1; omega)).symm, HB1.out⟩
  by_cases h2 : s 1 ≤ 500
  rotate_left
  · go_wp2_with fail
    go_ret
    exact ⟨ret_bool (tf_no (fun h => by have := h.sh.s1.2; omega)).symm, HB1.out⟩
  by_cases h3 : s 2 ≤ 500
  rotate_left
  · go_wp2_with fail
    go_ret
    exact ⟨ret_bool (tf_no (fun h => by have := h.sh.s2.2; omega)).symm, HB1.out⟩
  by_cases h4 : 1 ≤ s 3
  rotate_left
  · go_wp2_with fail
    go_ret
    exact ⟨ret_bool (tf_no (fun h => by have := h.sh.s3.1; omega)).symm, HB1.out⟩
  by_cases h5 : s 3 ≤ 500
  rotate_left
  · go_wp2_with fail
    go_ret
    exact ⟨ret_bool (tf_no (fun h => by have := h.sh.s3.2; omega)).symm, HB1.out⟩
  by_cases h6 : 1 ≤ s 4
  rotate_left
  · go_wp2_with fail
    go_ret
    exact ⟨ret_bool (tf_no (fun h => by have := h.sh.s4.1; omega)).symm, HB1.out⟩
  by_cases h7 : s 4 ≤ 100
  rotate_left
  · go_wp2_with fail
    go_ret
    exact ⟨ret_bool (tf_no (fun h => by have := h.sh.s4.2; omega)).symm, HB1.out⟩
  by_cases h8 : g.ins ≤ s 0
  rotate_left
  · go_wp2_with fail
    go_ret
    exact ⟨ret_bool (tf_no (fun h => by have := h.i; omega)).symm, HB1.out⟩
  by_cases h9 : (g.n4 : Int) ≤ s 1
  rotate_left
  · go_wp2_with fail
    go_ret
    exact ⟨ret_bool (tf_no (fun h => by have := h.o; omega)).symm, HB1.out⟩
  by_cases h10 : (g.n1 : Int) ≤ s 2
  rotate_left
  · go_wp2_with fail
    go_ret
    exact ⟨ret_bool (tf_no (fun h => by have := h.r; omega)).symm, HB1.out⟩
  have hok : g.ShapeFor s := ⟨⟨⟨by omega, h0⟩, ⟨h1, h2⟩, ⟨by omega, h3⟩, ⟨h4, h5⟩, ⟨h6, h7⟩⟩, h8, h9, h10⟩
  have HOK := Lib.hid hok
  clear hok
  go_wp2_with fail
  go_ret
  exact ⟨ret_bool (tf_yes HOK.out).symm, HB1.out⟩
end Go.Proofs.YtlmcbhmaccncbaaDoor
