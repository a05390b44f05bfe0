/- PlaceFits, its walk: whatever net, shape and trace come in, the law returns true. Conditions: they lie in memory and are within the form's reach. -/
import Derived.Test.YtlmcbhmaccncbaaDoorPcN
namespace Go.Proofs.YtlmcbhmaccncbaaDoor
open Go.RowKit Go.ChangeShapes Go.WideShapes Go.Deep

def shP : Nat → Int
  | 0 => 2
  | 1 => 2
  | 2 => 1
  | 3 => 5
  | _ => 2

set_option maxRecDepth 100000 in
set_option maxHeartbeats 8000000 in
theorem placeFits_any (g : Tb) (a : Ta) (s : Nat → Int) (At : Option Addr) (nt ct : Nat) (TL : Nat → Nat) (T : Nat → Nat → Bool) (w : World) (hg : g.At w a.A1 a.A2 a.A3 a.A4) (hfit : g.Fits)
    (ht : Mat w At nt TL T) (hnt : nt * 24 ≤ 140737488351232) (htl : ∀ i, i < nt → TL i ≤ 140737488351232) (he : ErrT w) :
    Calls Tryd.prog 3 #[.agg #[.int .i64 g.ins, .slice a.A1 g.n1 a.c1, .slice a.A2 g.n2 a.c2, .slice a.A3 g.n3 a.c3, .slice a.A4 g.n4 a.c4], .agg #[.int .i64 (s 0), .int .i64 (s 1), .int .i64 (s 2), .int .i64 (s 3), .int .i64 (s 4)], .slice At nt ct] w fun e w' => e = .returned (.bool true) ∧ Below w.heap.size w w' := by
  have HG := Lib.hid hg; have HFIT := Lib.hid hfit; have HT := Lib.hid ht; have HTL := Lib.hid htl; have HE := Lib.hid he
  clear hg hfit ht htl he
  go_enter Tryd.func3, Tryd.ntmps3
  go_upto_region 1 with (fail)
  have hb1 : Below w.heap.size w ((w.alloc (.cells #[.int .i64 g.ins, .slice a.A1 g.n1 a.c1, .slice a.A2 g.n2 a.c2, .slice a.A3 g.n3 a.c3, .slice a.A4 g.n4 a.c4] 26)).alloc (.cells #[.int .i64 (s 0), .int .i64 (s 1), .int .i64 (s 2), .int .i64 (s 3), .int .i64 (s 4)] 28)) := ((Below.refl _ _).alloc (Nat.le_refl _) _).alloc (by simp) _
  have hx1 : BoxAt ((w.alloc (.cells #[.int .i64 g.ins, .slice a.A1 g.n1 a.c1, .slice a.A2 g.n2 a.c2, .slice a.A3 g.n3 a.c3, .slice a.A4 g.n4 a.c4] 26)).alloc (.cells #[.int .i64 (s 0), .int .i64 (s 1), .int .i64 (s 2), .int .i64 (s 3), .int .i64 (s 4)] 28)) w.heap.size [.int .i64 g.ins, .slice a.A1 g.n1 a.c1, .slice a.A2 g.n2 a.c2, .slice a.A3 g.n3 a.c3, .slice a.A4 g.n4 a.c4] := (BoxAt.new w [.int .i64 g.ins, .slice a.A1 g.n1 a.c1, .slice a.A2 g.n2 a.c2, .slice a.A3 g.n3 a.c3, .slice a.A4 g.n4 a.c4] 26).keeps (Keeps.alloc _ _)
  have hx2 : BoxAt ((w.alloc (.cells #[.int .i64 g.ins, .slice a.A1 g.n1 a.c1, .slice a.A2 g.n2 a.c2, .slice a.A3 g.n3 a.c3, .slice a.A4 g.n4 a.c4] 26)).alloc (.cells #[.int .i64 (s 0), .int .i64 (s 1), .int .i64 (s 2), .int .i64 (s 3), .int .i64 (s 4)] 28)) (w.heap.size + 1) [.int .i64 (s 0), .int .i64 (s 1), .int .i64 (s 2), .int .i64 (s 3), .int .i64 (s 4)] := by
    have h := BoxAt.new (w.alloc (.cells #[.int .i64 g.ins, .slice a.A1 g.n1 a.c1, .slice a.A2 g.n2 a.c2, .slice a.A3 g.n3 a.c3, .slice a.A4 g.n4 a.c4] 26)) [.int .i64 (s 0), .int .i64 (s 1), .int .i64 (s 2), .int .i64 (s 3), .int .i64 (s 4)] 28
    rwa [show (w.alloc (.cells #[.int .i64 g.ins, .slice a.A1 g.n1 a.c1, .slice a.A2 g.n2 a.c2, .slice a.A3 g.n3 a.c3, .slice a.A4 g.n4 a.c4] 26)).heap.size = w.heap.size + 1 by simp] at h
  generalize (w.alloc (.cells #[.int .i64 g.ins, .slice a.A1 g.n1 a.c1, .slice a.A2 g.n2 a.c2, .slice a.A3 g.n3 a.c3, .slice a.A4 g.n4 a.c4] 26)).alloc (.cells #[.int .i64 (s 0), .int .i64 (s 1), .int .i64 (s 2), .int .i64 (s 3), .int .i64 (s 4)] 28) = w1 at *
  have HB := Lib.hid hb1; have HX := Lib.hid hx1; have HY := Lib.hid hx2
  clear hb1 hx1 hx2
  go_wp2_with fail
  refine (pair_any w1).mono ?_
  rintro e w2 ⟨a1, a2, a3, a4, d1, d2, d3, d4, rfl, ht1, hb2⟩
  have HX := Lib.hid (HX.out.keeps (Keeps.of_below hb2)); have HY := Lib.hid (HY.out.keeps (Keeps.of_below hb2))
  have HB := Lib.hid (HB.out.trans (hb2.mono HB.out.size))
  have HT1 := Lib.hid ht1
  clear hb2 ht1
  go_wp2_with fail
  have hk3 : Below w2.heap.size w2 (((w2.alloc (.cells #[.bool true, .bool true] 4)).alloc (.cells #[.bool false] 4)).alloc (.cells #[.slice (some ⟨w2.heap.size, 0, none⟩) 2 2, .slice (some ⟨w2.heap.size + 1, 0, none⟩) 1 1] 22)) :=
    (((Below.refl _ _).alloc (Nat.le_refl _) _).alloc (by simp) _).alloc (by simp; omega) _
  have HX := Lib.hid (HX.out.keeps (Keeps.of_below hk3)); have HY := Lib.hid (HY.out.keeps (Keeps.of_below hk3))
  have HB := Lib.hid (HB.out.trans (hk3.mono HB.out.size))
  have HL := Lib.hid (lit_mat w2)
  have HT1 := Lib.hid (HT1.out.keeps (Keeps.of_below hk3))
  clear hk3
  refine (placed_any pairT ⟨a1, a2, a3, a4, d1, d2, d3, d4⟩ shP _ 2 _ (at3 2 1 1) (fun i _ => at3 true false false i) _ HT1.out pair_fits HL.out (by omega) (fun i hi => by obtain rfl | rfl : i = 0 ∨ i = 1 := (by omega) <;> decide) (HE.out.keeps (Keeps.of_below HB.out))).mono ?_
  rintro e w3 ⟨rfl, hb3⟩
  have HX := Lib.hid (HX.out.keeps (Keeps.of_below hb3)); have HY := Lib.hid (HY.out.keeps (Keeps.of_below hb3))
  have HB := Lib.hid (HB.out.trans (hb3.mono HB.out.size))
  clear hb3 HL HT1
  obtain ⟨x0, x1, x2, x3, x4⟩ := HX.out.five
  obtain ⟨y0, y1, y2, y3, y4⟩ := HY.out.five
  go_wp2_with fail
  refine (placed_any g a s At nt ct TL T w3 (HG.out.keeps (Keeps.of_below HB.out)) HFIT.out (HT.out.keeps (Keeps.of_below HB.out)) hnt HTL.out (HE.out.keeps (Keeps.of_below HB.out))).mono ?_
  rintro e w4 ⟨rfl, hb4⟩
  have HB := Lib.hid (HB.out.trans (hb4.mono HB.out.size))
  clear hb4 x0 x1 x2 x3 x4 y0 y1 y2 y3 y4
  go_wp2_with fail
  go_ret
  exact ⟨rfl, HB.out⟩
theorem placeFits_walk (g : Tb) (A1 A2 A3 A4 : Option Addr) (c1 c2 c3 c4 : Nat) (s : Nat → Int) (At : Option Addr) (nt ct : Nat) (TL : Nat → Nat) (T : Nat → Nat → Bool) (w : World) (hg : g.At w A1 A2 A3 A4) (hfit : g.Fits)
    (ht : Mat w At nt TL T) (hnt : nt * 24 ≤ 140737488351232) (htl : ∀ i, i < nt → TL i ≤ 140737488351232) (he : ErrT w) :
    Calls Tryd.prog 3 #[.agg #[.int .i64 g.ins, .slice A1 g.n1 c1, .slice A2 g.n2 c2, .slice A3 g.n3 c3, .slice A4 g.n4 c4], .agg #[.int .i64 (s 0), .int .i64 (s 1), .int .i64 (s 2), .int .i64 (s 3), .int .i64 (s 4)], .slice At nt ct] w fun e w' => e = .returned (.bool true) ∧ Below w.heap.size w w' :=
  placeFits_any g ⟨A1, A2, A3, A4, c1, c2, c3, c4⟩ s At nt ct TL T w hg hfit ht hnt htl he
theorem open_shape {N : Nat} {H : Type} {enc : TypeId × Value → H} {w : World} {cs : List Value} (h : Good N enc Tryd.prog w 28 cs) :
    ∃ s : Nat → Int, cs = [.int .i64 (s 0), .int .i64 (s 1), .int .i64 (s 2), .int .i64 (s 3), .int .i64 (s 4)] := by
  obtain ⟨v0, v1, v2, v3, v4, rfl⟩ := list5 (good_len Tryd.underlying28 h Tryd.cellsShape)
  obtain ⟨x0, e0, _⟩ := good_int Tryd.underlying3 (good_field Tryd.underlying28 h 0 _ 1 0 rfl Tryd.cellsInt)
  obtain ⟨x1, e1, _⟩ := good_int Tryd.underlying3 (good_field Tryd.underlying28 h 1 _ 1 1 rfl Tryd.cellsInt)
  obtain ⟨x2, e2, _⟩ := good_int Tryd.underlying3 (good_field Tryd.underlying28 h 2 _ 1 2 rfl Tryd.cellsInt)
  obtain ⟨x3, e3, _⟩ := good_int Tryd.underlying3 (good_field Tryd.underlying28 h 3 _ 1 3 rfl Tryd.cellsInt)
  obtain ⟨x4, e4, _⟩ := good_int Tryd.underlying3 (good_field Tryd.underlying28 h 4 _ 1 4 rfl Tryd.cellsInt)
  simp at e0 e1 e2 e3 e4
  subst e0; subst e1; subst e2; subst e3; subst e4
  exact ⟨fun j => match j with | 0 => x0 | 1 => x1 | 2 => x2 | 3 => x3 | _ => x4, rfl⟩
end Go.Proofs.YtlmcbhmaccncbaaDoor
