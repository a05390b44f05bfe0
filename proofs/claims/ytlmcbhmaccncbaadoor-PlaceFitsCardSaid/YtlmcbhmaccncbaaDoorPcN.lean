/- The law's placed and PlaceFits, walked: whatever net, shape and trace come in, the law returns true. Conditions: they lie in memory and are within the form's reach. -/
import Derived.Test.YtlmcbhmaccncbaaDoorPcF
import Derived.Test.YtlmcbhmaccncbaaDoorPcI
import Derived.Test.YtlmcbhmaccncbaaDoorPcJ
import Derived.Test.YtlmcbhmaccncbaaDoorPairD
import Derived.Test.YtlmcbhmaccncbaaDoorCrR
import Derived.Test.YtlmcbhmaccncbaaDoorCfR
import Derived.Test.YtlmcbhmaccncbaaDoorErB
namespace Go.Proofs.YtlmcbhmaccncbaaDoor
open Go.RowKit

def Cf.lay (c : Cf) (AC AR AO : Option Addr) (cC cR cO : Nat) (CA : Nat → Option Addr) (cc : Nat → Nat) : Cf := { c with AC := AC, AR := AR, AO := AO, cC := cC, cR := cR, cO := cO, CA := CA, cc := cc }
section
variable {c : Cf} {AC AR AO : Option Addr} {cC cR cO : Nat} {CA : Nat → Option Addr} {cc : Nat → Nat}
theorem lay_sig (inp st : Nat → Bool) : ∀ i s, (c.lay AC AR AO cC cR cO CA cc).sig inp st i s = c.sig inp st i s
  | 0, _ => rfl
  | i + 1, s => by
    show (if s = 0 then false else if s = 1 then true else bitAt (c.B i (s - 2)) (rowB (fun j => (c.lay AC AR AO cC cR cO CA cc).sig inp st i (c.L i (s - 2) j).toNat) 4)) = _
    simp only [lay_sig inp st i]
    rfl
theorem lay_stt (I : Nat → Nat → Bool) : ∀ t k, (c.lay AC AR AO cC cR cO CA cc).stt I t k = c.stt I t k
  | 0, _ => rfl
  | t + 1, k => by
    show (c.lay AC AR AO cC cR cO CA cc).sig (I t) ((c.lay AC AR AO cC cR cO CA cc).stt I t) c.nc (c.RS k).toNat = c.sig (I t) (c.stt I t) c.nc (c.RS k).toNat
    rw [lay_sig, show (c.lay AC AR AO cC cR cO CA cc).stt I t = c.stt I t from funext (lay_stt I t)]
theorem lay_sho (I : Nat → Nat → Bool) : (c.lay AC AR AO cC cR cO CA cc).sho I = c.sho I := by
  funext t o
  show (c.lay AC AR AO cC cR cO CA cc).sig (I t) ((c.lay AC AR AO cC cR cO CA cc).stt I t) c.nc (c.O o).toNat = c.sig (I t) (c.stt I t) c.nc (c.O o).toNat
  rw [lay_sig, show (c.lay AC AR AO cC cR cO CA cc).stt I t = c.stt I t from funext (lay_stt I t)]
theorem lay_ok (h : c.Ok) : (c.lay AC AR AO cC cR cO CA cc).Ok := ⟨⟨h.d.sh, h.d.nc, h.d.nr, h.d.no, h.d.rows⟩, h.b, h.l, h.r, h.o⟩
end
theorem ok_fits {c : Cf} (h : c.Ok) : c.Fits := by
  have h0 := h.d.sh.s0; have h1 := h.d.sh.s1; have h2 := h.d.sh.s2; have h3 := h.d.sh.s3; have h4 := h.d.sh.s4
  have e1 := h.d.nc; have e2 := h.d.nr; have e3 := h.d.no
  refine ⟨by omega, fun i hi => by have := h.d.rows i hi; omega, by omega, by omega, fun i hi => ?_⟩
  obtain rfl | rfl | rfl | rfl | rfl : i = 0 ∨ i = 1 ∨ i = 2 ∨ i = 3 ∨ i = 4 := by omega
  all_goals omega
/-- both show the same -/
theorem same_rows {g : Tb} {s : Nat → Int} (hv : g.Valid) (h : g.FitOk s) {I : Nat} (hI : g.ins = I) (nt : Nat) (TL : Nat → Nat) (T : Nat → Nat → Bool) :
    MatEq nt nt (fun _ => g.n4) (fun _ => g.n4) (fun t => cutRow (s 1).toNat ((g.place s).sho (inpAt (fun _ => I) (fun t => cutRow (TL t) (T t) 0)) t) 0) (g.row (cut TL T)) := by
  refine ⟨rfl, fun t _ => ⟨rfl, fun o ho => ?_⟩⟩
  have ho : o < g.n4 := ho
  have h1 := h.sh.o
  show (decide (0 + o < (s 1).toNat) && (g.place s).sho (inpAt (fun _ => I) (fun t => cutRow (TL t) (T t) 0)) t (0 + o)) = _
  rw [Nat.zero_add, decide_eq_true (show o < (s 1).toNat by omega), Bool.true_and]
  refine sho_place hv h (I := (inpAt (fun _ => I) (fun t => cutRow (TL t) (T t) 0))) (T := cut TL T) (fun t i hi => ?_) t o ho
  have hi' : i < I := by omega
  show (if i < I then (decide (0 + i < TL t) && T t (0 + i)) else false) = (decide (i < TL t) && T t i)
  rw [if_pos hi', Nat.zero_add]

set_option maxRecDepth 100000 in
set_option maxHeartbeats 8000000 in
theorem placed_any (g : Tb) (a : Ta) (s : Nat → Int) (At : Option Addr) (nt ct : Nat) (TL : Nat → Nat) (T : Nat → Nat → Bool) (w : World) (hg : g.At w a.A1 a.A2 a.A3 a.A4) (hfit : g.Fits)
    (ht : Mat w At nt TL T) (hnt : nt * 24 ≤ 140737488351232) (htl : ∀ i, i < nt → TL i ≤ 140737488351232) (he : ErrT w) :
    Calls Tryd.prog 4 #[.agg #[.int .i64 g.ins, .slice a.A1 g.n1 a.c1, .slice a.A2 g.n2 a.c2, .slice a.A3 g.n3 a.c3, .slice a.A4 g.n4 a.c4], .agg #[.int .i64 (s 0), .int .i64 (s 1), .int .i64 (s 2), .int .i64 (s 3), .int .i64 (s 4)], .slice At nt ct] w fun e w' => e = .returned (.bool true) ∧ Below w.heap.size w w' := by
  have HG := Lib.hid hg; have HFIT := Lib.hid hfit; have HT := Lib.hid ht; have HTL := Lib.hid htl; have HE := Lib.hid he
  clear hg hfit ht htl he
  go_enter Tryd.func4, Tryd.ntmps4
  go_upto_region 1 with (fail)
  have hb1 : Below w.heap.size w ((w.alloc (.cells #[.int .i64 g.ins, .slice a.A1 g.n1 a.c1, .slice a.A2 g.n2 a.c2, .slice a.A3 g.n3 a.c3, .slice a.A4 g.n4 a.c4] 26)).alloc (.cells #[.int .i64 (s 0), .int .i64 (s 1), .int .i64 (s 2), .int .i64 (s 3), .int .i64 (s 4)] 28)) := ((Below.refl _ _).alloc (Nat.le_refl _) _).alloc (by simp) _
  have hx1 : BoxAt ((w.alloc (.cells #[.int .i64 g.ins, .slice a.A1 g.n1 a.c1, .slice a.A2 g.n2 a.c2, .slice a.A3 g.n3 a.c3, .slice a.A4 g.n4 a.c4] 26)).alloc (.cells #[.int .i64 (s 0), .int .i64 (s 1), .int .i64 (s 2), .int .i64 (s 3), .int .i64 (s 4)] 28)) w.heap.size [.int .i64 g.ins, .slice a.A1 g.n1 a.c1, .slice a.A2 g.n2 a.c2, .slice a.A3 g.n3 a.c3, .slice a.A4 g.n4 a.c4] := (BoxAt.new w [.int .i64 g.ins, .slice a.A1 g.n1 a.c1, .slice a.A2 g.n2 a.c2, .slice a.A3 g.n3 a.c3, .slice a.A4 g.n4 a.c4] 26).keeps (Keeps.alloc _ _)
  have hx2 : BoxAt ((w.alloc (.cells #[.int .i64 g.ins, .slice a.A1 g.n1 a.c1, .slice a.A2 g.n2 a.c2, .slice a.A3 g.n3 a.c3, .slice a.A4 g.n4 a.c4] 26)).alloc (.cells #[.int .i64 (s 0), .int .i64 (s 1), .int .i64 (s 2), .int .i64 (s 3), .int .i64 (s 4)] 28)) (w.heap.size + 1) [.int .i64 (s 0), .int .i64 (s 1), .int .i64 (s 2), .int .i64 (s 3), .int .i64 (s 4)] := by
    have h := BoxAt.new (w.alloc (.cells #[.int .i64 g.ins, .slice a.A1 g.n1 a.c1, .slice a.A2 g.n2 a.c2, .slice a.A3 g.n3 a.c3, .slice a.A4 g.n4 a.c4] 26)) [.int .i64 (s 0), .int .i64 (s 1), .int .i64 (s 2), .int .i64 (s 3), .int .i64 (s 4)] 28
    rwa [show (w.alloc (.cells #[.int .i64 g.ins, .slice a.A1 g.n1 a.c1, .slice a.A2 g.n2 a.c2, .slice a.A3 g.n3 a.c3, .slice a.A4 g.n4 a.c4] 26)).heap.size = w.heap.size + 1 by simp] at h
  generalize (w.alloc (.cells #[.int .i64 g.ins, .slice a.A1 g.n1 a.c1, .slice a.A2 g.n2 a.c2, .slice a.A3 g.n3 a.c3, .slice a.A4 g.n4 a.c4] 26)).alloc (.cells #[.int .i64 (s 0), .int .i64 (s 1), .int .i64 (s 2), .int .i64 (s 3), .int .i64 (s 4)] 28) = w1 at *
  obtain ⟨x0, x1, x2, x3, x4⟩ := hx1.five
  have HB := Lib.hid hb1; have HX := Lib.hid hx1; have HY := Lib.hid hx2
  clear hb1 hx1 hx2
  go_wp2_with fail
  refine (tabRef_any g a.A1 a.A2 a.A3 a.A4 a.c1 a.c2 a.c3 a.c4 w1 (HG.out.keeps (Keeps.of_below HB.out)) HFIT.out).mono ?_
  rintro e w2 ⟨rfl, hb2⟩
  have HX := Lib.hid (HX.out.keeps (Keeps.of_below hb2)); have HY := Lib.hid (HY.out.keeps (Keeps.of_below hb2))
  have HB := Lib.hid (HB.out.trans (hb2.mono HB.out.size))
  clear hb2 x0 x1 x2 x3 x4
  by_cases hv : g.Valid
  rotate_left
  · rw [tf_no hv]
    go_wp2_with fail
    go_ret
    exact ⟨rfl, HB.out⟩
  rw [tf_yes hv]
  have HV := Lib.hid hv
  clear hv
  obtain ⟨x0, x1, x2, x3, x4⟩ := HX.out.five
  obtain ⟨y0, y1, y2, y3, y4⟩ := HY.out.five
  go_wp2_with fail
  refine (fit_any g a s w2 (HG.out.keeps (Keeps.of_below HB.out)) HV.out HFIT.out).mono ?_
  rintro e w3 ⟨⟨hok, AC, AR, AO, cC, cR, cO, CA, cc, hat, rfl⟩ | ⟨hno, bF, rfl, hf0, hf1⟩, hb3⟩
  · have HX := Lib.hid (HX.out.keeps (Keeps.of_below hb3)); have HY := Lib.hid (HY.out.keeps (Keeps.of_below hb3))
    have HB := Lib.hid (HB.out.trans (hb3.mono HB.out.size))
    have hat : ((g.place s).lay AC AR AO cC cR cO CA cc).At w3 := hat
    have HAT := Lib.hid hat; have HOK := Lib.hid hok
    have hcok : ((g.place s).lay AC AR AO cC cR cO CA cc).Ok := lay_ok (place_ok HV.out hok)
    have HCOK := Lib.hid hcok
    have h0 := hok.sh.sh.s0; have h1 := hok.sh.sh.s1; have h2 := hok.sh.sh.s2; have h3 := hok.sh.sh.s3; have h4 := hok.sh.sh.s4
    have h5 := hok.sh.i; have h6 := hok.sh.o; have h7 := hok.sh.r
    clear hb3 hat hok hcok x0 x1 x2 x3 x4 y0 y1 y2 y3 y4
    go_wp2_with fail
    have hba : Below w3.heap.size w3 (w3.alloc (.cells #[.int .i64 (s 0), .int .i64 (s 1), .int .i64 (s 2), .int .i64 (s 3), .int .i64 (s 4), .slice AC (s 4).toNat cC, .slice AR (s 2).toNat cR, .slice AO (s 1).toNat cO] 36)) := (Below.refl _ _).alloc (Nat.le_refl _) _
    have hza : (w3.alloc (.cells #[.int .i64 (s 0), .int .i64 (s 1), .int .i64 (s 2), .int .i64 (s 3), .int .i64 (s 4), .slice AC (s 4).toNat cC, .slice AR (s 2).toNat cR, .slice AO (s 1).toNat cO] 36)).heap[w3.heap.size]? = some (.cells #[.int .i64 (s 0), .int .i64 (s 1), .int .i64 (s 2), .int .i64 (s 3), .int .i64 (s 4), .slice AC (s 4).toNat cC, .slice AR (s 2).toNat cR, .slice AO (s 1).toNat cO] 36) := heap_alloc_new w3 _
    have HZ : Hid (BoxAt (w3.alloc (.cells #[.int .i64 (s 0), .int .i64 (s 1), .int .i64 (s 2), .int .i64 (s 3), .int .i64 (s 4), .slice AC (s 4).toNat cC, .slice AR (s 2).toNat cR, .slice AO (s 1).toNat cO] 36)) w3.heap.size [.int .i64 (s 0), .int .i64 (s 1), .int .i64 (s 2), .int .i64 (s 3), .int .i64 (s 4), .slice AC (s 4).toNat cC, .slice AR (s 2).toNat cR, .slice AO (s 1).toNat cO]) := Lib.hid (BoxAt.new w3 [.int .i64 (s 0), .int .i64 (s 1), .int .i64 (s 2), .int .i64 (s 3), .int .i64 (s 4), .slice AC (s 4).toNat cC, .slice AR (s 2).toNat cR, .slice AO (s 1).toNat cO] 36)
    have HX := Lib.hid (HX.out.keeps (Keeps.of_below hba)); have HY := Lib.hid (HY.out.keeps (Keeps.of_below hba))
    have HB := Lib.hid (HB.out.trans (hba.mono HB.out.size))
    have HAT := Lib.hid (HAT.out.keeps (Keeps.of_below hba))
    clear hba hza
    generalize w3.alloc (.cells #[.int .i64 (s 0), .int .i64 (s 1), .int .i64 (s 2), .int .i64 (s 3), .int .i64 (s 4), .slice AC (s 4).toNat cC, .slice AR (s 2).toNat cR, .slice AO (s 1).toNat cO] 36) = w4 at *
    refine (code_nil w4).mono ?_
    rintro e w5 ⟨rfl, hw5⟩
    subst hw5
    obtain ⟨x0, x1, x2, x3, x4⟩ := HX.out.five
    obtain ⟨y0, y1, y2, y3, y4⟩ := HY.out.five
    go_wp2_with fail
    refine (refFits_any g a s w5 (HG.out.keeps (Keeps.of_below HB.out)) HFIT.out HV.out).mono ?_
    rintro e w6 ⟨rfl, hb6⟩
    obtain ⟨q, hq⟩ : ∃ q, q = tf (g.Must s) := ⟨_, rfl⟩
    rw [← hq]
    clear hq
    have HX := Lib.hid (HX.out.keeps (Keeps.of_below hb6)); have HY := Lib.hid (HY.out.keeps (Keeps.of_below hb6)); have HZ := Lib.hid (HZ.out.keeps (Keeps.of_below hb6))
    have HB := Lib.hid (HB.out.trans (hb6.mono HB.out.size))
    have HAT := Lib.hid (HAT.out.keeps (Keeps.of_below hb6))
    clear hb6 x0 x1 x2 x3 x4 y0 y1 y2 y3 y4
    have z0 := HZ.out 0 _ rfl; have z1 := HZ.out 1 _ rfl; have z2 := HZ.out 2 _ rfl; have z3 := HZ.out 3 _ rfl; have z4 := HZ.out 4 _ rfl; have z5 := HZ.out 5 _ rfl; have z6 := HZ.out 6 _ rfl; have z7 := HZ.out 7 _ rfl
    go_wp2_with fail
    refine (refConfig_any ((g.place s).lay AC AR AO cC cR cO CA cc) AC AR AO w6 HAT.out (ok_fits HCOK.out) rfl rfl rfl).mono ?_
    rintro e w7 ⟨rfl, hb7⟩
    rw [tf_yes HCOK.out]
    have HX := Lib.hid (HX.out.keeps (Keeps.of_below hb7)); have HY := Lib.hid (HY.out.keeps (Keeps.of_below hb7)); have HZ := Lib.hid (HZ.out.keeps (Keeps.of_below hb7))
    have HB := Lib.hid (HB.out.trans (hb7.mono HB.out.size))
    have HAT := Lib.hid (HAT.out.keeps (Keeps.of_below hb7))
    clear hb7 z0 z1 z2 z3 z4 z5 z6 z7
    have z0 := HZ.out 0 _ rfl; have z1 := HZ.out 1 _ rfl; have z2 := HZ.out 2 _ rfl; have z3 := HZ.out 3 _ rfl; have z4 := HZ.out 4 _ rfl; have z5 := HZ.out 5 _ rfl; have z6 := HZ.out 6 _ rfl; have z7 := HZ.out 7 _ rfl
    obtain ⟨x0, x1, x2, x3, x4⟩ := HX.out.five
    obtain ⟨y0, y1, y2, y3, y4⟩ := HY.out.five
    go_upto_region 12 with (fail)
    obtain ⟨I, hI⟩ : ∃ I : Nat, g.ins = I := ⟨g.ins.toNat, by have := HV.out.i0; omega⟩
    have hIb : I ≤ 500 := by omega
    have hnb : g.n4 ≤ 500 := by omega
    have HI := Lib.hid hI
    rw [hI] at x0
    clear hI x1 x2 x3 y0 y1 y2 y3 y4
    refine wp_region_z (fun w' => w'.cell? ⟨w.heap.size, 0, none⟩ = some (.int .i64 (I : Nat)) ∧ w'.cell? ⟨w.heap.size, 4, none⟩ = some (.slice a.A4 g.n4 a.c4) ∧ w'.cell? ⟨w3.heap.size, 0, none⟩ = some (.int .i64 (s 0)) ∧ w'.cell? ⟨w3.heap.size, 1, none⟩ = some (.int .i64 (s 1)) ∧ w'.cell? ⟨w3.heap.size, 2, none⟩ = some (.int .i64 (s 2)) ∧ w'.cell? ⟨w3.heap.size, 3, none⟩ = some (.int .i64 (s 3)) ∧ w'.cell? ⟨w3.heap.size, 4, none⟩ = some (.int .i64 (s 4)) ∧ w'.cell? ⟨w3.heap.size, 5, none⟩ = some (.slice AC (s 4).toNat cC) ∧ w'.cell? ⟨w3.heap.size, 6, none⟩ = some (.slice AR (s 2).toNat cR) ∧ w'.cell? ⟨w3.heap.size, 7, none⟩ = some (.slice AO (s 1).toNat cO)) [0, 1, 2, 3, 6, 7, 8] [] (by kernel_rfl) (by kernel_rfl) (by kernel_rfl) (by rfl) (fun _ _ _ _ e h => ⟨e.symm.trans h.1, h.2⟩) ⟨x0, x4, z0, z1, z2, z3, z4, z5, z6, z7⟩ ?_
    iterate 7
      refine Heads.step (v := ?_) rfl (by first | (go_simp; done) | rfl) (fun W hW => ?_) ?_
      rotate_left
      · (obtain ⟨t0, t1, t2, t3, t4, t5, t6, t7, t8, t9⟩ := hW; go_simp; try with_reducible rfl)
    refine AnyZ.one (i := 4) (by kernel_rfl) rfl (fun K hK => ?_)
    go_simp
    refine (heads_any At nt ct I TL T w7.drew (HT.out.keeps (Keeps.of_below HB.out.drew)) (by omega) (by omega)).mono ?_
    rintro e w8 ⟨B8, c8, RA8, RC8, rfl, hm8, hb8⟩
    have hb8 : Below w7.heap.size w7 w8 := (Below.refl _ w7).drew.trans hb8
    have HX := Lib.hid (HX.out.keeps (Keeps.of_below hb8)); have HY := Lib.hid (HY.out.keeps (Keeps.of_below hb8)); have HZ := Lib.hid (HZ.out.keeps (Keeps.of_below hb8))
    have HB := Lib.hid (HB.out.trans (hb8.mono HB.out.size))
    have HAT := Lib.hid (HAT.out.keeps (Keeps.of_below hb8))
    have kp := Keeps.of_below hb8
    refine hK _ _ (fun _ => ⟨kp _ _ x0, kp _ _ x4, kp _ _ z0, kp _ _ z1, kp _ _ z2, kp _ _ z3, kp _ _ z4, kp _ _ z5, kp _ _ z6, kp _ _ z7⟩) ?_
    replace x0 := kp _ _ x0; replace x4 := kp _ _ x4; replace z0 := kp _ _ z0; replace z1 := kp _ _ z1; replace z2 := kp _ _ z2; replace z3 := kp _ _ z3; replace z4 := kp _ _ z4; replace z5 := kp _ _ z5; replace z6 := kp _ _ z6; replace z7 := kp _ _ z7
    have HM8 := Lib.hid hm8.mat
    clear hK kp hb8 hm8
    refine AnyZ.one (i := 5) (by kernel_rfl) rfl (fun K hK => ?_)
    go_simp
    refine (refRun_any ((g.place s).lay AC AR AO cC cR cO CA cc) AC AR AO B8 nt c8 (fun _ => I) (fun t => cutRow (TL t) (T t) 0) w8 HAT.out HCOK.out rfl rfl rfl HM8.out (by omega) (fun t _ => by omega)).mono ?_
    rintro e w9 ⟨⟨A9, c9, rfl, hm9⟩, hb9⟩
    have hm9 : Mat w9 A9 nt (fun _ => (s 1).toNat) ((g.place s).sho (inpAt (fun _ => I) (fun t => cutRow (TL t) (T t) 0))) := by rw [lay_sho] at hm9; exact hm9
    have HX := Lib.hid (HX.out.keeps (Keeps.of_below hb9)); have HY := Lib.hid (HY.out.keeps (Keeps.of_below hb9)); have HZ := Lib.hid (HZ.out.keeps (Keeps.of_below hb9))
    have HB := Lib.hid (HB.out.trans (hb9.mono HB.out.size))
    have kp := Keeps.of_below hb9
    refine hK _ _ (fun _ => ⟨kp _ _ x0, kp _ _ x4, kp _ _ z0, kp _ _ z1, kp _ _ z2, kp _ _ z3, kp _ _ z4, kp _ _ z5, kp _ _ z6, kp _ _ z7⟩) ?_
    replace x0 := kp _ _ x0; replace x4 := kp _ _ x4; replace z0 := kp _ _ z0; replace z1 := kp _ _ z1; replace z2 := kp _ _ z2; replace z3 := kp _ _ z3; replace z4 := kp _ _ z4; replace z5 := kp _ _ z5; replace z6 := kp _ _ z6; replace z7 := kp _ _ z7
    have HM9 := Lib.hid hm9
    clear hK kp hb9 hm9 HM8 HAT
    refine AnyZ.one (i := 9) (by kernel_rfl) rfl (fun K hK => ?_)
    go_simp
    refine (heads_any A9 nt c9 g.n4 (fun _ => (s 1).toNat) ((g.place s).sho (inpAt (fun _ => I) (fun t => cutRow (TL t) (T t) 0))) w9 HM9.out (by omega) (by omega)).mono ?_
    rintro e wa ⟨Ba, ca, RAa, RCa, rfl, hma, hba⟩
    have HX := Lib.hid (HX.out.keeps (Keeps.of_below hba)); have HY := Lib.hid (HY.out.keeps (Keeps.of_below hba))
    have HB := Lib.hid (HB.out.trans (hba.mono HB.out.size))
    have kp := Keeps.of_below hba
    refine hK _ _ (fun _ => ⟨kp _ _ x0, kp _ _ x4, kp _ _ z0, kp _ _ z1, kp _ _ z2, kp _ _ z3, kp _ _ z4, kp _ _ z5, kp _ _ z6, kp _ _ z7⟩) ?_
    replace x0 := kp _ _ x0; replace x4 := kp _ _ x4; replace z0 := kp _ _ z0; replace z1 := kp _ _ z1; replace z2 := kp _ _ z2; replace z3 := kp _ _ z3; replace z4 := kp _ _ z4; replace z5 := kp _ _ z5; replace z6 := kp _ _ z6; replace z7 := kp _ _ z7
    have HMa := Lib.hid hma.mat
    clear hK kp hba hma HM9
    refine AnyZ.mid [10] [] 0 rfl (by kernel_rfl) (by kernel_rfl) (by kernel_rfl) (fun _ _ _ _ e h => ⟨e.symm.trans h.1, h.2⟩) ⟨x0, x4, z0, z1, z2, z3, z4, z5, z6, z7⟩ ?_
    iterate 1
      refine Heads.step (v := ?_) rfl (by first | (go_simp; done) | rfl) (fun W hW => ?_) ?_
      rotate_left
      · (obtain ⟨t0, t1, t2, t3, t4, t5, t6, t7, t8, t9⟩ := hW; go_simp; try with_reducible rfl)
    refine AnyZ.done (by kernel_rfl) ?_
    go_simp
    clear x0 x4 z0 z1 z2 z3 z4 z5 z6 z7
    obtain ⟨x0, x1, x2, x3, x4⟩ := HX.out.five
    go_wp2_with fail
    refine (tabRunRef_any g a.A1 a.A2 a.A3 a.A4 a.c1 a.c2 a.c3 a.c4 At nt ct TL T wa (HG.out.keeps (Keeps.of_below HB.out)) HFIT.out HV.out (HT.out.keeps (Keeps.of_below HB.out)) hnt HTL.out).mono ?_
    rintro e wb ⟨Bb, cb, RAb, RCb, rfl, hmb, hbb⟩
    have HB := Lib.hid (HB.out.trans (hbb.mono HB.out.size))
    have HMa := Lib.hid (HMa.out.keeps (Keeps.of_below hbb)); have HMb := Lib.hid hmb.mat
    clear hbb hmb x0 x1 x2 x3 x4
    go_wp2_with fail
    refine (sameRows_any Ba Bb nt nt ca cb _ _ _ _ wb HMa.out HMb.out (by omega) (fun i _ => by show g.n4 ≤ _; omega)).mono ?_
    rintro e wd ⟨rfl, qd, rfl⟩
    rw [tf_yes (same_rows HV.out HOK.out HI.out nt TL T)]
    have HB := Lib.hid (show Below w.heap.size w (wb.drewN qd) from HB.out.trans ⟨rfl, rfl, rfl, Nat.le_refl _, fun _ _ => rfl⟩)
    go_wp2_with fail
    go_ret
    exact ⟨rfl, HB.out⟩
  · have HX := Lib.hid (HX.out.keeps (Keeps.of_below hb3)); have HY := Lib.hid (HY.out.keeps (Keeps.of_below hb3))
    have HB := Lib.hid (HB.out.trans (hb3.mono HB.out.size))
    have HNO := Lib.hid hno
    clear hb3 hno x0 x1 x2 x3 x4 y0 y1 y2 y3 y4
    go_wp2_with fail
    have hba : Below w3.heap.size w3 (w3.alloc (.cells #[.int .i64 0, .int .i64 0, .int .i64 0, .int .i64 0, .int .i64 0, .slice none 0 0, .slice none 0 0, .slice none 0 0] 36)) := (Below.refl _ _).alloc (Nat.le_refl _) _
    have HX := Lib.hid (HX.out.keeps (Keeps.of_below hba)); have HY := Lib.hid (HY.out.keeps (Keeps.of_below hba))
    have HB := Lib.hid (HB.out.trans (hba.mono HB.out.size))
    replace hf0 := (Keeps.of_below hba) _ _ hf0
    replace hf1 := (Keeps.of_below hba) _ _ hf1
    clear hba
    generalize w3.alloc (.cells #[.int .i64 0, .int .i64 0, .int .i64 0, .int .i64 0, .int .i64 0, .slice none 0 0, .slice none 0 0, .slice none 0 0] 36) = w4 at *
    refine (code_fault bF 0 17 0 w4 (HE.out.keeps (Keeps.of_below HB.out)) hf0 hf1).mono ?_
    rintro e w5 ⟨rfl, hb5⟩
    have HX := Lib.hid (HX.out.keeps (Keeps.of_below hb5)); have HY := Lib.hid (HY.out.keeps (Keeps.of_below hb5))
    have HB := Lib.hid (HB.out.trans (hb5.mono HB.out.size))
    clear hb5 hf0 hf1
    obtain ⟨x0, x1, x2, x3, x4⟩ := HX.out.five
    obtain ⟨y0, y1, y2, y3, y4⟩ := HY.out.five
    go_wp2_with fail
    refine (refFits_any g a s w5 (HG.out.keeps (Keeps.of_below HB.out)) HFIT.out HV.out).mono ?_
    rintro e w6 ⟨rfl, hb6⟩
    rw [tf_no (fun h => HNO.out (fit_must HV.out h))]
    have HB := Lib.hid (HB.out.trans (hb6.mono HB.out.size))
    clear hb6 x0 x1 x2 x3 x4 y0 y1 y2 y3 y4
    go_wp2_with fail
    go_ret
    exact ⟨rfl, HB.out⟩
end Go.Proofs.YtlmcbhmaccncbaaDoor
