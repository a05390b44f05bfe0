/- The law's state and alike, walked: two graphs that show the same at each state are told to. Conditions: both are valid and lie in memory, the rows of states lie in memory. -/
import Derived.Test.YtdhgbikmaglgpaaHashP
import Derived.Test.YtdhgbikmaglgpaaSameG
import Derived.Test.YtdhgbikmaglgpaaCleanRef
import Derived.Test.YtdhgbikmaglgpaaRefRun
namespace Go.Proofs.Ytdhgbikmaglgpaa
open Go.RowKit

def cutRow (n : Nat) (V : Nat → Bool) (from_ i : Nat) : Bool := decide (from_ + i < n) && V (from_ + i)

set_option maxHeartbeats 1000000 in
theorem state_any (A : Option Addr) (n c f m : Nat) (V : Nat → Bool) (w : World) (h : Bits w A n V) (hf : f ≤ 1000000) (hm : m ≤ 1000000) :
    Calls Try.prog 96 #[.slice A n c, .int .i64 f, .int .i64 m] w (RetBits w m (cutRow n V f)) := by
  go_enter Try.func96, Try.ntmps96
  go_wp2_with fail
  go_loopw [7, 8] (fun v i wr => ∃ (k : Nat) (B : Option Addr) (d : Nat), k ≤ m ∧ i = .int .i64 k ∧ v = .slice B k d ∧ GrowB w B k d (cutRow n V f) wr) (fun _ i _ => m - (intOf i).toNat)
  case atStart => exact ⟨0, _, _, by omega, rfl, rfl, GrowB.start _ _⟩
  case round =>
    obtain ⟨k, B, d, hk, rfl, rfl, H⟩ := hrel
    have hkp := Lib.hid (Grow.keeps H)
    have hsz := H.size
    by_cases hlt : k < m
    · have e1 : IntKind.i64.wrap ((f : Int) + k) = ((f + k : Nat) : Int) := by rw [IntWalk.i64_in _ (by omega)]; omega
      by_cases hin : f + k < n
      · obtain ⟨b1, o1, rfl, x0⟩ := (Row1.keeps h hkp.out).at_ hin
        have hx : V (f + k) = cutRow n V f k := by simp [cutRow, hin]
        rw [hx] at x0
        obtain ⟨x, hxe⟩ : ∃ x, x = cutRow n V f k := ⟨_, rfl⟩
        have HX := Lib.hid hxe.symm
        rw [← hxe] at x0
        clear hx hxe
        have hin2 : ((f + k : Nat) : Int) < n := by omega
        have hin3 : (0 : Int) ≤ ((f + k : Nat) : Int) := by omega
        go_wp2_with (at_builtin; refine wp_append rfl (.tmp 14) (.tmp 29) _ rfl elBool w.heap.size B k d _ rfl (Grow.alloc H _).own _ 1 1 [.bool x] rfl (src_new _ _ _ rfl) (by omega) (sz_alloc H.size) ?_; intro B' d' w1 ho hk' hb')
        go_roundw
        case rel => exact ⟨k + 1, B', d', by omega, by go_num, rfl, GrowB.push (Grow.alloc H _) ho hk' (fun _ _ => rfl) HX.out⟩
        case measure => simp [intOf]; omega
      · have hx : cutRow n V f k = false := by simp [cutRow, hin]
        have HX := Lib.hid hx; clear hx
        have hin2 : ¬ ((f + k : Nat) : Int) < n := by omega
        go_wp2_with (at_builtin; refine wp_append rfl (.tmp 14) (.tmp 29) _ rfl elBool w.heap.size B k d _ rfl (Grow.alloc H _).own _ 1 1 [.bool false] rfl (src_new _ _ _ rfl) (by omega) (sz_alloc H.size) ?_; intro B' d' w1 ho hk' hb')
        go_roundw
        case rel => exact ⟨k + 1, B', d', by omega, by go_num, rfl, GrowB.push (Grow.alloc H _) ho hk' (fun _ _ => rfl) HX.out⟩
        case measure => simp [intOf]; omega
    · obtain rfl : k = m := by omega
      go_wp2_with fail
      go_ret
      exact ⟨_, _, rfl, H.own, H.bel⟩

/-- do two graphs show the same? -/
structure G.Shows (g h : G) : Prop where
  ins : h.ins = g.ins
  n1 : h.n1 = g.n1
  n3 : h.n3 = g.n3
  init : ∀ k, k < g.n1 → g.I k = h.I k
  lat : ∀ inp st k, k < g.n1 → litF (g.vals inp st) (g.L k) = litF (h.vals inp st) (h.L k)
  out : ∀ inp st k, k < g.n3 → litF (g.vals inp st) (g.O k) = litF (h.vals inp st) (h.O k)

theorem next_eq (g : G) (A1 A2 A3 : Option Addr) (c1 c2 c3 : Nat) (Ai As : Option Addr) (ni ci ns cs : Nat) (I S : Nat → Bool) (w : World) (hg : g.At w A1 A2 A3) (hv : g.Valid) (e : g.n1 = ns)
    (hi : Bits w Ai ni I) (hni : ni ≤ 140737488351232) (hs : Bits w As ns S) :
    Calls Try.prog 90 #[.agg #[.int .i64 g.ins, .slice A1 g.n1 c1, .slice A2 g.n2 c2, .slice A3 g.n3 c3], .slice Ai ni ci, .slice As ns cs] w
      (RetBits2 w g.n1 g.n3 (fun i => litF (g.vals (fun i => decide (i < ni) && I i) S) (g.L i)) (fun i => litF (g.vals (fun i => decide (i < ni) && I i) S) (g.O i))) := by
  subst e; exact next_any g A1 A2 A3 c1 c2 c3 Ai As ni ci cs I S w hg hv hi hni hs

set_option maxHeartbeats 4000000 in
set_option maxRecDepth 100000 in
theorem alike_any (g h : G) (A1 A2 A3 B1 B2 B3 : Option Addr) (c1 c2 c3 d1 d2 d3 : Nat) (At : Option Addr) (nt ct : Nat) (TL : Nat → Nat) (T : Nat → Nat → Bool) (w : World) (hg : g.At w A1 A2 A3) (hh : h.At w B1 B2 B3) (hv : g.Valid) (hw : h.Valid) (hs : g.Shows h)
    (ht : Mat w At nt TL T) (hnt : nt * 24 ≤ 140737488351232) :
    Calls Try.prog 47 #[.agg #[.int .i64 g.ins, .slice A1 g.n1 c1, .slice A2 g.n2 c2, .slice A3 g.n3 c3], .agg #[.int .i64 h.ins, .slice B1 h.n1 d1, .slice B2 h.n2 d2, .slice B3 h.n3 d3], .slice At nt ct] w fun e w' => e = .returned (.bool true) ∧ Below w.heap.size w w' := by
  have v1 := hv.i0; have v2 := hv.i1; have v3 := hv.n; have v4 := hv.n1; have v5 := hv.n3
  have q0 : (g.ins != h.ins) = false := by rw [hs.ins]; simp
  have q3 : ((g.n3 : Int) != (h.n3 : Int)) = false := by rw [hs.n3]; simp
  obtain ⟨RA, RC, ht1, ht2⟩ := ht
  have HT2 := Lib.hid ht2; clear ht2
  obtain ⟨ni, hni⟩ : ∃ ni : Nat, (ni : Int) = g.ins := ⟨g.ins.toNat, by omega⟩
  have HNI := Lib.hid hni
  have hni6 : ni ≤ 60000 := by omega
  clear hni
  go_enter Try.func47, Try.ntmps47
  go_upto_region 1 with (fail)
  have hbx : BoxAt (w.alloc (.cells #[.int .i64 g.ins, .slice A1 g.n1 c1, .slice A2 g.n2 c2, .slice A3 g.n3 c3] 26)) w.heap.size [.int .i64 g.ins, .slice A1 g.n1 c1, .slice A2 g.n2 c2, .slice A3 g.n3 c3] := BoxAt.new w _ _
  have hby := BoxAt.new (w.alloc (.cells #[.int .i64 g.ins, .slice A1 g.n1 c1, .slice A2 g.n2 c2, .slice A3 g.n3 c3] 26)) [.int .i64 h.ins, .slice B1 h.n1 d1, .slice B2 h.n2 d2, .slice B3 h.n3 d3] 26
  have hbx := hbx.keeps (Keeps.alloc _ (.cells #[.int .i64 h.ins, .slice B1 h.n1 d1, .slice B2 h.n2 d2, .slice B3 h.n3 d3] 26))
  have hbel : Below w.heap.size w ((w.alloc (.cells #[.int .i64 g.ins, .slice A1 g.n1 c1, .slice A2 g.n2 c2, .slice A3 g.n3 c3] 26)).alloc (.cells #[.int .i64 h.ins, .slice B1 h.n1 d1, .slice B2 h.n2 d2, .slice B3 h.n3 d3] 26)) := ((Below.refl _ _).alloc (Nat.le_refl _) _).alloc (by simp) _
  rw [show (w.alloc (.cells #[.int .i64 g.ins, .slice A1 g.n1 c1, .slice A2 g.n2 c2, .slice A3 g.n3 c3] 26)).heap.size = w.heap.size + 1 by simp] at hby
  generalize ((w.alloc (.cells #[.int .i64 g.ins, .slice A1 g.n1 c1, .slice A2 g.n2 c2, .slice A3 g.n3 c3] 26)).alloc (.cells #[.int .i64 h.ins, .slice B1 h.n1 d1, .slice B2 h.n2 d2, .slice B3 h.n3 d3] 26)) = w1 at *
  have HB1 := Lib.hid hbel; clear hbel
  have hg1 := hg.keeps (Keeps.of_below HB1.out)
  have hh1 := hh.keeps (Keeps.of_below HB1.out)
  obtain ⟨g0, g1, g2, g3⟩ := hbx.four
  obtain ⟨p0, p1, p2, p3⟩ := hby.four
  go_upto_region 3 with (fail)
  refine wp_region_z (fun w' => (w'.cell? ⟨w.heap.size, 0, none⟩ = some (.int .i64 g.ins) ∧ w'.cell? ⟨w.heap.size, 1, none⟩ = some (.slice A1 g.n1 c1) ∧ w'.cell? ⟨w.heap.size, 2, none⟩ = some (.slice A2 g.n2 c2) ∧ w'.cell? ⟨w.heap.size, 3, none⟩ = some (.slice A3 g.n3 c3)) ∧
      w'.cell? ⟨w.heap.size + 1, 0, none⟩ = some (.int .i64 h.ins) ∧ w'.cell? ⟨w.heap.size + 1, 1, none⟩ = some (.slice B1 h.n1 d1) ∧ w'.cell? ⟨w.heap.size + 1, 2, none⟩ = some (.slice B2 h.n2 d2) ∧ w'.cell? ⟨w.heap.size + 1, 3, none⟩ = some (.slice B3 h.n3 d3)) [0, 2] [4, 5] (by kernel_rfl) (by kernel_rfl) (by kernel_rfl) (by rfl) (fun _ _ _ _ e h => ⟨e.symm.trans h.1, h.2⟩) ⟨⟨g0, g1, g2, g3⟩, p0, p1, p2, p3⟩ ?_
  iterate 2
    refine Heads.step (v := ?_) rfl (by rfl) (fun W hW => ?_) ?_
    rotate_left
    · (obtain ⟨⟨s0, s1, s2, s3⟩, s4, s5, s6, s7⟩ := hW; go_simp; try with_reducible rfl)
  refine AnyZ.one (i := 1) (by kernel_rfl) rfl (fun K hK => ?_)
  go_simp
  refine (states_any g A1 A2 A3 c1 c2 c3 _ (hg1.keeps (Keeps.drew _)) (by omega)).mono ?_
  rintro e w2 ⟨S1, e1, rfl, ho2, hb2⟩
  have hb2' : Below w1.heap.size w1 w2 := ⟨hb2.os, hb2.tape, hb2.output, hb2.size, hb2.block⟩
  have hk2 : Keeps w1 w2 := Keeps.of_below hb2'
  have HB2 := Lib.hid (Below.then_call HB1.out hb2' HB1.out.size)
  have hs2 := ho2.bits
  refine hK _ _ (fun _ => ⟨⟨hk2 _ _ g0, hk2 _ _ g1, hk2 _ _ g2, hk2 _ _ g3⟩, hk2 _ _ p0, hk2 _ _ p1, hk2 _ _ p2, hk2 _ _ p3⟩) ?_
  clear hK hb2 ho2
  refine AnyZ.one (i := 3) (by kernel_rfl) rfl (fun K hK => ?_)
  go_simp
  refine (states_any h B1 B2 B3 d1 d2 d3 _ (hh1.keeps hk2) (by have := hs.n1; omega)).mono ?_
  rintro e w3 ⟨S2, e2, rfl, ho3, hb3⟩
  have hk3 : Keeps w1 w3 := hk2.trans (Keeps.of_below hb3)
  have HB3 := Lib.hid (Below.then_call HB2.out hb3 HB2.out.size)
  have hs3 := ho3.bits
  have hs23 := Bits.keeps hs2 (Keeps.of_below hb3)
  refine hK _ _ (fun _ => ⟨⟨hk3 _ _ g0, hk3 _ _ g1, hk3 _ _ g2, hk3 _ _ g3⟩, hk3 _ _ p0, hk3 _ _ p1, hk3 _ _ p2, hk3 _ _ p3⟩) ?_
  clear hK hb3 ho3 hs2
  refine AnyZ.one (i := 4) (by kernel_rfl) rfl (fun K hK => ?_)
  go_simp
  refine (sameBools_any S1 S2 g.n1 h.n1 e1 e2 g.I h.I w3 hs23 hs3 (by omega)).mono ?_
  rintro e w4 ⟨rfl, q, rfl⟩
  rw [tf_yes (p := RowsEq _ _ _ _) ⟨hs.n1.symm, hs.init⟩]
  refine hK _ _ (fun h => by cases h) ?_
  clear hK
  refine AnyZ.one (i := 5) (by kernel_rfl) rfl (fun K hK => ?_)
  go_simp
  refine hK _ _ (fun h => by cases h) (AnyZ.done (by kernel_rfl) ?_)
  clear hK hs3 hs23
  have HB4 : Hid (Below w.heap.size w (w3.drewN q)) := Lib.hid ⟨HB3.out.os, HB3.out.tape, HB3.out.output, HB3.out.size, HB3.out.block⟩
  have hk4 : Keeps w1 (w3.drewN q) := hk3.trans (Keeps.drewN _ _)
  have hbx4 := hbx.keeps hk4
  have hby4 := hby.keeps hk4
  have hg4 := hg1.keeps hk4
  have hh4 := hh1.keeps hk4
  clear g0 g1 g2 g3 p0 p1 p2 p3 hk2 hk3 HB2 HB3 hbx hby hg1 hh1 hk4
  generalize w3.drewN q = w5 at *
  go_wp2_with fail
  go_loopw [8] (fun i wr => ∃ k : Nat, k ≤ nt ∧ i = .int .i64 k ∧ Below w5.heap.size w5 wr) (fun i _ => nt - (intOf i).toNat)
  case atStart => exact ⟨0, by omega, rfl, Below.refl _ _⟩
  case round =>
    obtain ⟨k, hk, rfl, HO⟩ := hrel
    have HOH := Lib.hid HO
    have hkr := Keeps.of_below HO
    have hbr : Below w.heap.size w wr := Below.then_call HB4.out HO HB4.out.size
    have htr := ht1.keeps (Keeps.of_below hbr)
    have hbxr := hbx4.keeps hkr
    have hbyr := hby4.keeps hkr
    have hgr := hg4.keeps hkr
    have hhr := hh4.keeps hkr
    have HBR := Lib.hid hbr
    clear HO hkr hbr
    by_cases hlt : k < nt
    · obtain ⟨b1, o1, rfl, x0⟩ := htr.at_ hlt
      have htk := (HT2.out k hlt).keeps (Keeps.of_below HBR.out)
      obtain ⟨g0, g1, g2, g3⟩ := hbxr.four
      have HC0 : ∀ W, Bits W (RA k) (TL k) (T k) → Calls Try.prog 96 #[.slice (RA k) (TL k) (RC k), .int .i64 0, .int .i64 g.ins] W (RetBits W ni (cutRow (TL k) (T k) 0)) := fun W hb => by
        rw [← HNI.out]; exact state_any (RA k) (TL k) (RC k) 0 ni (T k) W hb (by omega) (by omega)
      have HC1 : ∀ W, Bits W (RA k) (TL k) (T k) → Calls Try.prog 96 #[.slice (RA k) (TL k) (RC k), .int .i64 g.ins, .int .i64 g.n1] W (RetBits W g.n1 (cutRow (TL k) (T k) ni)) := fun W hb => by
        rw [← HNI.out]; exact state_any (RA k) (TL k) (RC k) ni g.n1 (T k) W hb (by omega) (by omega)
      have HCA := Lib.hid HC0; have HCB := Lib.hid HC1
      clear HC0 HC1
      have hki : (k : Int) < nt := by omega
      go_upto_region 9 with (fail)
      refine wp_region_z (fun w' => w'.cell? ⟨b1, o1 + k, none⟩ = some (.slice (RA k) (TL k) (RC k)) ∧ w'.cell? ⟨w.heap.size, 0, none⟩ = some (.int .i64 g.ins)) [0, 1, 2, 3, 4, 5] [6, 7] (by kernel_rfl) (by kernel_rfl) (by kernel_rfl) (by rfl) (fun _ _ _ _ e h => ⟨e.symm.trans h.1, h.2⟩) ⟨x0, g0⟩ ?_
      iterate 6
        refine Heads.step (v := ?_) rfl (by rfl) (fun W hW => ?_) ?_
        rotate_left
        · (obtain ⟨s0, s1⟩ := hW; go_simp; try with_reducible rfl)
      refine AnyZ.one (i := 6) (by kernel_rfl) rfl (fun K hK => ?_)
      go_simp
      refine (HCA.out _ (htk.keeps (Keeps.drew _))).mono ?_
      rintro e wa ⟨Si, ci, rfl, hoi, hba⟩
      have hba' : Below wr.heap.size wr wa := ⟨hba.os, hba.tape, hba.output, hba.size, hba.block⟩
      have HBa := Lib.hid hba'
      have hbi := hoi.bits
      have hka := Keeps.of_below hba'
      refine hK _ _ (fun h => by cases h) ?_
      clear hK hba hoi
      refine AnyZ.one (i := 7) (by kernel_rfl) rfl (fun K hK => ?_)
      go_simp
      refine hK _ _ (fun h => by cases h) (AnyZ.done (by kernel_rfl) ?_)
      clear hK
      have x0 := hka _ _ x0
      have g0 := hka _ _ g0
      have g1 := hka _ _ g1
      have htk := htk.keeps hka
      go_upto_region 10 with (fail)
      refine wp_region_z (fun w' => w'.cell? ⟨b1, o1 + k, none⟩ = some (.slice (RA k) (TL k) (RC k)) ∧ w'.cell? ⟨w.heap.size, 0, none⟩ = some (.int .i64 g.ins) ∧ w'.cell? ⟨w.heap.size, 1, none⟩ = some (.slice A1 g.n1 c1)) [0, 1, 2, 3, 4, 5, 6, 7, 8] [9, 10] (by kernel_rfl) (by kernel_rfl) (by kernel_rfl) (by rfl) (fun _ _ _ _ e h => ⟨e.symm.trans h.1, h.2⟩) ⟨x0, g0, g1⟩ ?_
      iterate 9
        refine Heads.step (v := ?_) rfl (by rfl) (fun W hW => ?_) ?_
        rotate_left
        · (obtain ⟨s0, s1, s2⟩ := hW; go_simp; try with_reducible rfl)
      refine AnyZ.one (i := 9) (by kernel_rfl) rfl (fun K hK => ?_)
      go_simp
      refine (HCB.out _ (htk.keeps (Keeps.drew _))).mono ?_
      rintro e wb ⟨Ss, cs, rfl, hos, hbb⟩
      have hbb' : Below wa.heap.size wa wb := ⟨hbb.os, hbb.tape, hbb.output, hbb.size, hbb.block⟩
      have HBb := Lib.hid (Below.then_call HBa.out hbb' HBa.out.size)
      have hbs := hos.bits
      have hbi2 := hbi.keeps (Keeps.of_below hbb')
      refine hK _ _ (fun h => by cases h) ?_
      clear hK hbb hos hbb' hbi x0 g0 g1 g2 g3 hka hba'
      refine AnyZ.one (i := 10) (by kernel_rfl) rfl (fun K hK => ?_)
      go_simp
      refine hK _ _ (fun h => by cases h) (AnyZ.done (by kernel_rfl) ?_)
      clear hK htk HCA HCB
      generalize cutRow (TL k) (T k) 0 = VI at *
      generalize cutRow (TL k) (T k) ni = VS at *
      have hkb := Keeps.of_below HBb.out
      obtain ⟨g0, g1, g2, g3⟩ := (hbxr.keeps hkb).four
      go_wp2_with fail
      refine (next_any g A1 A2 A3 c1 c2 c3 Si Ss ni ci cs VI VS wb (hgr.keeps hkb) hv hbi2 (by omega) hbs).mono ?_
      rintro e wc ⟨X1, x1, X2, x2, rfl, hx1, hx2, hbc⟩
      have HBc := Lib.hid (Below.then_call HBb.out hbc HBb.out.size)
      have hkc := Keeps.of_below HBc.out
      have hX1 := hx1.bits; have hX2 := hx2.bits
      have hbic := hbi2.keeps (Keeps.of_below hbc); have hbsc := hbs.keeps (Keeps.of_below hbc)
      clear hbc hx1 hx2 g0 g1 g2 g3 hbi2 hbs hkb
      obtain ⟨g0, g1, g2, g3⟩ := (hbyr.keeps hkc).four
      go_wp2_with fail
      refine (next_eq h B1 B2 B3 d1 d2 d3 Si Ss ni ci g.n1 cs VI VS wc (hhr.keeps hkc) hw hs.n1 hbic (by omega) hbsc).mono ?_
      rintro e wd ⟨Y1, y1, Y2, y2, rfl, hy1, hy2, hbd⟩
      have HBd := Lib.hid (Below.then_call HBc.out hbd HBc.out.size)
      have hY1 := hy1.bits; have hY2 := hy2.bits
      have hX1 := hX1.keeps (Keeps.of_below hbd); have hX2 := hX2.keeps (Keeps.of_below hbd)
      clear hbd hy1 hy2 g0 g1 g2 g3 hbic hbsc hkc
      go_wp2_with fail
      refine (sameBools_any X1 Y1 g.n1 h.n1 x1 y1 _ _ wd hX1 hY1 (by omega)).mono ?_
      rintro e we ⟨rfl, q1, rfl⟩
      rw [tf_yes (p := RowsEq _ _ _ _) ⟨hs.n1.symm, hs.lat _ _⟩]
      go_wp2_with fail
      refine (sameBools_any X2 Y2 g.n3 h.n3 x2 y2 _ _ _ (hX2.keeps (Keeps.drewN _ _)) (hY2.keeps (Keeps.drewN _ _)) (by omega)).mono ?_
      rintro e we ⟨rfl, q2, rfl⟩
      rw [tf_yes (p := RowsEq _ _ _ _) ⟨hs.n3.symm, hs.out _ _⟩]
      have hbe : Below w5.heap.size w5 (wd.drewN (q1 + q2)) := by
        have := Below.then_call HOH.out HBd.out HOH.out.size
        exact ⟨this.os, this.tape, this.output, this.size, this.block⟩
      clear hX1 hX2 hY1 hY2
      go_wp2_with fail
      go_roundw
      case rel => exact ⟨k + 1, by omega, by go_num, hbe⟩
      case measure => simp [intOf]; omega
    · obtain rfl : k = nt := by omega
      go_wp2_with fail
      go_ret
      exact ⟨rfl, HBR.out⟩
end Go.Proofs.Ytdhgbikmaglgpaa
