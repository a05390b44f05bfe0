/- judge.Join, walked: it returns the joint graph in new memory. Conditions: both graphs are valid and lie in memory. -/
import Derived.Test.YtkanekacjefcbaaJoinS
import Derived.Deep.DeepCutAuto
namespace Go.Proofs.Ytkanekacjefcbaa
open Go.RowKit

set_option maxHeartbeats 20000000 in
set_option maxRecDepth 100000 in
theorem join_any (a b : G) (A1 A2 A3 B1 B2 B3 : Option Addr) (c1 c2 c3 d1 d2 d3 : Nat) (w : World) (ha : a.At w A1 A2 A3) (hb : b.At w B1 B2 B3) (hva : a.Valid) (hvb : b.Valid) :
    Calls Try.prog 34 #[.agg #[.int .i64 a.ins, .slice A1 a.n1 c1, .slice A2 a.n2 c2, .slice A3 a.n3 c3], .agg #[.int .i64 b.ins, .slice B1 b.n1 d1, .slice B2 b.n2 d2, .slice B3 b.n3 d3]] w (MadeG (joint a b) w) := by
  obtain ⟨a1, a2, a3, a4, a5⟩ := hva.small
  obtain ⟨b1, b2, b3, b4, b5⟩ := hvb.small
  have hna := hva.n
  have hnb := hvb.n
  go_enter Try.func34, Try.ntmps34
  go_upto_region 4 with (fail)
  have qa := BoxAt.new w [.int .i64 a.ins, .slice A1 a.n1 c1, .slice A2 a.n2 c2, .slice A3 a.n3 c3] 30
  have hbl : Below w.heap.size w (w.alloc (.cells #[.int .i64 a.ins, .slice A1 a.n1 c1, .slice A2 a.n2 c2, .slice A3 a.n3 c3] 30)) := (Below.refl _ _).alloc (Nat.le_refl _) _
  have hz1 : (w.alloc (.cells #[.int .i64 a.ins, .slice A1 a.n1 c1, .slice A2 a.n2 c2, .slice A3 a.n3 c3] 30)).heap.size = w.heap.size + 1 := by simp
  generalize w.alloc (.cells #[.int .i64 a.ins, .slice A1 a.n1 c1, .slice A2 a.n2 c2, .slice A3 a.n3 c3] 30) = v1 at *
  have qb := BoxAt.new v1 [.int .i64 b.ins, .slice B1 b.n1 d1, .slice B2 b.n2 d2, .slice B3 b.n3 d3] 30
  rw [hz1] at qb
  replace qa := qa.keeps (Keeps.alloc v1 (.cells #[.int .i64 b.ins, .slice B1 b.n1 d1, .slice B2 b.n2 d2, .slice B3 b.n3 d3] 30))
  replace hbl := hbl.alloc (by omega) (.cells #[.int .i64 b.ins, .slice B1 b.n1 d1, .slice B2 b.n2 d2, .slice B3 b.n3 d3] 30)
  have hz2 : (v1.alloc (.cells #[.int .i64 b.ins, .slice B1 b.n1 d1, .slice B2 b.n2 d2, .slice B3 b.n3 d3] 30)).heap.size = w.heap.size + 1 + 1 := by simp [hz1]
  generalize v1.alloc (.cells #[.int .i64 b.ins, .slice B1 b.n1 d1, .slice B2 b.n2 d2, .slice B3 b.n3 d3] 30) = v2 at *
  clear hz1
  have qr := GBox.new v2 (.int .i64 0) (.slice none 0 0) (.slice none 0 0) (.slice none 0 0)
  rw [hz2] at qr
  replace qa := qa.keeps (Keeps.alloc v2 (.cells #[.int .i64 0, .slice none 0 0, .slice none 0 0, .slice none 0 0] 30))
  replace qb := qb.keeps (Keeps.alloc v2 (.cells #[.int .i64 0, .slice none 0 0, .slice none 0 0, .slice none 0 0] 30))
  replace hbl := hbl.alloc (by omega) (.cells #[.int .i64 0, .slice none 0 0, .slice none 0 0, .slice none 0 0] 30)
  have hz3 : (v2.alloc (.cells #[.int .i64 0, .slice none 0 0, .slice none 0 0, .slice none 0 0] 30)).heap.size = w.heap.size + 1 + 1 + 1 := by simp [hz2]
  generalize v2.alloc (.cells #[.int .i64 0, .slice none 0 0, .slice none 0 0, .slice none 0 0] 30) = v3 at *
  clear hz2
  have qx := BoxAt.new v3 [.int .i64 a.ins, .int .i64 a.n1, .int .i64 0, .int .i64 b.n1] 88
  rw [hz3] at qx
  replace qa := qa.keeps (Keeps.alloc v3 (.cells #[.int .i64 a.ins, .int .i64 a.n1, .int .i64 0, .int .i64 b.n1] 88))
  replace qb := qb.keeps (Keeps.alloc v3 (.cells #[.int .i64 a.ins, .int .i64 a.n1, .int .i64 0, .int .i64 b.n1] 88))
  replace qr : GBox (v3.alloc (.cells #[.int .i64 a.ins, .int .i64 a.n1, .int .i64 0, .int .i64 b.n1] 88)) (w.heap.size + 1 + 1) (.int .i64 0) (.slice none 0 0) (.slice none 0 0) (.slice none 0 0) := Arr.alloc qr _
  replace hbl := hbl.alloc (by omega) (.cells #[.int .i64 a.ins, .int .i64 a.n1, .int .i64 0, .int .i64 b.n1] 88)
  have hz4 : (v3.alloc (.cells #[.int .i64 a.ins, .int .i64 a.n1, .int .i64 0, .int .i64 b.n1] 88)).heap.size = w.heap.size + 1 + 1 + 1 + 1 := by simp [hz3]
  generalize v3.alloc (.cells #[.int .i64 a.ins, .int .i64 a.n1, .int .i64 0, .int .i64 b.n1] 88) = v4 at *
  clear hz3
  have qy := BoxAt.new v4 [.int .i64 b.ins, .int .i64 b.n1, .int .i64 a.n1, .int .i64 ((a.n1 : Int) + a.n2)] 88
  rw [hz4] at qy
  replace qa := qa.keeps (Keeps.alloc v4 (.cells #[.int .i64 b.ins, .int .i64 b.n1, .int .i64 a.n1, .int .i64 ((a.n1 : Int) + a.n2)] 88))
  replace qb := qb.keeps (Keeps.alloc v4 (.cells #[.int .i64 b.ins, .int .i64 b.n1, .int .i64 a.n1, .int .i64 ((a.n1 : Int) + a.n2)] 88))
  replace qr : GBox (v4.alloc (.cells #[.int .i64 b.ins, .int .i64 b.n1, .int .i64 a.n1, .int .i64 ((a.n1 : Int) + a.n2)] 88)) (w.heap.size + 1 + 1) (.int .i64 0) (.slice none 0 0) (.slice none 0 0) (.slice none 0 0) := Arr.alloc qr _
  replace qx := qx.keeps (Keeps.alloc v4 (.cells #[.int .i64 b.ins, .int .i64 b.n1, .int .i64 a.n1, .int .i64 ((a.n1 : Int) + a.n2)] 88))
  replace hbl := hbl.alloc (by omega) (.cells #[.int .i64 b.ins, .int .i64 b.n1, .int .i64 a.n1, .int .i64 ((a.n1 : Int) + a.n2)] 88)
  have hz5 : (v4.alloc (.cells #[.int .i64 b.ins, .int .i64 b.n1, .int .i64 a.n1, .int .i64 ((a.n1 : Int) + a.n2)] 88)).heap.size = w.heap.size + 1 + 1 + 1 + 1 + 1 := by simp [hz4]
  generalize v4.alloc (.cells #[.int .i64 b.ins, .int .i64 b.n1, .int .i64 a.n1, .int .i64 ((a.n1 : Int) + a.n2)] 88) = v5 at *
  clear hz4
  have qg := GBox.new v5 (.int .i64 a.ins) (.slice none 0 0) (.slice none 0 0) (.slice none 0 0)
  rw [hz5] at qg
  replace qa := qa.keeps (Keeps.alloc v5 (.cells #[.int .i64 a.ins, .slice none 0 0, .slice none 0 0, .slice none 0 0] 30))
  replace qb := qb.keeps (Keeps.alloc v5 (.cells #[.int .i64 a.ins, .slice none 0 0, .slice none 0 0, .slice none 0 0] 30))
  replace qr : GBox (v5.alloc (.cells #[.int .i64 a.ins, .slice none 0 0, .slice none 0 0, .slice none 0 0] 30)) (w.heap.size + 1 + 1) (.int .i64 0) (.slice none 0 0) (.slice none 0 0) (.slice none 0 0) := Arr.alloc qr _
  replace qx := qx.keeps (Keeps.alloc v5 (.cells #[.int .i64 a.ins, .slice none 0 0, .slice none 0 0, .slice none 0 0] 30))
  replace qy := qy.keeps (Keeps.alloc v5 (.cells #[.int .i64 a.ins, .slice none 0 0, .slice none 0 0, .slice none 0 0] 30))
  replace hbl := hbl.alloc (by omega) (.cells #[.int .i64 a.ins, .slice none 0 0, .slice none 0 0, .slice none 0 0] 30)
  have hz6 : (v5.alloc (.cells #[.int .i64 a.ins, .slice none 0 0, .slice none 0 0, .slice none 0 0] 30)).heap.size = w.heap.size + 1 + 1 + 1 + 1 + 1 + 1 := by simp [hz5]
  generalize v5.alloc (.cells #[.int .i64 a.ins, .slice none 0 0, .slice none 0 0, .slice none 0 0] 30) = w6 at *
  clear hz5
  have HBL := Lib.hid hbl; clear hbl
  have hs6 : w.heap.size + 6 ≤ w6.heap.size := by omega
  have hs6b : w6.heap.size ≤ w.heap.size + 6 := by omega
  have HSZ := Lib.hid hz6; clear hz6
  have H0 : JAt (joint a b) w6 w6 (w.heap.size + 1 + 1 + 1 + 1 + 1) 0 0 0 none none none 0 0 0 := JAt.start w6 _ w6 rfl qg
  clear qg
  obtain ⟨g0, g1, g2, g3⟩ := qa.four
  obtain ⟨e0, e1, e2, e3⟩ := qb.four
  obtain ⟨x0, x1, x2, x3⟩ := qx.four
  obtain ⟨y0, y1, y2, y3⟩ := qy.four
  go_wp2_with fail
  clear g0 g1 g2 g3 e0 e1 e2 e3 x0 x1 x2 x3 y0 y1 y2 y3
  have qh : Arr (w6.alloc (.cells #[.int .i64 a.ins, .slice A1 a.n1 c1, .slice A2 a.n2 c2, .slice A3 a.n3 c3, .int .i64 a.ins, .int .i64 a.n1, .int .i64 0, .int .i64 b.n1, .int .i64 b.ins, .slice B1 b.n1 d1, .slice B2 b.n2 d2, .slice B3 b.n3 d3, .int .i64 b.ins, .int .i64 b.n1, .int .i64 a.n1, .int .i64 ((a.n1 : Int) + a.n2)] 90)) w6.heap.size 90 16 (fun j => (halvesV a b A1 A2 A3 B1 B2 B3 c1 c2 c3 d1 d2 d3).toArray.getD j undef) := Arr.new w6 (halvesV a b A1 A2 A3 B1 B2 B3 c1 c2 c3 d1 d2 d3).toArray 90
  have H1 := JAt.alloc H0 (.cells #[.int .i64 a.ins, .slice A1 a.n1 c1, .slice A2 a.n2 c2, .slice A3 a.n3 c3, .int .i64 a.ins, .int .i64 a.n1, .int .i64 0, .int .i64 b.n1, .int .i64 b.ins, .slice B1 b.n1 d1, .slice B2 b.n2 d2, .slice B3 b.n3 d3, .int .i64 b.ins, .int .i64 b.n1, .int .i64 a.n1, .int .i64 ((a.n1 : Int) + a.n2)] 90)
  have hzn : (w6.alloc (.cells #[.int .i64 a.ins, .slice A1 a.n1 c1, .slice A2 a.n2 c2, .slice A3 a.n3 c3, .int .i64 a.ins, .int .i64 a.n1, .int .i64 0, .int .i64 b.n1, .int .i64 b.ins, .slice B1 b.n1 d1, .slice B2 b.n2 d2, .slice B3 b.n3 d3, .int .i64 b.ins, .int .i64 b.n1, .int .i64 a.n1, .int .i64 ((a.n1 : Int) + a.n2)] 90)).heap.size = w6.heap.size + 1 := by simp
  generalize w6.alloc (.cells #[.int .i64 a.ins, .slice A1 a.n1 c1, .slice A2 a.n2 c2, .slice A3 a.n3 c3, .int .i64 a.ins, .int .i64 a.n1, .int .i64 0, .int .i64 b.n1, .int .i64 b.ins, .slice B1 b.n1 d1, .slice B2 b.n2 d2, .slice B3 b.n3 d3, .int .i64 b.ins, .int .i64 b.n1, .int .i64 a.n1, .int .i64 ((a.n1 : Int) + a.n2)] 90) = w7 at *
  clear H0 hzn
  go_loopw [54] (fun ix wi => ∃ (i : Nat) (Q1 : Option Addr) (q1 : Nat), i ≤ 2 ∧ ix = .int .i64 i ∧ JAt (joint a b) w6 wi (w.heap.size + 1 + 1 + 1 + 1 + 1) (st a.n1 b.n1 i) (0) (0) Q1 none none q1 0 0 ∧ Arr wi (w6.heap.size) 90 16 (fun j => (halvesV a b A1 A2 A3 B1 B2 B3 c1 c2 c3 d1 d2 d3).toArray.getD j undef)) (fun ix _ => 2 - (intOf ix).toNat)
  case atStart => exact ⟨0, none, 0, by omega, rfl, H1, qh⟩
  case round =>
    clear H1 qh
    obtain ⟨i, Q1, q1, hi, rfl, H, qh⟩ := hrel
    have hszr := H.size
    by_cases hlt : i < 2
    · have hii : (i : Int) < 2 := by omega
      obtain ⟨h, X1, X2, X3, f1, f2, f3, ji, jl, ja, jg, HH, hcells⟩ := half_ok a b A1 A2 A3 B1 B2 B3 c1 c2 c3 d1 d2 d3 w ha hb hva hvb i hlt
      have y0 : wr.cell? ⟨w6.heap.size, i * 8, none⟩ = some (.int .i64 h.ins) := (qh.cell (k := i * 8 + 0) (by omega)).trans (congrArg some (((getD_ar _ _).trans (hcells 0 (by omega))).trans rfl))
      have y1 : wr.cell? ⟨w6.heap.size, i * 8 + 1, none⟩ = some (.slice X1 h.n1 f1) := (qh.cell (k := i * 8 + 1) (by omega)).trans (congrArg some (((getD_ar _ _).trans (hcells 1 (by omega))).trans rfl))
      have y2 : wr.cell? ⟨w6.heap.size, i * 8 + 2, none⟩ = some (.slice X2 h.n2 f2) := (qh.cell (k := i * 8 + 2) (by omega)).trans (congrArg some (((getD_ar _ _).trans (hcells 2 (by omega))).trans rfl))
      have y3 : wr.cell? ⟨w6.heap.size, i * 8 + 3, none⟩ = some (.slice X3 h.n3 f3) := (qh.cell (k := i * 8 + 3) (by omega)).trans (congrArg some (((getD_ar _ _).trans (hcells 3 (by omega))).trans rfl))
      have y4 : wr.cell? ⟨w6.heap.size, i * 8 + 4, none⟩ = some (.int .i64 ji) := (qh.cell (k := i * 8 + 4) (by omega)).trans (congrArg some (((getD_ar _ _).trans (hcells 4 (by omega))).trans rfl))
      have y5 : wr.cell? ⟨w6.heap.size, i * 8 + 5, none⟩ = some (.int .i64 jl) := (qh.cell (k := i * 8 + 5) (by omega)).trans (congrArg some (((getD_ar _ _).trans (hcells 5 (by omega))).trans rfl))
      have y6 : wr.cell? ⟨w6.heap.size, i * 8 + 6, none⟩ = some (.int .i64 ja) := (qh.cell (k := i * 8 + 6) (by omega)).trans (congrArg some (((getD_ar _ _).trans (hcells 6 (by omega))).trans rfl))
      have y7 : wr.cell? ⟨w6.heap.size, i * 8 + 7, none⟩ = some (.int .i64 jg) := (qh.cell (k := i * 8 + 7) (by omega)).trans (congrArg some (((getD_ar _ _).trans (hcells 7 (by omega))).trans rfl))
      clear hcells
      have hst1 : st a.n1 b.n1 i ≤ 12000 ∧ st a.n2 b.n2 i ≤ 120000 ∧ st a.n3 b.n3 i ≤ 120000 := by (obtain rfl | rfl : i = 0 ∨ i = 1 := by omega) <;> simp only [st] <;> omega
      obtain ⟨hst1, hst2, hst3⟩ := hst1
      obtain ⟨hv1, hv2, hv3, hv4, hv5⟩ := HH.valid.small
      go_wp2_with fail
      have qk : Arr (wr.alloc (.cells #[.int .i64 h.ins, .slice X1 h.n1 f1, .slice X2 h.n2 f2, .slice X3 h.n3 f3, .int .i64 ji, .int .i64 jl, .int .i64 ja, .int .i64 jg] 90)) wr.heap.size 90 8 (fun j => (halfV h X1 X2 X3 f1 f2 f3 ji jl ja jg).toArray.getD j undef) := Arr.new wr (halfV h X1 X2 X3 f1 f2 f3 ji jl ja jg).toArray 90
      replace H := H.alloc (.cells #[.int .i64 h.ins, .slice X1 h.n1 f1, .slice X2 h.n2 f2, .slice X3 h.n3 f3, .int .i64 ji, .int .i64 jl, .int .i64 ja, .int .i64 jg] 90)
      replace qh := qh.alloc (.cells #[.int .i64 h.ins, .slice X1 h.n1 f1, .slice X2 h.n2 f2, .slice X3 h.n3 f3, .int .i64 ji, .int .i64 jl, .int .i64 ja, .int .i64 jg] 90)
      clear y0 y1 y2 y3 y4 y5 y6 y7
      have hbk : w6.heap.size ≤ wr.heap.size := by omega
      generalize wr.alloc (.cells #[.int .i64 h.ins, .slice X1 h.n1 f1, .slice X2 h.n2 f2, .slice X3 h.n3 f3, .int .i64 ji, .int .i64 jl, .int .i64 ja, .int .i64 jg] 90) = wv at *
      clear hszr
      generalize wr.heap.size = bk at *
      go_loopw [62] (fun ix wi => ∃ (k : Nat) (Q : Option Addr) (q : Nat), k ≤ h.n1 ∧ ix = .int .i64 k ∧ JAt (joint a b) w6 wi (w.heap.size + 1 + 1 + 1 + 1 + 1) (st a.n1 b.n1 i + k) (0) (0) Q none none q 0 0 ∧ Arr wi (w6.heap.size) 90 16 (fun j => (halvesV a b A1 A2 A3 B1 B2 B3 c1 c2 c3 d1 d2 d3).toArray.getD j undef) ∧ Arr wi bk 90 8 (fun j => (halfV h X1 X2 X3 f1 f2 f3 ji jl ja jg).toArray.getD j undef)) (fun ix _ => h.n1 - (intOf ix).toNat)
      case atStart => exact ⟨0, _, _, by omega, rfl, H, qh, qk⟩
      case round =>
        clear H qh qk
        obtain ⟨k, Q, q, hk, rfl, H, qh, qk⟩ := hrel
        have HBr := Lib.hid (HBL.out.trans (H.only.below (B := w.heap.size) (fun j _ c => by omega) (by omega)))
        have hszr := H.size
        obtain ⟨p0, p1, p2, p3⟩ := H.box.at_
        have j4 := qk.cell (k := 4) (by omega)
        have j5 := qk.cell (k := 5) (by omega)
        have j6 := qk.cell (k := 6) (by omega)
        have j7 := qk.cell (k := 7) (by omega)
        simp only [halfV] at j4 j5 j6 j7
        by_cases hlk : k < h.n1
        · have hkk : (k : Int) < h.n1 := by omega
          obtain ⟨bb, oo, hA, x0, x1⟩ := (HH.at_.lat.keeps (Keeps.of_below HBr.out)).at2 hlk
          simp only [two] at x0 x1
          subst hA
          have hok := HH.valid.lat k hlk
          unfold G.LitOk at hok
          obtain ⟨l, hl⟩ := Int.eq_ofNat_of_zero_le hok.1
          have HL := Lib.hid (HH.L k hlk l hl)
          have HI := Lib.hid (HH.I k hlk)
          have hhv := HH.valid.small
          have hhn := HH.valid.n
          have hlb : l ≤ 1000000000000 := by omega
          rw [hl] at x0
          clear hl hok
          have HCB := Lib.hid (show (st a.n1 b.n1 i + k + 1) * 16 ≤ 140737488355328 by omega)
          clear hhv hhn
          go_upto_region 10 with (fail)
          have z0 := (BoxAt.new wr [.int .i64 l, .bool (h.I k)] 70) 0 _ rfl
          have z1 := (BoxAt.new wr [.int .i64 l, .bool (h.I k)] 70) 1 _ rfl
          replace p1 := Keeps.alloc wr (.cells #[.int .i64 l, .bool (h.I k)] 70) _ _ p1
          replace j4 := Keeps.alloc wr (.cells #[.int .i64 l, .bool (h.I k)] 70) _ _ j4
          replace j5 := Keeps.alloc wr (.cells #[.int .i64 l, .bool (h.I k)] 70) _ _ j5
          replace j6 := Keeps.alloc wr (.cells #[.int .i64 l, .bool (h.I k)] 70) _ _ j6
          replace j7 := Keeps.alloc wr (.cells #[.int .i64 l, .bool (h.I k)] 70) _ _ j7
          have HA0 := H.alloc (.cells #[.int .i64 l, .bool (h.I k)] 70)
          replace qh := qh.alloc (.cells #[.int .i64 l, .bool (h.I k)] 70)
          replace qk := qk.alloc (.cells #[.int .i64 l, .bool (h.I k)] 70)
          generalize wr.alloc (.cells #[.int .i64 l, .bool (h.I k)] 70) = wn at *
          generalize wr.heap.size = nb at *
          refine wp_region_z (fun w' => w'.cell? ⟨w.heap.size + 1 + 1 + 1 + 1 + 1, 1, none⟩ = some (.slice Q (st a.n1 b.n1 i + k) q) ∧ w'.cell? ⟨bk, 4, none⟩ = some (.int .i64 ji) ∧ w'.cell? ⟨bk, 5, none⟩ = some (.int .i64 jl) ∧ w'.cell? ⟨bk, 6, none⟩ = some (.int .i64 ja) ∧ w'.cell? ⟨bk, 7, none⟩ = some (.int .i64 jg) ∧ w'.cell? ⟨nb, 0, none⟩ = some (.int .i64 l) ∧ w'.cell? ⟨nb, 1, none⟩ = some (.bool (h.I k))) [0, 1, 2, 3, 4, 5, 7, 8] [11, 12, 13] (by kernel_rfl) (by kernel_rfl) (by kernel_rfl) (by rfl) (fun _ _ _ _ e h => ⟨e.symm.trans h.1, h.2⟩) ⟨p1, j4, j5, j6, j7, z0, z1⟩ ?_
          iterate 8
            refine Heads.step (v := ?_) rfl (by rfl) (fun W hW => ?_) ?_
            rotate_left
            · (obtain ⟨s0, s1, s2, s3, s4, s5, s6⟩ := hW; go_simp; try with_reducible rfl)
          refine AnyZ.one (i := 6) (by kernel_rfl) rfl (fun K hK => ?_)
          go_simp
          refine (lit_any ji jl ja jg l _ (by have := HH.bi; omega) (by have := HH.bl; omega) (by have := HH.ba; omega) (by have := HH.bg; omega) hlb).mono ?_
          rintro e wa ⟨rfl, hbwa⟩
          have kp := Keeps.of_below hbwa
          replace p1 := kp _ _ p1
          replace j4 := kp _ _ j4
          replace j5 := kp _ _ j5
          replace j6 := kp _ _ j6
          replace j7 := kp _ _ j7
          replace z0 := kp _ _ z0
          replace z1 := kp _ _ z1
          clear kp
          refine hK _ _ (fun _ => ⟨p1, j4, j5, j6, j7, z0, z1⟩) ?_
          clear hK
          have HA := HA0.drew.call hbwa
          replace qh := Arr.below (w := wn.drew) qh hbwa
          replace qk := Arr.below (w := wn.drew) qk hbwa
          refine AnyZ.one (i := 9) (by kernel_rfl) rfl (fun K hK => ?_)
          go_simp
          refine hK _ _ (fun _ => ⟨p1, j4, j5, j6, j7, z0, z1⟩) ?_
          clear hK
          refine AnyZ.one (i := 10) (by kernel_rfl) rfl (fun K hK => ?_)
          go_simp
          refine hK _ _ (fun _ => ⟨Keeps.alloc _ _ _ _ p1, Keeps.alloc _ _ _ _ j4, Keeps.alloc _ _ _ _ j5, Keeps.alloc _ _ _ _ j6, Keeps.alloc _ _ _ _ j7, Keeps.alloc _ _ _ _ z0, Keeps.alloc _ _ _ _ z1⟩) ?_
          clear hK
          have HAA := HA.alloc (.cells #[.int .i64 (mvJ ji jl ja jg l : Nat), .bool (h.I k)] 70)
          replace qh := qh.alloc (.cells #[.int .i64 (mvJ ji jl ja jg l : Nat), .bool (h.I k)] 70)
          replace qk := qk.alloc (.cells #[.int .i64 (mvJ ji jl ja jg l : Nat), .bool (h.I k)] 70)
          refine AnyZ.one (i := 11) (by kernel_rfl) rfl (fun K hK => ?_)
          refine step_append (by rfl) (.tmp 67) (.tmp 76) _ (by rfl) elLatchJ w6.heap.size Q (st a.n1 b.n1 i + k) q _ (by rfl) HAA.r1 _ 1 1 [.int .i64 (mvJ ji jl ja jg l : Nat), .bool (h.I k)] (by rfl) (src_news wa #[.int .i64 (mvJ ji jl ja jg l : Nat), .bool (h.I k)] 70 2 1 rfl (by simp [Value.oneCell'])) HCB.out (by have := HA.size; simp; omega) ?_
          intro Q' q' w8 ho hk' hb'
          have hba := own_base HAA.r1
          replace qh := (qh.step HAA.r1 (by decide) hk')
          replace qk := (qk.step HAA.r1 (by decide) hk')
          have hb8 : GBox w8 (w.heap.size + 1 + 1 + 1 + 1 + 1) (.int .i64 (joint a b).ins) (.slice Q (st a.n1 b.n1 i + k) q) (.slice none (0) 0) (.slice none (0) 0) := Arr.only HAA.box hk' (fun c => by have := hba _ c; omega)
          have f8 : w8.frozen? ⟨w.heap.size + 1 + 1 + 1 + 1 + 1, 1, none⟩ = false := Arr.thaw hb8 1
          have p8 : w8.cell? ⟨w.heap.size + 1 + 1 + 1 + 1 + 1, 1, none⟩ = some (.slice Q (st a.n1 b.n1 i + k) q) := hb8.at_.2.1
          have H8 := HAA.push1 hk' ho HL.out HI.out
          refine hK _ _ (fun h => by cases h) ?_
          clear hK hb8 ho hk' hb'
          refine AnyZ.one (i := 12) (by kernel_rfl) rfl (fun K hK => ?_)
          go_simp
          refine hK _ _ (fun h => by cases h) ?_
          clear hK
          refine AnyZ.one (i := 13) (by kernel_rfl) rfl (fun K hK => ?_)
          go_simp
          refine hK _ _ (fun h => by cases h) (AnyZ.done (by kernel_rfl) ?_)
          clear hK
          replace qh := Arr.put_far (b := w.heap.size + 1 + 1 + 1 + 1 + 1) (i := 1) (v := .slice Q' (st a.n1 b.n1 i + k + 1) q') qh (by omega)
          replace qk := Arr.put_far (b := w.heap.size + 1 + 1 + 1 + 1 + 1) (i := 1) (v := .slice Q' (st a.n1 b.n1 i + k + 1) q') qk (by omega)
          go_wp2_with fail
          go_roundw
          case rel => exact ⟨k + 1, Q', q', by omega, by go_num, H8, qh, qk⟩
          case measure => simp [intOf]; omega
        · obtain rfl : k = h.n1 := by omega
          rw [← HH.s1] at H
          clear p0 p1 p2 p3 j4 j5 j6 j7
          go_wp2_with fail
          go_roundw
          case rel => exact ⟨i + 1, Q, q, by omega, by go_num, H, qh⟩
          case measure => simp [intOf]; omega
    · obtain rfl : i = 2 := by omega
      rw [show ((2 : Nat) : Int) = 2 from rfl]
      replace H : JAt (joint a b) w6 wr (w.heap.size + 1 + 1 + 1 + 1 + 1) (a.n1 + b.n1) (0) (0) Q1 none none q1 0 0 := H
      clear qh
      obtain ⟨g0, g1, g2, g3⟩ := (H.only.box qa (by omega)).four
      obtain ⟨e0, e1, e2, e3⟩ := (H.only.box qb (by omega)).four
      obtain ⟨x0, x1, x2, x3⟩ := (H.only.box qx (by omega)).four
      obtain ⟨y0, y1, y2, y3⟩ := (H.only.box qy (by omega)).four
      go_wp2_with fail
      clear g0 g1 g2 g3 e0 e1 e2 e3 x0 x1 x2 x3 y0 y1 y2 y3
      have qh : Arr (wr.alloc (.cells #[.int .i64 a.ins, .slice A1 a.n1 c1, .slice A2 a.n2 c2, .slice A3 a.n3 c3, .int .i64 a.ins, .int .i64 a.n1, .int .i64 0, .int .i64 b.n1, .int .i64 b.ins, .slice B1 b.n1 d1, .slice B2 b.n2 d2, .slice B3 b.n3 d3, .int .i64 b.ins, .int .i64 b.n1, .int .i64 a.n1, .int .i64 ((a.n1 : Int) + a.n2)] 90)) wr.heap.size 90 16 (fun j => (halvesV a b A1 A2 A3 B1 B2 B3 c1 c2 c3 d1 d2 d3).toArray.getD j undef) := Arr.new wr (halvesV a b A1 A2 A3 B1 B2 B3 c1 c2 c3 d1 d2 d3).toArray 90
      have H1 := JAt.alloc H (.cells #[.int .i64 a.ins, .slice A1 a.n1 c1, .slice A2 a.n2 c2, .slice A3 a.n3 c3, .int .i64 a.ins, .int .i64 a.n1, .int .i64 0, .int .i64 b.n1, .int .i64 b.ins, .slice B1 b.n1 d1, .slice B2 b.n2 d2, .slice B3 b.n3 d3, .int .i64 b.ins, .int .i64 b.n1, .int .i64 a.n1, .int .i64 ((a.n1 : Int) + a.n2)] 90)
      have hzn : (wr.alloc (.cells #[.int .i64 a.ins, .slice A1 a.n1 c1, .slice A2 a.n2 c2, .slice A3 a.n3 c3, .int .i64 a.ins, .int .i64 a.n1, .int .i64 0, .int .i64 b.n1, .int .i64 b.ins, .slice B1 b.n1 d1, .slice B2 b.n2 d2, .slice B3 b.n3 d3, .int .i64 b.ins, .int .i64 b.n1, .int .i64 a.n1, .int .i64 ((a.n1 : Int) + a.n2)] 90)).heap.size = wr.heap.size + 1 := by simp
      generalize wr.alloc (.cells #[.int .i64 a.ins, .slice A1 a.n1 c1, .slice A2 a.n2 c2, .slice A3 a.n3 c3, .int .i64 a.ins, .int .i64 a.n1, .int .i64 0, .int .i64 b.n1, .int .i64 b.ins, .slice B1 b.n1 d1, .slice B2 b.n2 d2, .slice B3 b.n3 d3, .int .i64 b.ins, .int .i64 b.n1, .int .i64 a.n1, .int .i64 ((a.n1 : Int) + a.n2)] 90) = w8 at *
      have hhb : w6.heap.size ≤ wr.heap.size := by omega
      clear H hzn hszr
      generalize wr.heap.size = hb2 at *
      go_loopw [89] (fun ix wi => ∃ (i : Nat) (Q2 : Option Addr) (q2 : Nat) (Q3 : Option Addr) (q3 : Nat), i ≤ 2 ∧ ix = .int .i64 i ∧ JAt (joint a b) w6 wi (w.heap.size + 1 + 1 + 1 + 1 + 1) (a.n1 + b.n1) (st a.n2 b.n2 i) (st a.n3 b.n3 i) Q1 Q2 Q3 q1 q2 q3 ∧ Arr wi (hb2) 90 16 (fun j => (halvesV a b A1 A2 A3 B1 B2 B3 c1 c2 c3 d1 d2 d3).toArray.getD j undef)) (fun ix _ => 2 - (intOf ix).toNat)
      case atStart => exact ⟨0, none, 0, none, 0, by omega, rfl, H1, qh⟩
      case round =>
        clear H1 qh
        obtain ⟨i, Q2, q2, Q3, q3, hi, rfl, H, qh⟩ := hrel
        have hszr := H.size
        by_cases hlt : i < 2
        · have hii : (i : Int) < 2 := by omega
          obtain ⟨h, X1, X2, X3, f1, f2, f3, ji, jl, ja, jg, HH, hcells⟩ := half_ok a b A1 A2 A3 B1 B2 B3 c1 c2 c3 d1 d2 d3 w ha hb hva hvb i hlt
          have y0 : wr.cell? ⟨hb2, i * 8, none⟩ = some (.int .i64 h.ins) := (qh.cell (k := i * 8 + 0) (by omega)).trans (congrArg some (((getD_ar _ _).trans (hcells 0 (by omega))).trans rfl))
          have y1 : wr.cell? ⟨hb2, i * 8 + 1, none⟩ = some (.slice X1 h.n1 f1) := (qh.cell (k := i * 8 + 1) (by omega)).trans (congrArg some (((getD_ar _ _).trans (hcells 1 (by omega))).trans rfl))
          have y2 : wr.cell? ⟨hb2, i * 8 + 2, none⟩ = some (.slice X2 h.n2 f2) := (qh.cell (k := i * 8 + 2) (by omega)).trans (congrArg some (((getD_ar _ _).trans (hcells 2 (by omega))).trans rfl))
          have y3 : wr.cell? ⟨hb2, i * 8 + 3, none⟩ = some (.slice X3 h.n3 f3) := (qh.cell (k := i * 8 + 3) (by omega)).trans (congrArg some (((getD_ar _ _).trans (hcells 3 (by omega))).trans rfl))
          have y4 : wr.cell? ⟨hb2, i * 8 + 4, none⟩ = some (.int .i64 ji) := (qh.cell (k := i * 8 + 4) (by omega)).trans (congrArg some (((getD_ar _ _).trans (hcells 4 (by omega))).trans rfl))
          have y5 : wr.cell? ⟨hb2, i * 8 + 5, none⟩ = some (.int .i64 jl) := (qh.cell (k := i * 8 + 5) (by omega)).trans (congrArg some (((getD_ar _ _).trans (hcells 5 (by omega))).trans rfl))
          have y6 : wr.cell? ⟨hb2, i * 8 + 6, none⟩ = some (.int .i64 ja) := (qh.cell (k := i * 8 + 6) (by omega)).trans (congrArg some (((getD_ar _ _).trans (hcells 6 (by omega))).trans rfl))
          have y7 : wr.cell? ⟨hb2, i * 8 + 7, none⟩ = some (.int .i64 jg) := (qh.cell (k := i * 8 + 7) (by omega)).trans (congrArg some (((getD_ar _ _).trans (hcells 7 (by omega))).trans rfl))
          clear hcells
          have hst1 : st a.n1 b.n1 i ≤ 12000 ∧ st a.n2 b.n2 i ≤ 120000 ∧ st a.n3 b.n3 i ≤ 120000 := by (obtain rfl | rfl : i = 0 ∨ i = 1 := by omega) <;> simp only [st] <;> omega
          obtain ⟨hst1, hst2, hst3⟩ := hst1
          obtain ⟨hv1, hv2, hv3, hv4, hv5⟩ := HH.valid.small
          go_wp2_with fail
          have qk : Arr (wr.alloc (.cells #[.int .i64 h.ins, .slice X1 h.n1 f1, .slice X2 h.n2 f2, .slice X3 h.n3 f3, .int .i64 ji, .int .i64 jl, .int .i64 ja, .int .i64 jg] 90)) wr.heap.size 90 8 (fun j => (halfV h X1 X2 X3 f1 f2 f3 ji jl ja jg).toArray.getD j undef) := Arr.new wr (halfV h X1 X2 X3 f1 f2 f3 ji jl ja jg).toArray 90
          replace H := H.alloc (.cells #[.int .i64 h.ins, .slice X1 h.n1 f1, .slice X2 h.n2 f2, .slice X3 h.n3 f3, .int .i64 ji, .int .i64 jl, .int .i64 ja, .int .i64 jg] 90)
          replace qh := qh.alloc (.cells #[.int .i64 h.ins, .slice X1 h.n1 f1, .slice X2 h.n2 f2, .slice X3 h.n3 f3, .int .i64 ji, .int .i64 jl, .int .i64 ja, .int .i64 jg] 90)
          clear y0 y1 y2 y3 y4 y5 y6 y7
          have hbk : w6.heap.size ≤ wr.heap.size := by omega
          generalize wr.alloc (.cells #[.int .i64 h.ins, .slice X1 h.n1 f1, .slice X2 h.n2 f2, .slice X3 h.n3 f3, .int .i64 ji, .int .i64 jl, .int .i64 ja, .int .i64 jg] 90) = wv at *
          clear hszr
          generalize wr.heap.size = bk at *
          go_loopw [97] (fun ix wi => ∃ (k : Nat) (Q : Option Addr) (q : Nat), k ≤ h.n2 ∧ ix = .int .i64 k ∧ JAt (joint a b) w6 wi (w.heap.size + 1 + 1 + 1 + 1 + 1) (a.n1 + b.n1) (st a.n2 b.n2 i + k) (st a.n3 b.n3 i) Q1 Q Q3 q1 q q3 ∧ Arr wi (hb2) 90 16 (fun j => (halvesV a b A1 A2 A3 B1 B2 B3 c1 c2 c3 d1 d2 d3).toArray.getD j undef) ∧ Arr wi bk 90 8 (fun j => (halfV h X1 X2 X3 f1 f2 f3 ji jl ja jg).toArray.getD j undef)) (fun ix _ => h.n2 - (intOf ix).toNat)
          case atStart => exact ⟨0, _, _, by omega, rfl, H, qh, qk⟩
          case round =>
            clear H qh qk
            obtain ⟨k, Q, q, hk, rfl, H, qh, qk⟩ := hrel
            have HBr := Lib.hid (HBL.out.trans (H.only.below (B := w.heap.size) (fun j _ c => by omega) (by omega)))
            have hszr := H.size
            obtain ⟨p0, p1, p2, p3⟩ := H.box.at_
            have j4 := qk.cell (k := 4) (by omega)
            have j5 := qk.cell (k := 5) (by omega)
            have j6 := qk.cell (k := 6) (by omega)
            have j7 := qk.cell (k := 7) (by omega)
            simp only [halfV] at j4 j5 j6 j7
            by_cases hlk : k < h.n2
            · have hkk : (k : Int) < h.n2 := by omega
              obtain ⟨bb, oo, hA, x0, x1⟩ := (HH.at_.ands.keeps (Keeps.of_below HBr.out)).at2 hlk
              simp only [two] at x0 x1
              subst hA
              have hok := HH.valid.ands k hlk
              unfold G.AndOk at hok
              obtain ⟨l, hl⟩ := Int.eq_ofNat_of_zero_le hok.1.1
              obtain ⟨m, hm⟩ := Int.eq_ofNat_of_zero_le hok.2.1
              have HL := Lib.hid (HH.X k hlk l hl)
              have HM := Lib.hid (HH.Y k hlk m hm)
              have hhv := HH.valid.small
              have hhn := HH.valid.n
              have hlb : l ≤ 1000000000000 := by omega
              have hmb : m ≤ 1000000000000 := by omega
              rw [hl] at x0
              rw [hm] at x1
              clear hl hok hm
              have HCB := Lib.hid (show (st a.n2 b.n2 i + k + 1) * 16 ≤ 140737488355328 by omega)
              clear hhv hhn
              go_upto_region 19 with (fail)
              have z0 := (BoxAt.new wr [.int .i64 l, .int .i64 m] 49) 0 _ rfl
              have z1 := (BoxAt.new wr [.int .i64 l, .int .i64 m] 49) 1 _ rfl
              replace p2 := Keeps.alloc wr (.cells #[.int .i64 l, .int .i64 m] 49) _ _ p2
              replace j4 := Keeps.alloc wr (.cells #[.int .i64 l, .int .i64 m] 49) _ _ j4
              replace j5 := Keeps.alloc wr (.cells #[.int .i64 l, .int .i64 m] 49) _ _ j5
              replace j6 := Keeps.alloc wr (.cells #[.int .i64 l, .int .i64 m] 49) _ _ j6
              replace j7 := Keeps.alloc wr (.cells #[.int .i64 l, .int .i64 m] 49) _ _ j7
              have HA0 := H.alloc (.cells #[.int .i64 l, .int .i64 m] 49)
              replace qh := qh.alloc (.cells #[.int .i64 l, .int .i64 m] 49)
              replace qk := qk.alloc (.cells #[.int .i64 l, .int .i64 m] 49)
              generalize wr.alloc (.cells #[.int .i64 l, .int .i64 m] 49) = wn at *
              generalize wr.heap.size = nb at *
              refine wp_region_z (fun w' => w'.cell? ⟨w.heap.size + 1 + 1 + 1 + 1 + 1, 2, none⟩ = some (.slice Q (st a.n2 b.n2 i + k) q) ∧ w'.cell? ⟨bk, 4, none⟩ = some (.int .i64 ji) ∧ w'.cell? ⟨bk, 5, none⟩ = some (.int .i64 jl) ∧ w'.cell? ⟨bk, 6, none⟩ = some (.int .i64 ja) ∧ w'.cell? ⟨bk, 7, none⟩ = some (.int .i64 jg) ∧ w'.cell? ⟨nb, 0, none⟩ = some (.int .i64 l) ∧ w'.cell? ⟨nb, 1, none⟩ = some (.int .i64 m)) [0, 1, 2, 3, 4, 5, 7, 8, 9, 10] [14, 15, 16] (by kernel_rfl) (by kernel_rfl) (by kernel_rfl) (by rfl) (fun _ _ _ _ e h => ⟨e.symm.trans h.1, h.2⟩) ⟨p2, j4, j5, j6, j7, z0, z1⟩ ?_
              iterate 10
                refine Heads.step (v := ?_) rfl (by rfl) (fun W hW => ?_) ?_
                rotate_left
                · (obtain ⟨s0, s1, s2, s3, s4, s5, s6⟩ := hW; go_simp; try with_reducible rfl)
              refine AnyZ.one (i := 6) (by kernel_rfl) rfl (fun K hK => ?_)
              go_simp
              refine (lit_any ji jl ja jg l _ (by have := HH.bi; omega) (by have := HH.bl; omega) (by have := HH.ba; omega) (by have := HH.bg; omega) hlb).mono ?_
              rintro e wa ⟨rfl, hbwa⟩
              have kp := Keeps.of_below hbwa
              replace p2 := kp _ _ p2
              replace j4 := kp _ _ j4
              replace j5 := kp _ _ j5
              replace j6 := kp _ _ j6
              replace j7 := kp _ _ j7
              replace z0 := kp _ _ z0
              replace z1 := kp _ _ z1
              clear kp
              refine hK _ _ (fun _ => ⟨p2, j4, j5, j6, j7, z0, z1⟩) ?_
              clear hK
              have HA := HA0.drew.call hbwa
              replace qh := Arr.below (w := wn.drew) qh hbwa
              replace qk := Arr.below (w := wn.drew) qk hbwa
              refine AnyZ.one (i := 11) (by kernel_rfl) rfl (fun K hK => ?_)
              go_simp
              refine (lit_any ji jl ja jg m _ (by have := HH.bi; omega) (by have := HH.bl; omega) (by have := HH.ba; omega) (by have := HH.bg; omega) hmb).mono ?_
              rintro e wb ⟨rfl, hbwb⟩
              have kp := Keeps.of_below hbwb
              replace p2 := kp _ _ p2
              replace j4 := kp _ _ j4
              replace j5 := kp _ _ j5
              replace j6 := kp _ _ j6
              replace j7 := kp _ _ j7
              replace z0 := kp _ _ z0
              replace z1 := kp _ _ z1
              clear kp
              refine hK _ _ (fun _ => ⟨p2, j4, j5, j6, j7, z0, z1⟩) ?_
              clear hK
              replace HA := HA.call hbwb
              replace qh := Arr.below (w := wa) qh hbwb
              replace qk := Arr.below (w := wa) qk hbwb
              refine AnyZ.one (i := 12) (by kernel_rfl) rfl (fun K hK => ?_)
              go_simp
              refine hK _ _ (fun _ => ⟨p2, j4, j5, j6, j7, z0, z1⟩) ?_
              clear hK
              refine AnyZ.one (i := 13) (by kernel_rfl) rfl (fun K hK => ?_)
              go_simp
              refine hK _ _ (fun _ => ⟨Keeps.alloc _ _ _ _ p2, Keeps.alloc _ _ _ _ j4, Keeps.alloc _ _ _ _ j5, Keeps.alloc _ _ _ _ j6, Keeps.alloc _ _ _ _ j7, Keeps.alloc _ _ _ _ z0, Keeps.alloc _ _ _ _ z1⟩) ?_
              clear hK
              have HAA := HA.alloc (.cells #[.int .i64 (mvJ ji jl ja jg l : Nat), .int .i64 (mvJ ji jl ja jg m : Nat)] 49)
              replace qh := qh.alloc (.cells #[.int .i64 (mvJ ji jl ja jg l : Nat), .int .i64 (mvJ ji jl ja jg m : Nat)] 49)
              replace qk := qk.alloc (.cells #[.int .i64 (mvJ ji jl ja jg l : Nat), .int .i64 (mvJ ji jl ja jg m : Nat)] 49)
              refine AnyZ.one (i := 14) (by kernel_rfl) rfl (fun K hK => ?_)
              refine step_append (by rfl) (.tmp 102) (.tmp 114) _ (by rfl) elPairJ w6.heap.size Q (st a.n2 b.n2 i + k) q _ (by rfl) HAA.r2 _ 1 1 [.int .i64 (mvJ ji jl ja jg l : Nat), .int .i64 (mvJ ji jl ja jg m : Nat)] (by rfl) (src_news wb #[.int .i64 (mvJ ji jl ja jg l : Nat), .int .i64 (mvJ ji jl ja jg m : Nat)] 49 2 1 rfl (by simp [Value.oneCell'])) HCB.out (by have := HA.size; simp; omega) ?_
              intro Q' q' w8 ho hk' hb'
              have hba := own_base HAA.r2
              replace qh := (qh.step HAA.r2 (by decide) hk')
              replace qk := (qk.step HAA.r2 (by decide) hk')
              have hb8 : GBox w8 (w.heap.size + 1 + 1 + 1 + 1 + 1) (.int .i64 (joint a b).ins) (.slice Q1 (a.n1 + b.n1) q1) (.slice Q (st a.n2 b.n2 i + k) q) (.slice Q3 (st a.n3 b.n3 i) q3) := Arr.only HAA.box hk' (fun c => by have := hba _ c; omega)
              have f8 : w8.frozen? ⟨w.heap.size + 1 + 1 + 1 + 1 + 1, 2, none⟩ = false := Arr.thaw hb8 2
              have p8 : w8.cell? ⟨w.heap.size + 1 + 1 + 1 + 1 + 1, 2, none⟩ = some (.slice Q (st a.n2 b.n2 i + k) q) := hb8.at_.2.2.1
              have H8 := HAA.push2 hk' ho HL.out HM.out
              refine hK _ _ (fun h => by cases h) ?_
              clear hK hb8 ho hk' hb'
              refine AnyZ.one (i := 15) (by kernel_rfl) rfl (fun K hK => ?_)
              go_simp
              refine hK _ _ (fun h => by cases h) ?_
              clear hK
              refine AnyZ.one (i := 16) (by kernel_rfl) rfl (fun K hK => ?_)
              go_simp
              refine hK _ _ (fun h => by cases h) (AnyZ.done (by kernel_rfl) ?_)
              clear hK
              replace qh := Arr.put_far (b := w.heap.size + 1 + 1 + 1 + 1 + 1) (i := 2) (v := .slice Q' (st a.n2 b.n2 i + k + 1) q') qh (by omega)
              replace qk := Arr.put_far (b := w.heap.size + 1 + 1 + 1 + 1 + 1) (i := 2) (v := .slice Q' (st a.n2 b.n2 i + k + 1) q') qk (by omega)
              go_wp2_with fail
              go_roundw
              case rel => exact ⟨k + 1, Q', q', by omega, by go_num, H8, qh, qk⟩
              case measure => simp [intOf]; omega
            · obtain rfl : k = h.n2 := by omega
              rw [← HH.s2] at H
              clear p0 p1 p2 p3 j4 j5 j6 j7
              obtain ⟨Qn, hQ⟩ : ∃ x, x = Q := ⟨_, rfl⟩
              obtain ⟨qn, hq⟩ : ∃ x, x = q := ⟨_, rfl⟩
              rw [← hQ, ← hq] at H
              clear hQ hq Q q
              have j3 := qk.cell (k := 3) (by omega)
              simp only [halfV] at j3
              go_wp2_with fail
              clear j3
              clear hszr
              go_loopw [122] (fun ix wi => ∃ (k : Nat) (Q : Option Addr) (q : Nat), k ≤ h.n3 ∧ ix = .int .i64 k ∧ JAt (joint a b) w6 wi (w.heap.size + 1 + 1 + 1 + 1 + 1) (a.n1 + b.n1) (st a.n2 b.n2 (i + 1)) (st a.n3 b.n3 i + k) Q1 Qn Q q1 qn q ∧ Arr wi (hb2) 90 16 (fun j => (halvesV a b A1 A2 A3 B1 B2 B3 c1 c2 c3 d1 d2 d3).toArray.getD j undef) ∧ Arr wi bk 90 8 (fun j => (halfV h X1 X2 X3 f1 f2 f3 ji jl ja jg).toArray.getD j undef)) (fun ix _ => h.n3 - (intOf ix).toNat)
              case atStart => exact ⟨0, _, _, by omega, rfl, H, qh, qk⟩
              case round =>
                clear H qh qk
                obtain ⟨k, Q, q, hk, rfl, H, qh, qk⟩ := hrel
                have HBr := Lib.hid (HBL.out.trans (H.only.below (B := w.heap.size) (fun j _ c => by omega) (by omega)))
                have hszr := H.size
                obtain ⟨p0, p1, p2, p3⟩ := H.box.at_
                have j4 := qk.cell (k := 4) (by omega)
                have j5 := qk.cell (k := 5) (by omega)
                have j6 := qk.cell (k := 6) (by omega)
                have j7 := qk.cell (k := 7) (by omega)
                simp only [halfV] at j4 j5 j6 j7
                by_cases hlk : k < h.n3
                · have hkk : (k : Int) < h.n3 := by omega
                  obtain ⟨bb, oo, hA, x0⟩ := (HH.at_.outs.keeps (Keeps.of_below HBr.out)).at_ hlk
                  subst hA
                  have hok := HH.valid.outs k hlk
                  unfold G.LitOk at hok
                  obtain ⟨l, hl⟩ := Int.eq_ofNat_of_zero_le hok.1
                  have HL := Lib.hid (HH.O k hlk l hl)
                  have hhv := HH.valid.small
                  have hhn := HH.valid.n
                  have hlb : l ≤ 1000000000000 := by omega
                  rw [hl] at x0
                  clear hl hok
                  have HCB := Lib.hid (show (st a.n3 b.n3 i + k + 1) * 8 ≤ 140737488355328 by omega)
                  clear hhv hhn
                  go_upto_region 24 with (fail)
                  have HA0 := H
                  refine wp_region_z (fun w' => w'.cell? ⟨w.heap.size + 1 + 1 + 1 + 1 + 1, 3, none⟩ = some (.slice Q (st a.n3 b.n3 i + k) q) ∧ w'.cell? ⟨bk, 4, none⟩ = some (.int .i64 ji) ∧ w'.cell? ⟨bk, 5, none⟩ = some (.int .i64 jl) ∧ w'.cell? ⟨bk, 6, none⟩ = some (.int .i64 ja) ∧ w'.cell? ⟨bk, 7, none⟩ = some (.int .i64 jg)) [0, 1, 2, 3, 4] [7, 8, 9] (by kernel_rfl) (by kernel_rfl) (by kernel_rfl) (by rfl) (fun _ _ _ _ e h => ⟨e.symm.trans h.1, h.2⟩) ⟨p3, j4, j5, j6, j7⟩ ?_
                  iterate 5
                    refine Heads.step (v := ?_) rfl (by rfl) (fun W hW => ?_) ?_
                    rotate_left
                    · (obtain ⟨s0, s1, s2, s3, s4⟩ := hW; go_simp; try with_reducible rfl)
                  refine AnyZ.one (i := 5) (by kernel_rfl) rfl (fun K hK => ?_)
                  go_simp
                  refine (lit_any ji jl ja jg l _ (by have := HH.bi; omega) (by have := HH.bl; omega) (by have := HH.ba; omega) (by have := HH.bg; omega) hlb).mono ?_
                  rintro e wa ⟨rfl, hbwa⟩
                  have kp := Keeps.of_below hbwa
                  replace p3 := kp _ _ p3
                  replace j4 := kp _ _ j4
                  replace j5 := kp _ _ j5
                  replace j6 := kp _ _ j6
                  replace j7 := kp _ _ j7
                  clear kp
                  refine hK _ _ (fun _ => ⟨p3, j4, j5, j6, j7⟩) ?_
                  clear hK
                  have HA := HA0.drew.call hbwa
                  replace qh := Arr.below (w := wr.drew) qh hbwa
                  replace qk := Arr.below (w := wr.drew) qk hbwa
                  refine AnyZ.one (i := 6) (by kernel_rfl) rfl (fun K hK => ?_)
                  go_simp
                  refine hK _ _ (fun _ => ⟨Keeps.alloc _ _ _ _ p3, Keeps.alloc _ _ _ _ j4, Keeps.alloc _ _ _ _ j5, Keeps.alloc _ _ _ _ j6, Keeps.alloc _ _ _ _ j7⟩) ?_
                  clear hK
                  have HAA := HA.alloc (.cells #[.int .i64 (mvJ ji jl ja jg l : Nat)] 3)
                  replace qh := qh.alloc (.cells #[.int .i64 (mvJ ji jl ja jg l : Nat)] 3)
                  replace qk := qk.alloc (.cells #[.int .i64 (mvJ ji jl ja jg l : Nat)] 3)
                  refine AnyZ.one (i := 7) (by kernel_rfl) rfl (fun K hK => ?_)
                  refine step_append (by rfl) (.tmp 127) (.tmp 132) _ (by rfl) elIntK w6.heap.size Q (st a.n3 b.n3 i + k) q _ (by rfl) HAA.r3 _ 1 1 [.int .i64 (mvJ ji jl ja jg l : Nat)] (by rfl) (src_new wa _ _ rfl) HCB.out (by have := HA.size; simp; omega) ?_
                  intro Q' q' w8 ho hk' hb'
                  have hba := own_base HAA.r3
                  replace qh := (qh.step HAA.r3 (by decide) hk')
                  replace qk := (qk.step HAA.r3 (by decide) hk')
                  have hb8 : GBox w8 (w.heap.size + 1 + 1 + 1 + 1 + 1) (.int .i64 (joint a b).ins) (.slice Q1 (a.n1 + b.n1) q1) (.slice Qn (st a.n2 b.n2 (i + 1)) qn) (.slice Q (st a.n3 b.n3 i + k) q) := Arr.only HAA.box hk' (fun c => by have := hba _ c; omega)
                  have f8 : w8.frozen? ⟨w.heap.size + 1 + 1 + 1 + 1 + 1, 3, none⟩ = false := Arr.thaw hb8 3
                  have p8 : w8.cell? ⟨w.heap.size + 1 + 1 + 1 + 1 + 1, 3, none⟩ = some (.slice Q (st a.n3 b.n3 i + k) q) := hb8.at_.2.2.2
                  have H8 := HAA.push3 hk' ho HL.out
                  refine hK _ _ (fun h => by cases h) ?_
                  clear hK hb8 ho hk' hb'
                  refine AnyZ.one (i := 8) (by kernel_rfl) rfl (fun K hK => ?_)
                  go_simp
                  refine hK _ _ (fun h => by cases h) ?_
                  clear hK
                  refine AnyZ.one (i := 9) (by kernel_rfl) rfl (fun K hK => ?_)
                  go_simp
                  refine hK _ _ (fun h => by cases h) (AnyZ.done (by kernel_rfl) ?_)
                  clear hK
                  replace qh := Arr.put_far (b := w.heap.size + 1 + 1 + 1 + 1 + 1) (i := 3) (v := .slice Q' (st a.n3 b.n3 i + k + 1) q') qh (by omega)
                  replace qk := Arr.put_far (b := w.heap.size + 1 + 1 + 1 + 1 + 1) (i := 3) (v := .slice Q' (st a.n3 b.n3 i + k + 1) q') qk (by omega)
                  go_wp2_with fail
                  go_roundw
                  case rel => exact ⟨k + 1, Q', q', by omega, by go_num, H8, qh, qk⟩
                  case measure => simp [intOf]; omega
                · obtain rfl : k = h.n3 := by omega
                  rw [← HH.s3] at H
                  clear p0 p1 p2 p3 j4 j5 j6 j7
                  go_wp2_with fail
                  go_roundw
                  case rel => exact ⟨i + 1, Qn, qn, Q, q, by omega, by go_num, H, qh⟩
                  case measure => simp [intOf]; omega
        · obtain rfl : i = 2 := by omega
          rw [show ((2 : Nat) : Int) = 2 from rfl]
          replace H : JAt (joint a b) w6 wr (w.heap.size + 1 + 1 + 1 + 1 + 1) (a.n1 + b.n1) (a.n2 + b.n2) (a.n3 + b.n3) Q1 Q2 Q3 q1 q2 q3 := H
          clear qh
          have HBr := Lib.hid (HBL.out.trans (H.only.below (B := w.heap.size) (fun j _ c => by omega) (by omega)))
          obtain ⟨p0, p1, p2, p3⟩ := H.box.at_
          have hrs8 : GBox wr (w.heap.size + 1 + 1) (.int .i64 0) (.slice none 0 0) (.slice none 0 0) (.slice none 0 0) := Arr.only qr H.only (by omega)
          obtain ⟨r0, r1, r2, r3⟩ := hrs8.at_
          have u0 := Arr.thaw hrs8 0
          have u1 := Arr.thaw hrs8 1
          have u2 := Arr.thaw hrs8 2
          have u3 := Arr.thaw hrs8 3
          go_wp2_with fail
          have h9 := (((hrs8.put0 (.int .i64 (joint a b).ins)).put1 (.slice Q1 (a.n1 + b.n1) q1)).put2 (.slice Q2 (a.n2 + b.n2) q2)).put3 (.slice Q3 (a.n3 + b.n3) q3)
          have hO9 := (((((Only.refl (fun j => j = w.heap.size + 1 + 1) wr).setCell (p := ⟨w.heap.size + 1 + 1, 0, none⟩) (fun _ => rfl) (.int .i64 (joint a b).ins)).setCell (p := ⟨w.heap.size + 1 + 1, 1, none⟩) (fun _ => rfl) (.slice Q1 (a.n1 + b.n1) q1)).setCell (p := ⟨w.heap.size + 1 + 1, 2, none⟩) (fun _ => rfl) (.slice Q2 (a.n2 + b.n2) q2)).setCell (p := ⟨w.heap.size + 1 + 1, 3, none⟩) (fun _ => rfl) (.slice Q3 (a.n3 + b.n3) q3))
          generalize (((wr.setCell ⟨w.heap.size + 1 + 1, 0, none⟩ (.int .i64 (joint a b).ins)).setCell ⟨w.heap.size + 1 + 1, 1, none⟩ (.slice Q1 (a.n1 + b.n1) q1)).setCell ⟨w.heap.size + 1 + 1, 2, none⟩ (.slice Q2 (a.n2 + b.n2) q2)).setCell ⟨w.heap.size + 1 + 1, 3, none⟩ (.slice Q3 (a.n3 + b.n3) q3) = w9 at *
          obtain ⟨t0, t1, t2, t3⟩ := h9.at_
          have hB9 := HBr.out.trans (hO9.below (B := w.heap.size) (fun j _ c => by omega) (by omega))
          have hat := JAt.at_ (g := joint a b) H hO9 (by omega)
          refine bodyPost_ret (v := .agg #[.int .i64 (joint a b).ins, .slice Q1 (a.n1 + b.n1) q1, .slice Q2 (a.n2 + b.n2) q2, .slice Q3 (a.n3 + b.n3) q3]) ?_ rfl ?_
          · simp [results, Try.results34, go_sem, t0, t1, t2, t3]
          · exact ⟨_, _, _, _, _, _, rfl, hat, hB9⟩
end Go.Proofs.Ytkanekacjefcbaa
