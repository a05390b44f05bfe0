/- The reference's Joint, walked: it returns the joint graph in new memory. Conditions: both graphs are valid and lie in memory. -/
import Derived.Test.YtkanekacjefcbaaJointS
import Derived.Deep.DeepCutAuto
namespace Go.Proofs.Ytkanekacjefcbaa
open Go.RowKit

set_option maxHeartbeats 20000000 in
set_option maxRecDepth 100000 in
theorem joint_any (a b : G) (A1 A2 A3 B1 B2 B3 : Option Addr) (c1 c2 c3 d1 d2 d3 : Nat) (w : World) (ha : a.At w A1 A2 A3) (hb : b.At w B1 B2 B3) (hva : a.Valid) (hvb : b.Valid) :
    Calls Try.prog 22 #[.agg #[.int .i64 a.ins, .slice A1 a.n1 c1, .slice A2 a.n2 c2, .slice A3 a.n3 c3], .agg #[.int .i64 b.ins, .slice B1 b.n1 d1, .slice B2 b.n2 d2, .slice B3 b.n3 d3]] w (MadeG (joint a b) w) := by
  have hs2 := Lib.hid (small2_of hva hvb)
  obtain ⟨a1, a2, a3, a4, a5⟩ := hva.small
  obtain ⟨b1, b2, b3, b4, b5⟩ := hvb.small
  have hna := hva.n
  have hnb := hvb.n
  go_enter Try.func22, Try.ntmps22
  go_upto_region 1 with (fail)
  go_wp2_with fail
  have qa := BoxAt.new w [.int .i64 a.ins, .slice A1 a.n1 c1, .slice A2 a.n2 c2, .slice A3 a.n3 c3] 30
  have hbl : Below w.heap.size w (w.alloc (.cells #[.int .i64 a.ins, .slice A1 a.n1 c1, .slice A2 a.n2 c2, .slice A3 a.n3 c3] 30)) := (Below.refl _ _).alloc (Nat.le_refl _) _
  have hsz : (w.alloc (.cells #[.int .i64 a.ins, .slice A1 a.n1 c1, .slice A2 a.n2 c2, .slice A3 a.n3 c3] 30)).heap.size = w.heap.size + 1 := by simp
  generalize w.alloc (.cells #[.int .i64 a.ins, .slice A1 a.n1 c1, .slice A2 a.n2 c2, .slice A3 a.n3 c3] 30) = v1 at *
  have qb := BoxAt.new v1 [.int .i64 b.ins, .slice B1 b.n1 d1, .slice B2 b.n2 d2, .slice B3 b.n3 d3] 30
  rw [hsz] at qb
  replace qa := qa.keeps (Keeps.alloc v1 (.cells #[.int .i64 b.ins, .slice B1 b.n1 d1, .slice B2 b.n2 d2, .slice B3 b.n3 d3] 30))
  replace hbl := hbl.alloc (by omega) (.cells #[.int .i64 b.ins, .slice B1 b.n1 d1, .slice B2 b.n2 d2, .slice B3 b.n3 d3] 30)
  have hsz2 : (v1.alloc (.cells #[.int .i64 b.ins, .slice B1 b.n1 d1, .slice B2 b.n2 d2, .slice B3 b.n3 d3] 30)).heap.size = w.heap.size + 2 := by simp [hsz]
  generalize v1.alloc (.cells #[.int .i64 b.ins, .slice B1 b.n1 d1, .slice B2 b.n2 d2, .slice B3 b.n3 d3] 30) = v2 at *
  clear hsz
  have qr := GBox.new v2 (.int .i64 0) (.slice none 0 0) (.slice none 0 0) (.slice none 0 0)
  rw [hsz2] at qr
  replace qa := qa.keeps (Keeps.alloc v2 (.cells #[.int .i64 0, .slice none 0 0, .slice none 0 0, .slice none 0 0] 30))
  replace qb := qb.keeps (Keeps.alloc v2 (.cells #[.int .i64 0, .slice none 0 0, .slice none 0 0, .slice none 0 0] 30))
  replace hbl := hbl.alloc (by omega) (.cells #[.int .i64 0, .slice none 0 0, .slice none 0 0, .slice none 0 0] 30)
  have hsz3 : (v2.alloc (.cells #[.int .i64 0, .slice none 0 0, .slice none 0 0, .slice none 0 0] 30)).heap.size = w.heap.size + 3 := by simp [hsz2]
  generalize v2.alloc (.cells #[.int .i64 0, .slice none 0 0, .slice none 0 0, .slice none 0 0] 30) = v3 at *
  clear hsz2
  have qg := GBox.new v3 (.int .i64 a.ins) (.slice none 0 0) (.slice none 0 0) (.slice none 0 0)
  rw [hsz3] at qg
  replace qa := qa.keeps (Keeps.alloc v3 (.cells #[.int .i64 a.ins, .slice none 0 0, .slice none 0 0, .slice none 0 0] 30))
  replace qb := qb.keeps (Keeps.alloc v3 (.cells #[.int .i64 a.ins, .slice none 0 0, .slice none 0 0, .slice none 0 0] 30))
  replace qr : GBox (v3.alloc (.cells #[.int .i64 a.ins, .slice none 0 0, .slice none 0 0, .slice none 0 0] 30)) (w.heap.size + 2) (.int .i64 0) (.slice none 0 0) (.slice none 0 0) (.slice none 0 0) := Arr.alloc qr _
  have HBL := Lib.hid (hbl.alloc (by omega) (.cells #[.int .i64 a.ins, .slice none 0 0, .slice none 0 0, .slice none 0 0] 30))
  have hsz4 : (v3.alloc (.cells #[.int .i64 a.ins, .slice none 0 0, .slice none 0 0, .slice none 0 0] 30)).heap.size = w.heap.size + 4 := by simp [hsz3]
  generalize v3.alloc (.cells #[.int .i64 a.ins, .slice none 0 0, .slice none 0 0, .slice none 0 0] 30) = w6 at *
  clear hbl hsz3
  have hs6 : w.heap.size + 4 ≤ w6.heap.size := by omega
  have hs6' : w6.heap.size ≤ w.heap.size + 4 := by omega
  clear hsz4
  have H0 : JAt (joint a b) w6 w6 (w.heap.size + 1 + 1 + 1) 0 0 0 none none none 0 0 0 := JAt.start w6 _ w6 rfl qg
  clear qg
  go_wp2_with fail
  go_loopw [6] (fun ix wi => ∃ (i : Nat) (Q : Option Addr) (q : Nat), i ≤ a.n1 ∧ ix = .int .i64 i ∧ JAt (joint a b) w6 wi (w.heap.size + 1 + 1 + 1) (i) (0) (0) Q none none q 0 0) (fun ix _ => a.n1 - (intOf ix).toNat)
  case atStart => exact ⟨0, none, 0, by omega, rfl, H0⟩
  case round =>
    clear H0
    obtain ⟨i, Q, q, hi, rfl, H⟩ := hrel
    have HBr := Lib.hid (HBL.out.trans (H.only.below (B := w.heap.size) (fun j _ c => by omega) (by omega)))
    have hszr := H.size
    obtain ⟨g0, g1, g2, g3⟩ := (H.only.box qa (by omega)).four
    obtain ⟨e0, e1, e2, e3⟩ := (H.only.box qb (by omega)).four
    obtain ⟨p0, p1, p2, p3⟩ := H.box.at_
    by_cases hlt : i < a.n1
    · have hii : (i : Int) < a.n1 := by omega
      obtain ⟨b1, o1, hA, x0, x1⟩ := (ha.lat.keeps (Keeps.of_below HBr.out)).at2 hlt
      simp only [two] at x0 x1
      subst hA
      have hok := hva.lat i hlt
      unfold G.LitOk at hok
      obtain ⟨l, hl⟩ := Int.eq_ofNat_of_zero_le hok.1
      have HL : Hid ((joint a b).L i = mv1 a b l) := Lib.hid (by rw [joint_L1 a b hlt, hl])
      have HI : Hid ((joint a b).I i = a.I i) := Lib.hid (joint_I1 a b hlt)
      have hlb : l ≤ 1000000000000 := by omega
      rw [hl] at x0
      clear hl hok
      have HCB := Lib.hid (show (i + 1) * 16 ≤ 140737488355328 by omega)
      go_upto_region 5 with (fail)
      refine wp_region_z (fun w' => w'.cell? ⟨w.heap.size + 1 + 1 + 1, 1, none⟩ = some (.slice Q (i) q) ∧ w'.cell? ⟨w.heap.size, 0, none⟩ = some (.int .i64 a.ins) ∧ w'.cell? ⟨w.heap.size, 1, none⟩ = some (.slice (some ⟨b1, o1, none⟩) a.n1 c1) ∧ w'.cell? ⟨w.heap.size, 2, none⟩ = some (.slice A2 a.n2 c2) ∧ w'.cell? ⟨w.heap.size, 3, none⟩ = some (.slice A3 a.n3 c3) ∧ w'.cell? ⟨w.heap.size + 1, 0, none⟩ = some (.int .i64 b.ins) ∧ w'.cell? ⟨w.heap.size + 1, 1, none⟩ = some (.slice B1 b.n1 d1) ∧ w'.cell? ⟨w.heap.size + 1, 2, none⟩ = some (.slice B2 b.n2 d2) ∧ w'.cell? ⟨w.heap.size + 1, 3, none⟩ = some (.slice B3 b.n3 d3) ∧ w'.cell? ⟨b1, o1 + i * 2, none⟩ = some (.int .i64 l) ∧ w'.cell? ⟨b1, o1 + i * 2 + 1, none⟩ = some (.bool (a.I i))) [0, 1, 2, 3, 4, 5, 6, 7, 8, 9, 11, 12, 13, 14, 15, 16] [19, 20, 21] (by kernel_rfl) (by kernel_rfl) (by kernel_rfl) (by rfl) (fun _ _ _ _ e h => ⟨e.symm.trans h.1, h.2⟩) ⟨p1, g0, g1, g2, g3, e0, e1, e2, e3, x0, x1⟩ ?_
      iterate 16
        refine Heads.step (v := ?_) rfl (by rfl) (fun W hW => ?_) ?_
        rotate_left
        · (obtain ⟨s0, s1, s2, s3, s4, s5, s6, s7, s8, s9, s10⟩ := hW; go_simp; try with_reducible rfl)
      refine AnyZ.one (i := 10) (by kernel_rfl) rfl (fun K hK => ?_)
      go_simp
      refine (movedOne_any a b _ A2 A3 B1 B2 B3 c1 c2 c3 d1 d2 d3 l _ hs2.out hlb).mono ?_
      rintro e wa ⟨rfl, hbwa⟩
      have kp := Keeps.of_below hbwa
      replace p1 := kp _ _ p1
      replace g0 := kp _ _ g0
      replace g1 := kp _ _ g1
      replace g2 := kp _ _ g2
      replace g3 := kp _ _ g3
      replace e0 := kp _ _ e0
      replace e1 := kp _ _ e1
      replace e2 := kp _ _ e2
      replace e3 := kp _ _ e3
      replace x0 := kp _ _ x0
      replace x1 := kp _ _ x1
      clear kp
      refine hK _ _ (fun _ => ⟨p1, g0, g1, g2, g3, e0, e1, e2, e3, x0, x1⟩) ?_
      clear hK
      have HA := (H.drew.call hbwa)
      refine AnyZ.one (i := 17) (by kernel_rfl) rfl (fun K hK => ?_)
      go_simp
      refine hK _ _ (fun _ => ⟨p1, g0, g1, g2, g3, e0, e1, e2, e3, x0, x1⟩) ?_
      clear hK
      refine AnyZ.one (i := 18) (by kernel_rfl) rfl (fun K hK => ?_)
      go_simp
      refine hK _ _ (fun _ => ⟨Keeps.alloc _ _ _ _ p1, Keeps.alloc _ _ _ _ g0, Keeps.alloc _ _ _ _ g1, Keeps.alloc _ _ _ _ g2, Keeps.alloc _ _ _ _ g3, Keeps.alloc _ _ _ _ e0, Keeps.alloc _ _ _ _ e1, Keeps.alloc _ _ _ _ e2, Keeps.alloc _ _ _ _ e3, Keeps.alloc _ _ _ _ x0, Keeps.alloc _ _ _ _ x1⟩) ?_
      clear hK
      refine AnyZ.one (i := 19) (by kernel_rfl) rfl (fun K hK => ?_)
      refine step_append (by rfl) (.tmp 23) (.tmp 40) _ (by rfl) elLatchJ w6.heap.size Q (i) q _ (by rfl) (World.ownsRow.alloc HA.r1 _) _ 1 1 [.int .i64 (mv1 a b l), .bool (a.I i)] (by rfl) (src_news wa #[.int .i64 (mv1 a b l), .bool (a.I i)] 70 2 1 rfl (by simp [Value.oneCell'])) HCB.out (by have := HA.size; simp; omega) ?_
      intro Q' q' w8 ho hk' hb'
      have hba := own_base HA.r1
      have hb8 : GBox w8 (w.heap.size + 1 + 1 + 1) (.int .i64 (joint a b).ins) (.slice Q (i) q) (.slice none (0) 0) (.slice none (0) 0) := Arr.only (Arr.alloc HA.box _) hk' (fun c => by have := hba _ c; omega)
      have f8 : w8.frozen? ⟨w.heap.size + 1 + 1 + 1, 1, none⟩ = false := Arr.thaw hb8 1
      have p8 : w8.cell? ⟨w.heap.size + 1 + 1 + 1, 1, none⟩ = some (.slice Q (i) q) := hb8.at_.2.1
      have H8 := (HA.alloc _).push1 hk' ho HL.out HI.out
      refine hK _ _ (fun h => by cases h) ?_
      clear hK hb8 ho hk' hb'
      refine AnyZ.one (i := 20) (by kernel_rfl) rfl (fun K hK => ?_)
      go_simp
      refine hK _ _ (fun h => by cases h) ?_
      clear hK
      refine AnyZ.one (i := 21) (by kernel_rfl) rfl (fun K hK => ?_)
      go_simp
      refine hK _ _ (fun h => by cases h) (AnyZ.done (by kernel_rfl) ?_)
      clear hK
      go_wp2_with fail
      go_roundw
      case rel => exact ⟨i + 1, Q', q', by omega, by go_num, H8⟩
      case measure => simp [intOf]; omega
    · obtain rfl : i = a.n1 := by omega
      obtain ⟨Q0, hQ⟩ : ∃ x, x = Q := ⟨_, rfl⟩
      obtain ⟨q0, hq⟩ : ∃ x, x = q := ⟨_, rfl⟩
      rw [← hQ, ← hq] at H
      rw [← hQ, ← hq] at p1
      clear hQ hq Q q
      go_wp2_with fail
      clear p0 p1 p2 p3 g0 g1 g2 g3 e0 e1 e2 e3
      go_loopw [7] (fun ix wi => ∃ (i : Nat) (Q : Option Addr) (q : Nat), i ≤ b.n1 ∧ ix = .int .i64 i ∧ JAt (joint a b) w6 wi (w.heap.size + 1 + 1 + 1) (a.n1 + i) (0) (0) Q none none q 0 0) (fun ix _ => b.n1 - (intOf ix).toNat)
      case atStart => exact ⟨0, Q0, q0, by omega, rfl, H⟩
      case round =>
        clear H
        obtain ⟨i, Q, q, hi, rfl, H⟩ := hrel
        have HBr := Lib.hid (HBL.out.trans (H.only.below (B := w.heap.size) (fun j _ c => by omega) (by omega)))
        have hszr := H.size
        obtain ⟨g0, g1, g2, g3⟩ := (H.only.box qa (by omega)).four
        obtain ⟨e0, e1, e2, e3⟩ := (H.only.box qb (by omega)).four
        obtain ⟨p0, p1, p2, p3⟩ := H.box.at_
        by_cases hlt : i < b.n1
        · have hii : (i : Int) < b.n1 := by omega
          obtain ⟨b1, o1, hA, x0, x1⟩ := (hb.lat.keeps (Keeps.of_below HBr.out)).at2 hlt
          simp only [two] at x0 x1
          subst hA
          have hok := hvb.lat i hlt
          unfold G.LitOk at hok
          obtain ⟨l, hl⟩ := Int.eq_ofNat_of_zero_le hok.1
          have HL : Hid ((joint a b).L (a.n1 + i) = mv2 a b l) := Lib.hid (by rw [joint_L2 a b, hl])
          have HI : Hid ((joint a b).I (a.n1 + i) = b.I i) := Lib.hid (joint_I2 a b i)
          have hlb : l ≤ 1000000000000 := by omega
          rw [hl] at x0
          clear hl hok
          have HCB := Lib.hid (show (a.n1 + i + 1) * 16 ≤ 140737488355328 by omega)
          go_upto_region 9 with (fail)
          refine wp_region_z (fun w' => w'.cell? ⟨w.heap.size + 1 + 1 + 1, 1, none⟩ = some (.slice Q (a.n1 + i) q) ∧ w'.cell? ⟨w.heap.size, 0, none⟩ = some (.int .i64 a.ins) ∧ w'.cell? ⟨w.heap.size, 1, none⟩ = some (.slice A1 a.n1 c1) ∧ w'.cell? ⟨w.heap.size, 2, none⟩ = some (.slice A2 a.n2 c2) ∧ w'.cell? ⟨w.heap.size, 3, none⟩ = some (.slice A3 a.n3 c3) ∧ w'.cell? ⟨w.heap.size + 1, 0, none⟩ = some (.int .i64 b.ins) ∧ w'.cell? ⟨w.heap.size + 1, 1, none⟩ = some (.slice (some ⟨b1, o1, none⟩) b.n1 d1) ∧ w'.cell? ⟨w.heap.size + 1, 2, none⟩ = some (.slice B2 b.n2 d2) ∧ w'.cell? ⟨w.heap.size + 1, 3, none⟩ = some (.slice B3 b.n3 d3) ∧ w'.cell? ⟨b1, o1 + i * 2, none⟩ = some (.int .i64 l) ∧ w'.cell? ⟨b1, o1 + i * 2 + 1, none⟩ = some (.bool (b.I i))) [0, 1, 2, 3, 4, 5, 6, 7, 8, 9, 11, 12, 13, 14, 15, 16] [19, 20, 21] (by kernel_rfl) (by kernel_rfl) (by kernel_rfl) (by rfl) (fun _ _ _ _ e h => ⟨e.symm.trans h.1, h.2⟩) ⟨p1, g0, g1, g2, g3, e0, e1, e2, e3, x0, x1⟩ ?_
          iterate 16
            refine Heads.step (v := ?_) rfl (by rfl) (fun W hW => ?_) ?_
            rotate_left
            · (obtain ⟨s0, s1, s2, s3, s4, s5, s6, s7, s8, s9, s10⟩ := hW; go_simp; try with_reducible rfl)
          refine AnyZ.one (i := 10) (by kernel_rfl) rfl (fun K hK => ?_)
          go_simp
          refine (moved_any a b A1 A2 A3 _ B2 B3 c1 c2 c3 d1 d2 d3 l _ hs2.out hlb).mono ?_
          rintro e wa ⟨rfl, hbwa⟩
          have kp := Keeps.of_below hbwa
          replace p1 := kp _ _ p1
          replace g0 := kp _ _ g0
          replace g1 := kp _ _ g1
          replace g2 := kp _ _ g2
          replace g3 := kp _ _ g3
          replace e0 := kp _ _ e0
          replace e1 := kp _ _ e1
          replace e2 := kp _ _ e2
          replace e3 := kp _ _ e3
          replace x0 := kp _ _ x0
          replace x1 := kp _ _ x1
          clear kp
          refine hK _ _ (fun _ => ⟨p1, g0, g1, g2, g3, e0, e1, e2, e3, x0, x1⟩) ?_
          clear hK
          have HA := (H.drew.call hbwa)
          refine AnyZ.one (i := 17) (by kernel_rfl) rfl (fun K hK => ?_)
          go_simp
          refine hK _ _ (fun _ => ⟨p1, g0, g1, g2, g3, e0, e1, e2, e3, x0, x1⟩) ?_
          clear hK
          refine AnyZ.one (i := 18) (by kernel_rfl) rfl (fun K hK => ?_)
          go_simp
          refine hK _ _ (fun _ => ⟨Keeps.alloc _ _ _ _ p1, Keeps.alloc _ _ _ _ g0, Keeps.alloc _ _ _ _ g1, Keeps.alloc _ _ _ _ g2, Keeps.alloc _ _ _ _ g3, Keeps.alloc _ _ _ _ e0, Keeps.alloc _ _ _ _ e1, Keeps.alloc _ _ _ _ e2, Keeps.alloc _ _ _ _ e3, Keeps.alloc _ _ _ _ x0, Keeps.alloc _ _ _ _ x1⟩) ?_
          clear hK
          refine AnyZ.one (i := 19) (by kernel_rfl) rfl (fun K hK => ?_)
          refine step_append (by rfl) (.tmp 51) (.tmp 68) _ (by rfl) elLatchJ w6.heap.size Q (a.n1 + i) q _ (by rfl) (World.ownsRow.alloc HA.r1 _) _ 1 1 [.int .i64 (mv2 a b l), .bool (b.I i)] (by rfl) (src_news wa #[.int .i64 (mv2 a b l), .bool (b.I i)] 70 2 1 rfl (by simp [Value.oneCell'])) HCB.out (by have := HA.size; simp; omega) ?_
          intro Q' q' w8 ho hk' hb'
          have hba := own_base HA.r1
          have hb8 : GBox w8 (w.heap.size + 1 + 1 + 1) (.int .i64 (joint a b).ins) (.slice Q (a.n1 + i) q) (.slice none (0) 0) (.slice none (0) 0) := Arr.only (Arr.alloc HA.box _) hk' (fun c => by have := hba _ c; omega)
          have f8 : w8.frozen? ⟨w.heap.size + 1 + 1 + 1, 1, none⟩ = false := Arr.thaw hb8 1
          have p8 : w8.cell? ⟨w.heap.size + 1 + 1 + 1, 1, none⟩ = some (.slice Q (a.n1 + i) q) := hb8.at_.2.1
          have H8 := (HA.alloc _).push1 hk' ho HL.out HI.out
          refine hK _ _ (fun h => by cases h) ?_
          clear hK hb8 ho hk' hb'
          refine AnyZ.one (i := 20) (by kernel_rfl) rfl (fun K hK => ?_)
          go_simp
          refine hK _ _ (fun h => by cases h) ?_
          clear hK
          refine AnyZ.one (i := 21) (by kernel_rfl) rfl (fun K hK => ?_)
          go_simp
          refine hK _ _ (fun h => by cases h) (AnyZ.done (by kernel_rfl) ?_)
          clear hK
          go_wp2_with fail
          go_roundw
          case rel => exact ⟨i + 1, Q', q', by omega, by go_num, H8⟩
          case measure => simp [intOf]; omega
        · obtain rfl : i = b.n1 := by omega
          obtain ⟨Q1, hQ⟩ : ∃ x, x = Q := ⟨_, rfl⟩
          obtain ⟨q1, hq⟩ : ∃ x, x = q := ⟨_, rfl⟩
          rw [← hQ, ← hq] at H
          rw [← hQ, ← hq] at p1
          clear hQ hq Q q
          go_wp2_with fail
          clear p0 p1 p2 p3 g0 g1 g2 g3 e0 e1 e2 e3
          go_loopw [8] (fun ix wi => ∃ (i : Nat) (Q : Option Addr) (q : Nat), i ≤ a.n2 ∧ ix = .int .i64 i ∧ JAt (joint a b) w6 wi (w.heap.size + 1 + 1 + 1) (a.n1 + b.n1) (i) (0) Q1 Q none q1 q 0) (fun ix _ => a.n2 - (intOf ix).toNat)
          case atStart => exact ⟨0, none, 0, by omega, rfl, H⟩
          case round =>
            clear H
            obtain ⟨i, Q, q, hi, rfl, H⟩ := hrel
            have HBr := Lib.hid (HBL.out.trans (H.only.below (B := w.heap.size) (fun j _ c => by omega) (by omega)))
            have hszr := H.size
            obtain ⟨g0, g1, g2, g3⟩ := (H.only.box qa (by omega)).four
            obtain ⟨e0, e1, e2, e3⟩ := (H.only.box qb (by omega)).four
            obtain ⟨p0, p1, p2, p3⟩ := H.box.at_
            by_cases hlt : i < a.n2
            · have hii : (i : Int) < a.n2 := by omega
              obtain ⟨b1, o1, hA, x0, x1⟩ := (ha.ands.keeps (Keeps.of_below HBr.out)).at2 hlt
              simp only [two] at x0 x1
              subst hA
              have hok := hva.ands i hlt
              unfold G.AndOk at hok
              obtain ⟨l, hl⟩ := Int.eq_ofNat_of_zero_le hok.1.1
              obtain ⟨m, hm⟩ := Int.eq_ofNat_of_zero_le hok.2.1
              have HL : Hid ((joint a b).X i = mv1 a b l) := Lib.hid (by rw [joint_X1 a b hlt, hl])
              have HM : Hid ((joint a b).Y i = mv1 a b m) := Lib.hid (by rw [joint_Y1 a b hlt, hm])
              have hlb : l ≤ 1000000000000 := by omega
              have hmb : m ≤ 1000000000000 := by omega
              rw [hl] at x0
              rw [hm] at x1
              clear hl hok hm
              have HCB := Lib.hid (show (i + 1) * 16 ≤ 140737488355328 by omega)
              go_upto_region 13 with (fail)
              refine wp_region_z (fun w' => w'.cell? ⟨w.heap.size + 1 + 1 + 1, 2, none⟩ = some (.slice Q (i) q) ∧ w'.cell? ⟨w.heap.size, 0, none⟩ = some (.int .i64 a.ins) ∧ w'.cell? ⟨w.heap.size, 1, none⟩ = some (.slice A1 a.n1 c1) ∧ w'.cell? ⟨w.heap.size, 2, none⟩ = some (.slice (some ⟨b1, o1, none⟩) a.n2 c2) ∧ w'.cell? ⟨w.heap.size, 3, none⟩ = some (.slice A3 a.n3 c3) ∧ w'.cell? ⟨w.heap.size + 1, 0, none⟩ = some (.int .i64 b.ins) ∧ w'.cell? ⟨w.heap.size + 1, 1, none⟩ = some (.slice B1 b.n1 d1) ∧ w'.cell? ⟨w.heap.size + 1, 2, none⟩ = some (.slice B2 b.n2 d2) ∧ w'.cell? ⟨w.heap.size + 1, 3, none⟩ = some (.slice B3 b.n3 d3) ∧ w'.cell? ⟨b1, o1 + i * 2, none⟩ = some (.int .i64 l) ∧ w'.cell? ⟨b1, o1 + i * 2 + 1, none⟩ = some (.int .i64 m)) [0, 1, 2, 3, 4, 5, 6, 7, 8, 9, 11, 12, 13, 14, 15, 16, 17, 18] [22, 23, 24] (by kernel_rfl) (by kernel_rfl) (by kernel_rfl) (by rfl) (fun _ _ _ _ e h => ⟨e.symm.trans h.1, h.2⟩) ⟨p2, g0, g1, g2, g3, e0, e1, e2, e3, x0, x1⟩ ?_
              iterate 18
                refine Heads.step (v := ?_) rfl (by rfl) (fun W hW => ?_) ?_
                rotate_left
                · (obtain ⟨s0, s1, s2, s3, s4, s5, s6, s7, s8, s9, s10⟩ := hW; go_simp; try with_reducible rfl)
              refine AnyZ.one (i := 10) (by kernel_rfl) rfl (fun K hK => ?_)
              go_simp
              refine (movedOne_any a b A1 _ A3 B1 B2 B3 c1 c2 c3 d1 d2 d3 l _ hs2.out hlb).mono ?_
              rintro e wa ⟨rfl, hbwa⟩
              have kp := Keeps.of_below hbwa
              replace p2 := kp _ _ p2
              replace g0 := kp _ _ g0
              replace g1 := kp _ _ g1
              replace g2 := kp _ _ g2
              replace g3 := kp _ _ g3
              replace e0 := kp _ _ e0
              replace e1 := kp _ _ e1
              replace e2 := kp _ _ e2
              replace e3 := kp _ _ e3
              replace x0 := kp _ _ x0
              replace x1 := kp _ _ x1
              clear kp
              refine hK _ _ (fun _ => ⟨p2, g0, g1, g2, g3, e0, e1, e2, e3, x0, x1⟩) ?_
              clear hK
              have HA := (H.drew.call hbwa)
              refine AnyZ.one (i := 19) (by kernel_rfl) rfl (fun K hK => ?_)
              go_simp
              refine (movedOne_any a b A1 _ A3 B1 B2 B3 c1 c2 c3 d1 d2 d3 m _ hs2.out hmb).mono ?_
              rintro e wb ⟨rfl, hbwb⟩
              have kp := Keeps.of_below hbwb
              replace p2 := kp _ _ p2
              replace g0 := kp _ _ g0
              replace g1 := kp _ _ g1
              replace g2 := kp _ _ g2
              replace g3 := kp _ _ g3
              replace e0 := kp _ _ e0
              replace e1 := kp _ _ e1
              replace e2 := kp _ _ e2
              replace e3 := kp _ _ e3
              replace x0 := kp _ _ x0
              replace x1 := kp _ _ x1
              clear kp
              refine hK _ _ (fun _ => ⟨p2, g0, g1, g2, g3, e0, e1, e2, e3, x0, x1⟩) ?_
              clear hK
              replace HA := HA.call hbwb
              refine AnyZ.one (i := 20) (by kernel_rfl) rfl (fun K hK => ?_)
              go_simp
              refine hK _ _ (fun _ => ⟨p2, g0, g1, g2, g3, e0, e1, e2, e3, x0, x1⟩) ?_
              clear hK
              refine AnyZ.one (i := 21) (by kernel_rfl) rfl (fun K hK => ?_)
              go_simp
              refine hK _ _ (fun _ => ⟨Keeps.alloc _ _ _ _ p2, Keeps.alloc _ _ _ _ g0, Keeps.alloc _ _ _ _ g1, Keeps.alloc _ _ _ _ g2, Keeps.alloc _ _ _ _ g3, Keeps.alloc _ _ _ _ e0, Keeps.alloc _ _ _ _ e1, Keeps.alloc _ _ _ _ e2, Keeps.alloc _ _ _ _ e3, Keeps.alloc _ _ _ _ x0, Keeps.alloc _ _ _ _ x1⟩) ?_
              clear hK
              refine AnyZ.one (i := 22) (by kernel_rfl) rfl (fun K hK => ?_)
              refine step_append (by rfl) (.tmp 79) (.tmp 99) _ (by rfl) elPairJ w6.heap.size Q (i) q _ (by rfl) (World.ownsRow.alloc HA.r2 _) _ 1 1 [.int .i64 (mv1 a b l), .int .i64 (mv1 a b m)] (by rfl) (src_news wb #[.int .i64 (mv1 a b l), .int .i64 (mv1 a b m)] 49 2 1 rfl (by simp [Value.oneCell'])) HCB.out (by have := HA.size; simp; omega) ?_
              intro Q' q' w8 ho hk' hb'
              have hba := own_base HA.r2
              have hb8 : GBox w8 (w.heap.size + 1 + 1 + 1) (.int .i64 (joint a b).ins) (.slice Q1 (a.n1 + b.n1) q1) (.slice Q (i) q) (.slice none (0) 0) := Arr.only (Arr.alloc HA.box _) hk' (fun c => by have := hba _ c; omega)
              have f8 : w8.frozen? ⟨w.heap.size + 1 + 1 + 1, 2, none⟩ = false := Arr.thaw hb8 2
              have p8 : w8.cell? ⟨w.heap.size + 1 + 1 + 1, 2, none⟩ = some (.slice Q (i) q) := hb8.at_.2.2.1
              have H8 := (HA.alloc _).push2 hk' ho HL.out HM.out
              refine hK _ _ (fun h => by cases h) ?_
              clear hK hb8 ho hk' hb'
              refine AnyZ.one (i := 23) (by kernel_rfl) rfl (fun K hK => ?_)
              go_simp
              refine hK _ _ (fun h => by cases h) ?_
              clear hK
              refine AnyZ.one (i := 24) (by kernel_rfl) rfl (fun K hK => ?_)
              go_simp
              refine hK _ _ (fun h => by cases h) (AnyZ.done (by kernel_rfl) ?_)
              clear hK
              go_wp2_with fail
              go_roundw
              case rel => exact ⟨i + 1, Q', q', by omega, by go_num, H8⟩
              case measure => simp [intOf]; omega
            · obtain rfl : i = a.n2 := by omega
              obtain ⟨Q2, hQ⟩ : ∃ x, x = Q := ⟨_, rfl⟩
              obtain ⟨q2, hq⟩ : ∃ x, x = q := ⟨_, rfl⟩
              rw [← hQ, ← hq] at H
              rw [← hQ, ← hq] at p2
              clear hQ hq Q q
              go_wp2_with fail
              clear p0 p1 p2 p3 g0 g1 g2 g3 e0 e1 e2 e3
              go_loopw [9] (fun ix wi => ∃ (i : Nat) (Q : Option Addr) (q : Nat), i ≤ b.n2 ∧ ix = .int .i64 i ∧ JAt (joint a b) w6 wi (w.heap.size + 1 + 1 + 1) (a.n1 + b.n1) (a.n2 + i) (0) Q1 Q none q1 q 0) (fun ix _ => b.n2 - (intOf ix).toNat)
              case atStart => exact ⟨0, Q2, q2, by omega, rfl, H⟩
              case round =>
                clear H
                obtain ⟨i, Q, q, hi, rfl, H⟩ := hrel
                have HBr := Lib.hid (HBL.out.trans (H.only.below (B := w.heap.size) (fun j _ c => by omega) (by omega)))
                have hszr := H.size
                obtain ⟨g0, g1, g2, g3⟩ := (H.only.box qa (by omega)).four
                obtain ⟨e0, e1, e2, e3⟩ := (H.only.box qb (by omega)).four
                obtain ⟨p0, p1, p2, p3⟩ := H.box.at_
                by_cases hlt : i < b.n2
                · have hii : (i : Int) < b.n2 := by omega
                  obtain ⟨b1, o1, hA, x0, x1⟩ := (hb.ands.keeps (Keeps.of_below HBr.out)).at2 hlt
                  simp only [two] at x0 x1
                  subst hA
                  have hok := hvb.ands i hlt
                  unfold G.AndOk at hok
                  obtain ⟨l, hl⟩ := Int.eq_ofNat_of_zero_le hok.1.1
                  obtain ⟨m, hm⟩ := Int.eq_ofNat_of_zero_le hok.2.1
                  have HL : Hid ((joint a b).X (a.n2 + i) = mv2 a b l) := Lib.hid (by rw [joint_X2 a b, hl])
                  have HM : Hid ((joint a b).Y (a.n2 + i) = mv2 a b m) := Lib.hid (by rw [joint_Y2 a b, hm])
                  have hlb : l ≤ 1000000000000 := by omega
                  have hmb : m ≤ 1000000000000 := by omega
                  rw [hl] at x0
                  rw [hm] at x1
                  clear hl hok hm
                  have HCB := Lib.hid (show (a.n2 + i + 1) * 16 ≤ 140737488355328 by omega)
                  go_upto_region 17 with (fail)
                  refine wp_region_z (fun w' => w'.cell? ⟨w.heap.size + 1 + 1 + 1, 2, none⟩ = some (.slice Q (a.n2 + i) q) ∧ w'.cell? ⟨w.heap.size, 0, none⟩ = some (.int .i64 a.ins) ∧ w'.cell? ⟨w.heap.size, 1, none⟩ = some (.slice A1 a.n1 c1) ∧ w'.cell? ⟨w.heap.size, 2, none⟩ = some (.slice A2 a.n2 c2) ∧ w'.cell? ⟨w.heap.size, 3, none⟩ = some (.slice A3 a.n3 c3) ∧ w'.cell? ⟨w.heap.size + 1, 0, none⟩ = some (.int .i64 b.ins) ∧ w'.cell? ⟨w.heap.size + 1, 1, none⟩ = some (.slice B1 b.n1 d1) ∧ w'.cell? ⟨w.heap.size + 1, 2, none⟩ = some (.slice (some ⟨b1, o1, none⟩) b.n2 d2) ∧ w'.cell? ⟨w.heap.size + 1, 3, none⟩ = some (.slice B3 b.n3 d3) ∧ w'.cell? ⟨b1, o1 + i * 2, none⟩ = some (.int .i64 l) ∧ w'.cell? ⟨b1, o1 + i * 2 + 1, none⟩ = some (.int .i64 m)) [0, 1, 2, 3, 4, 5, 6, 7, 8, 9, 11, 12, 13, 14, 15, 16, 17, 18] [22, 23, 24] (by kernel_rfl) (by kernel_rfl) (by kernel_rfl) (by rfl) (fun _ _ _ _ e h => ⟨e.symm.trans h.1, h.2⟩) ⟨p2, g0, g1, g2, g3, e0, e1, e2, e3, x0, x1⟩ ?_
                  iterate 18
                    refine Heads.step (v := ?_) rfl (by rfl) (fun W hW => ?_) ?_
                    rotate_left
                    · (obtain ⟨s0, s1, s2, s3, s4, s5, s6, s7, s8, s9, s10⟩ := hW; go_simp; try with_reducible rfl)
                  refine AnyZ.one (i := 10) (by kernel_rfl) rfl (fun K hK => ?_)
                  go_simp
                  refine (moved_any a b A1 A2 A3 B1 _ B3 c1 c2 c3 d1 d2 d3 l _ hs2.out hlb).mono ?_
                  rintro e wa ⟨rfl, hbwa⟩
                  have kp := Keeps.of_below hbwa
                  replace p2 := kp _ _ p2
                  replace g0 := kp _ _ g0
                  replace g1 := kp _ _ g1
                  replace g2 := kp _ _ g2
                  replace g3 := kp _ _ g3
                  replace e0 := kp _ _ e0
                  replace e1 := kp _ _ e1
                  replace e2 := kp _ _ e2
                  replace e3 := kp _ _ e3
                  replace x0 := kp _ _ x0
                  replace x1 := kp _ _ x1
                  clear kp
                  refine hK _ _ (fun _ => ⟨p2, g0, g1, g2, g3, e0, e1, e2, e3, x0, x1⟩) ?_
                  clear hK
                  have HA := (H.drew.call hbwa)
                  refine AnyZ.one (i := 19) (by kernel_rfl) rfl (fun K hK => ?_)
                  go_simp
                  refine (moved_any a b A1 A2 A3 B1 _ B3 c1 c2 c3 d1 d2 d3 m _ hs2.out hmb).mono ?_
                  rintro e wb ⟨rfl, hbwb⟩
                  have kp := Keeps.of_below hbwb
                  replace p2 := kp _ _ p2
                  replace g0 := kp _ _ g0
                  replace g1 := kp _ _ g1
                  replace g2 := kp _ _ g2
                  replace g3 := kp _ _ g3
                  replace e0 := kp _ _ e0
                  replace e1 := kp _ _ e1
                  replace e2 := kp _ _ e2
                  replace e3 := kp _ _ e3
                  replace x0 := kp _ _ x0
                  replace x1 := kp _ _ x1
                  clear kp
                  refine hK _ _ (fun _ => ⟨p2, g0, g1, g2, g3, e0, e1, e2, e3, x0, x1⟩) ?_
                  clear hK
                  replace HA := HA.call hbwb
                  refine AnyZ.one (i := 20) (by kernel_rfl) rfl (fun K hK => ?_)
                  go_simp
                  refine hK _ _ (fun _ => ⟨p2, g0, g1, g2, g3, e0, e1, e2, e3, x0, x1⟩) ?_
                  clear hK
                  refine AnyZ.one (i := 21) (by kernel_rfl) rfl (fun K hK => ?_)
                  go_simp
                  refine hK _ _ (fun _ => ⟨Keeps.alloc _ _ _ _ p2, Keeps.alloc _ _ _ _ g0, Keeps.alloc _ _ _ _ g1, Keeps.alloc _ _ _ _ g2, Keeps.alloc _ _ _ _ g3, Keeps.alloc _ _ _ _ e0, Keeps.alloc _ _ _ _ e1, Keeps.alloc _ _ _ _ e2, Keeps.alloc _ _ _ _ e3, Keeps.alloc _ _ _ _ x0, Keeps.alloc _ _ _ _ x1⟩) ?_
                  clear hK
                  refine AnyZ.one (i := 22) (by kernel_rfl) rfl (fun K hK => ?_)
                  refine step_append (by rfl) (.tmp 110) (.tmp 130) _ (by rfl) elPairJ w6.heap.size Q (a.n2 + i) q _ (by rfl) (World.ownsRow.alloc HA.r2 _) _ 1 1 [.int .i64 (mv2 a b l), .int .i64 (mv2 a b m)] (by rfl) (src_news wb #[.int .i64 (mv2 a b l), .int .i64 (mv2 a b m)] 49 2 1 rfl (by simp [Value.oneCell'])) HCB.out (by have := HA.size; simp; omega) ?_
                  intro Q' q' w8 ho hk' hb'
                  have hba := own_base HA.r2
                  have hb8 : GBox w8 (w.heap.size + 1 + 1 + 1) (.int .i64 (joint a b).ins) (.slice Q1 (a.n1 + b.n1) q1) (.slice Q (a.n2 + i) q) (.slice none (0) 0) := Arr.only (Arr.alloc HA.box _) hk' (fun c => by have := hba _ c; omega)
                  have f8 : w8.frozen? ⟨w.heap.size + 1 + 1 + 1, 2, none⟩ = false := Arr.thaw hb8 2
                  have p8 : w8.cell? ⟨w.heap.size + 1 + 1 + 1, 2, none⟩ = some (.slice Q (a.n2 + i) q) := hb8.at_.2.2.1
                  have H8 := (HA.alloc _).push2 hk' ho HL.out HM.out
                  refine hK _ _ (fun h => by cases h) ?_
                  clear hK hb8 ho hk' hb'
                  refine AnyZ.one (i := 23) (by kernel_rfl) rfl (fun K hK => ?_)
                  go_simp
                  refine hK _ _ (fun h => by cases h) ?_
                  clear hK
                  refine AnyZ.one (i := 24) (by kernel_rfl) rfl (fun K hK => ?_)
                  go_simp
                  refine hK _ _ (fun h => by cases h) (AnyZ.done (by kernel_rfl) ?_)
                  clear hK
                  go_wp2_with fail
                  go_roundw
                  case rel => exact ⟨i + 1, Q', q', by omega, by go_num, H8⟩
                  case measure => simp [intOf]; omega
                · obtain rfl : i = b.n2 := by omega
                  obtain ⟨Q3, hQ⟩ : ∃ x, x = Q := ⟨_, rfl⟩
                  obtain ⟨q3, hq⟩ : ∃ x, x = q := ⟨_, rfl⟩
                  rw [← hQ, ← hq] at H
                  rw [← hQ, ← hq] at p2
                  clear hQ hq Q q
                  go_wp2_with fail
                  clear p0 p1 p2 p3 g0 g1 g2 g3 e0 e1 e2 e3
                  go_loopw [10] (fun ix wi => ∃ (i : Nat) (Q : Option Addr) (q : Nat), i ≤ a.n3 ∧ ix = .int .i64 i ∧ JAt (joint a b) w6 wi (w.heap.size + 1 + 1 + 1) (a.n1 + b.n1) (a.n2 + b.n2) (i) Q1 Q3 Q q1 q3 q) (fun ix _ => a.n3 - (intOf ix).toNat)
                  case atStart => exact ⟨0, none, 0, by omega, rfl, H⟩
                  case round =>
                    clear H
                    obtain ⟨i, Q, q, hi, rfl, H⟩ := hrel
                    have HBr := Lib.hid (HBL.out.trans (H.only.below (B := w.heap.size) (fun j _ c => by omega) (by omega)))
                    have hszr := H.size
                    obtain ⟨g0, g1, g2, g3⟩ := (H.only.box qa (by omega)).four
                    obtain ⟨e0, e1, e2, e3⟩ := (H.only.box qb (by omega)).four
                    obtain ⟨p0, p1, p2, p3⟩ := H.box.at_
                    by_cases hlt : i < a.n3
                    · have hii : (i : Int) < a.n3 := by omega
                      obtain ⟨b1, o1, hA, x0⟩ := (ha.outs.keeps (Keeps.of_below HBr.out)).at_ hlt
                      subst hA
                      have hok := hva.outs i hlt
                      unfold G.LitOk at hok
                      obtain ⟨l, hl⟩ := Int.eq_ofNat_of_zero_le hok.1
                      have HL : Hid ((joint a b).O i = mv1 a b l) := Lib.hid (by rw [joint_O1 a b hlt, hl])
                      have hlb : l ≤ 1000000000000 := by omega
                      rw [hl] at x0
                      clear hl hok
                      have HCB := Lib.hid (show (i + 1) * 8 ≤ 140737488355328 by omega)
                      go_upto_region 21 with (fail)
                      refine wp_region_z (fun w' => w'.cell? ⟨w.heap.size + 1 + 1 + 1, 3, none⟩ = some (.slice Q (i) q) ∧ w'.cell? ⟨w.heap.size, 0, none⟩ = some (.int .i64 a.ins) ∧ w'.cell? ⟨w.heap.size, 1, none⟩ = some (.slice A1 a.n1 c1) ∧ w'.cell? ⟨w.heap.size, 2, none⟩ = some (.slice A2 a.n2 c2) ∧ w'.cell? ⟨w.heap.size, 3, none⟩ = some (.slice (some ⟨b1, o1, none⟩) a.n3 c3) ∧ w'.cell? ⟨w.heap.size + 1, 0, none⟩ = some (.int .i64 b.ins) ∧ w'.cell? ⟨w.heap.size + 1, 1, none⟩ = some (.slice B1 b.n1 d1) ∧ w'.cell? ⟨w.heap.size + 1, 2, none⟩ = some (.slice B2 b.n2 d2) ∧ w'.cell? ⟨w.heap.size + 1, 3, none⟩ = some (.slice B3 b.n3 d3) ∧ w'.cell? ⟨b1, o1 + i, none⟩ = some (.int .i64 l)) [0, 1, 2, 3, 4, 5, 6, 7, 8] [11, 12, 13] (by kernel_rfl) (by kernel_rfl) (by kernel_rfl) (by rfl) (fun _ _ _ _ e h => ⟨e.symm.trans h.1, h.2⟩) ⟨p3, g0, g1, g2, g3, e0, e1, e2, e3, x0⟩ ?_
                      iterate 9
                        refine Heads.step (v := ?_) rfl (by rfl) (fun W hW => ?_) ?_
                        rotate_left
                        · (obtain ⟨s0, s1, s2, s3, s4, s5, s6, s7, s8, s9⟩ := hW; go_simp; try with_reducible rfl)
                      refine AnyZ.one (i := 9) (by kernel_rfl) rfl (fun K hK => ?_)
                      go_simp
                      refine (movedOne_any a b A1 A2 _ B1 B2 B3 c1 c2 c3 d1 d2 d3 l _ hs2.out hlb).mono ?_
                      rintro e wa ⟨rfl, hbwa⟩
                      have kp := Keeps.of_below hbwa
                      replace p3 := kp _ _ p3
                      replace g0 := kp _ _ g0
                      replace g1 := kp _ _ g1
                      replace g2 := kp _ _ g2
                      replace g3 := kp _ _ g3
                      replace e0 := kp _ _ e0
                      replace e1 := kp _ _ e1
                      replace e2 := kp _ _ e2
                      replace e3 := kp _ _ e3
                      replace x0 := kp _ _ x0
                      clear kp
                      refine hK _ _ (fun _ => ⟨p3, g0, g1, g2, g3, e0, e1, e2, e3, x0⟩) ?_
                      clear hK
                      have HA := (H.drew.call hbwa)
                      refine AnyZ.one (i := 10) (by kernel_rfl) rfl (fun K hK => ?_)
                      go_simp
                      refine hK _ _ (fun _ => ⟨Keeps.alloc _ _ _ _ p3, Keeps.alloc _ _ _ _ g0, Keeps.alloc _ _ _ _ g1, Keeps.alloc _ _ _ _ g2, Keeps.alloc _ _ _ _ g3, Keeps.alloc _ _ _ _ e0, Keeps.alloc _ _ _ _ e1, Keeps.alloc _ _ _ _ e2, Keeps.alloc _ _ _ _ e3, Keeps.alloc _ _ _ _ x0⟩) ?_
                      clear hK
                      refine AnyZ.one (i := 11) (by kernel_rfl) rfl (fun K hK => ?_)
                      refine step_append (by rfl) (.tmp 141) (.tmp 150) _ (by rfl) elIntK w6.heap.size Q (i) q _ (by rfl) (World.ownsRow.alloc HA.r3 _) _ 1 1 [.int .i64 (mv1 a b l)] (by rfl) (src_new wa _ _ rfl) HCB.out (by have := HA.size; simp; omega) ?_
                      intro Q' q' w8 ho hk' hb'
                      have hba := own_base HA.r3
                      have hb8 : GBox w8 (w.heap.size + 1 + 1 + 1) (.int .i64 (joint a b).ins) (.slice Q1 (a.n1 + b.n1) q1) (.slice Q3 (a.n2 + b.n2) q3) (.slice Q (i) q) := Arr.only (Arr.alloc HA.box _) hk' (fun c => by have := hba _ c; omega)
                      have f8 : w8.frozen? ⟨w.heap.size + 1 + 1 + 1, 3, none⟩ = false := Arr.thaw hb8 3
                      have p8 : w8.cell? ⟨w.heap.size + 1 + 1 + 1, 3, none⟩ = some (.slice Q (i) q) := hb8.at_.2.2.2
                      have H8 := (HA.alloc _).push3 hk' ho HL.out
                      refine hK _ _ (fun h => by cases h) ?_
                      clear hK hb8 ho hk' hb'
                      refine AnyZ.one (i := 12) (by kernel_rfl) rfl (fun K hK => ?_)
                      go_simp
                      refine hK _ _ (fun h => by cases h) ?_
                      clear hK
                      refine AnyZ.one (i := 13) (by kernel_rfl) rfl (fun K hK => ?_)
                      go_simp
                      refine hK _ _ (fun h => by cases h) (AnyZ.done (by kernel_rfl) ?_)
                      clear hK
                      go_wp2_with fail
                      go_roundw
                      case rel => exact ⟨i + 1, Q', q', by omega, by go_num, H8⟩
                      case measure => simp [intOf]; omega
                    · obtain rfl : i = a.n3 := by omega
                      obtain ⟨Q4, hQ⟩ : ∃ x, x = Q := ⟨_, rfl⟩
                      obtain ⟨q4, hq⟩ : ∃ x, x = q := ⟨_, rfl⟩
                      rw [← hQ, ← hq] at H
                      rw [← hQ, ← hq] at p3
                      clear hQ hq Q q
                      go_wp2_with fail
                      clear p0 p1 p2 p3 g0 g1 g2 g3 e0 e1 e2 e3
                      go_loopw [11] (fun ix wi => ∃ (i : Nat) (Q : Option Addr) (q : Nat), i ≤ b.n3 ∧ ix = .int .i64 i ∧ JAt (joint a b) w6 wi (w.heap.size + 1 + 1 + 1) (a.n1 + b.n1) (a.n2 + b.n2) (a.n3 + i) Q1 Q3 Q q1 q3 q) (fun ix _ => b.n3 - (intOf ix).toNat)
                      case atStart => exact ⟨0, Q4, q4, by omega, rfl, H⟩
                      case round =>
                        clear H
                        obtain ⟨i, Q, q, hi, rfl, H⟩ := hrel
                        have HBr := Lib.hid (HBL.out.trans (H.only.below (B := w.heap.size) (fun j _ c => by omega) (by omega)))
                        have hszr := H.size
                        obtain ⟨g0, g1, g2, g3⟩ := (H.only.box qa (by omega)).four
                        obtain ⟨e0, e1, e2, e3⟩ := (H.only.box qb (by omega)).four
                        obtain ⟨p0, p1, p2, p3⟩ := H.box.at_
                        by_cases hlt : i < b.n3
                        · have hii : (i : Int) < b.n3 := by omega
                          obtain ⟨b1, o1, hA, x0⟩ := (hb.outs.keeps (Keeps.of_below HBr.out)).at_ hlt
                          subst hA
                          have hok := hvb.outs i hlt
                          unfold G.LitOk at hok
                          obtain ⟨l, hl⟩ := Int.eq_ofNat_of_zero_le hok.1
                          have HL : Hid ((joint a b).O (a.n3 + i) = mv2 a b l) := Lib.hid (by rw [joint_O2 a b, hl])
                          have hlb : l ≤ 1000000000000 := by omega
                          rw [hl] at x0
                          clear hl hok
                          have HCB := Lib.hid (show (a.n3 + i + 1) * 8 ≤ 140737488355328 by omega)
                          go_upto_region 25 with (fail)
                          refine wp_region_z (fun w' => w'.cell? ⟨w.heap.size + 1 + 1 + 1, 3, none⟩ = some (.slice Q (a.n3 + i) q) ∧ w'.cell? ⟨w.heap.size, 0, none⟩ = some (.int .i64 a.ins) ∧ w'.cell? ⟨w.heap.size, 1, none⟩ = some (.slice A1 a.n1 c1) ∧ w'.cell? ⟨w.heap.size, 2, none⟩ = some (.slice A2 a.n2 c2) ∧ w'.cell? ⟨w.heap.size, 3, none⟩ = some (.slice A3 a.n3 c3) ∧ w'.cell? ⟨w.heap.size + 1, 0, none⟩ = some (.int .i64 b.ins) ∧ w'.cell? ⟨w.heap.size + 1, 1, none⟩ = some (.slice B1 b.n1 d1) ∧ w'.cell? ⟨w.heap.size + 1, 2, none⟩ = some (.slice B2 b.n2 d2) ∧ w'.cell? ⟨w.heap.size + 1, 3, none⟩ = some (.slice (some ⟨b1, o1, none⟩) b.n3 d3) ∧ w'.cell? ⟨b1, o1 + i, none⟩ = some (.int .i64 l)) [0, 1, 2, 3, 4, 5, 6, 7, 8] [11, 12, 13] (by kernel_rfl) (by kernel_rfl) (by kernel_rfl) (by rfl) (fun _ _ _ _ e h => ⟨e.symm.trans h.1, h.2⟩) ⟨p3, g0, g1, g2, g3, e0, e1, e2, e3, x0⟩ ?_
                          iterate 9
                            refine Heads.step (v := ?_) rfl (by rfl) (fun W hW => ?_) ?_
                            rotate_left
                            · (obtain ⟨s0, s1, s2, s3, s4, s5, s6, s7, s8, s9⟩ := hW; go_simp; try with_reducible rfl)
                          refine AnyZ.one (i := 9) (by kernel_rfl) rfl (fun K hK => ?_)
                          go_simp
                          refine (moved_any a b A1 A2 A3 B1 B2 _ c1 c2 c3 d1 d2 d3 l _ hs2.out hlb).mono ?_
                          rintro e wa ⟨rfl, hbwa⟩
                          have kp := Keeps.of_below hbwa
                          replace p3 := kp _ _ p3
                          replace g0 := kp _ _ g0
                          replace g1 := kp _ _ g1
                          replace g2 := kp _ _ g2
                          replace g3 := kp _ _ g3
                          replace e0 := kp _ _ e0
                          replace e1 := kp _ _ e1
                          replace e2 := kp _ _ e2
                          replace e3 := kp _ _ e3
                          replace x0 := kp _ _ x0
                          clear kp
                          refine hK _ _ (fun _ => ⟨p3, g0, g1, g2, g3, e0, e1, e2, e3, x0⟩) ?_
                          clear hK
                          have HA := (H.drew.call hbwa)
                          refine AnyZ.one (i := 10) (by kernel_rfl) rfl (fun K hK => ?_)
                          go_simp
                          refine hK _ _ (fun _ => ⟨Keeps.alloc _ _ _ _ p3, Keeps.alloc _ _ _ _ g0, Keeps.alloc _ _ _ _ g1, Keeps.alloc _ _ _ _ g2, Keeps.alloc _ _ _ _ g3, Keeps.alloc _ _ _ _ e0, Keeps.alloc _ _ _ _ e1, Keeps.alloc _ _ _ _ e2, Keeps.alloc _ _ _ _ e3, Keeps.alloc _ _ _ _ x0⟩) ?_
                          clear hK
                          refine AnyZ.one (i := 11) (by kernel_rfl) rfl (fun K hK => ?_)
                          refine step_append (by rfl) (.tmp 161) (.tmp 170) _ (by rfl) elIntK w6.heap.size Q (a.n3 + i) q _ (by rfl) (World.ownsRow.alloc HA.r3 _) _ 1 1 [.int .i64 (mv2 a b l)] (by rfl) (src_new wa _ _ rfl) HCB.out (by have := HA.size; simp; omega) ?_
                          intro Q' q' w8 ho hk' hb'
                          have hba := own_base HA.r3
                          have hb8 : GBox w8 (w.heap.size + 1 + 1 + 1) (.int .i64 (joint a b).ins) (.slice Q1 (a.n1 + b.n1) q1) (.slice Q3 (a.n2 + b.n2) q3) (.slice Q (a.n3 + i) q) := Arr.only (Arr.alloc HA.box _) hk' (fun c => by have := hba _ c; omega)
                          have f8 : w8.frozen? ⟨w.heap.size + 1 + 1 + 1, 3, none⟩ = false := Arr.thaw hb8 3
                          have p8 : w8.cell? ⟨w.heap.size + 1 + 1 + 1, 3, none⟩ = some (.slice Q (a.n3 + i) q) := hb8.at_.2.2.2
                          have H8 := (HA.alloc _).push3 hk' ho HL.out
                          refine hK _ _ (fun h => by cases h) ?_
                          clear hK hb8 ho hk' hb'
                          refine AnyZ.one (i := 12) (by kernel_rfl) rfl (fun K hK => ?_)
                          go_simp
                          refine hK _ _ (fun h => by cases h) ?_
                          clear hK
                          refine AnyZ.one (i := 13) (by kernel_rfl) rfl (fun K hK => ?_)
                          go_simp
                          refine hK _ _ (fun h => by cases h) (AnyZ.done (by kernel_rfl) ?_)
                          clear hK
                          go_wp2_with fail
                          go_roundw
                          case rel => exact ⟨i + 1, Q', q', by omega, by go_num, H8⟩
                          case measure => simp [intOf]; omega
                        · obtain rfl : i = b.n3 := by omega
                          obtain ⟨Q5, hQ⟩ : ∃ x, x = Q := ⟨_, rfl⟩
                          obtain ⟨q5, hq⟩ : ∃ x, x = q := ⟨_, rfl⟩
                          rw [← hQ, ← hq] at H
                          rw [← hQ, ← hq] at p3
                          clear hQ hq Q q
                          have hrs8 : GBox wr (w.heap.size + 1 + 1) (.int .i64 0) (.slice none 0 0) (.slice none 0 0) (.slice none 0 0) := Arr.only qr H.only (by omega)
                          obtain ⟨r0, r1, r2, r3⟩ := hrs8.at_
                          have u0 := Arr.thaw hrs8 0
                          have u1 := Arr.thaw hrs8 1
                          have u2 := Arr.thaw hrs8 2
                          have u3 := Arr.thaw hrs8 3
                          go_wp2_with fail
                          have h9 := (((hrs8.put0 (.int .i64 (joint a b).ins)).put1 (.slice Q1 (a.n1 + b.n1) q1)).put2 (.slice Q3 (a.n2 + b.n2) q3)).put3 (.slice Q5 (a.n3 + b.n3) q5)
                          have hO9 := ((((Only.refl (fun j => j = w.heap.size + 1 + 1) wr).setCell (p := ⟨w.heap.size + 1 + 1, 0, none⟩) (fun _ => rfl) (.int .i64 (joint a b).ins)).setCell (p := ⟨w.heap.size + 1 + 1, 1, none⟩) (fun _ => rfl) (.slice Q1 (a.n1 + b.n1) q1)).setCell (p := ⟨w.heap.size + 1 + 1, 2, none⟩) (fun _ => rfl) (.slice Q3 (a.n2 + b.n2) q3)).setCell (p := ⟨w.heap.size + 1 + 1, 3, none⟩) (fun _ => rfl) (.slice Q5 (a.n3 + b.n3) q5)
                          generalize (((wr.setCell ⟨w.heap.size + 1 + 1, 0, none⟩ (.int .i64 (joint a b).ins)).setCell ⟨w.heap.size + 1 + 1, 1, none⟩ (.slice Q1 (a.n1 + b.n1) q1)).setCell ⟨w.heap.size + 1 + 1, 2, none⟩ (.slice Q3 (a.n2 + b.n2) q3)).setCell ⟨w.heap.size + 1 + 1, 3, none⟩ (.slice Q5 (a.n3 + b.n3) q5) = w9 at *
                          obtain ⟨t0, t1, t2, t3⟩ := h9.at_
                          have hB9 := HBr.out.trans (hO9.below (B := w.heap.size) (fun j _ c => by omega) (by omega))
                          have hat := JAt.at_ (g := joint a b) H hO9 (by omega)
                          refine bodyPost_ret (v := .agg #[.int .i64 (joint a b).ins, .slice Q1 (a.n1 + b.n1) q1, .slice Q3 (a.n2 + b.n2) q3, .slice Q5 (a.n3 + b.n3) q5]) ?_ rfl ?_
                          · simp [results, Try.results22, go_sem, t0, t1, t2, t3]
                          · exact ⟨_, _, _, _, _, _, rfl, hat, hB9⟩
end Go.Proofs.Ytkanekacjefcbaa
