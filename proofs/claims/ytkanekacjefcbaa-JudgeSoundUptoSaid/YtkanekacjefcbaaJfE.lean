/- The reference's Formed, walked, number 0 of the three. Conditions: both graphs are valid and lie in memory, the pairs too and are literals of the joint graph. The reference's Formed, walked, number 1 of the three. Conditions: both graphs are valid and lie in memory, the pairs too and are literals of the joint graph. The reference's Formed, walked, number 2 of the three. Conditions: both graphs are valid and lie in memory, the pairs too and are literals of the joint graph. -/
import Derived.Test.YtkanekacjefcbaaJfF
import Derived.Test.YtkanekacjefcbaaJointR
import Derived.Test.YtkanekacjefcbaaPairedJ
import Derived.Deep.DeepCutAuto
namespace Go.Proofs.Ytkanekacjefcbaa
open Go.RowKit

set_option maxHeartbeats 8000000 in
set_option maxRecDepth 100000 in
theorem formed0_any (a b : G) (A1 A2 A3 B1 B2 B3 : Option Addr) (c1 c2 c3 d1 d2 d3 : Nat) (PA : Option Addr) (np pc : Nat) (P Q : Nat → Int) (w : World) (ha : a.At w A1 A2 A3) (hb : b.At w B1 B2 B3) (hva : a.Valid) (hvb : b.Valid) (hi : a.ins = b.ins)
    (hp : RowS w 2 PA np (fun k => two (.int .i64 (P k)) (.int .i64 (Q k)))) (hok : PairsOk (joint a b) np P Q) (hnp : np ≤ 2000000) :
    Calls Try.prog 23 #[.agg #[.int .i64 a.ins, .slice A1 a.n1 c1, .slice A2 a.n2 c2, .slice A3 a.n3 c3], .agg #[.int .i64 b.ins, .slice B1 b.n1 d1, .slice B2 b.n2 d2, .slice B3 b.n3 d3], .slice PA np pc, .int .i64 0] w (FormP (formVars (joint a b) a.n3 np 0) (formC (joint a b) a.n3 np P Q 0) w) := by
  obtain ⟨n, hn, hm⟩ := joint_made hva hvb hi
  clear hi
  obtain ⟨a1, a2, a3, a4, a5⟩ := hva.small
  obtain ⟨b1, b2, b3, b4, b5⟩ := hvb.small
  go_enter Try.func23, Try.ntmps23
  go_upto_region 1 with (fail)
  have qa := BoxAt.new w [.int .i64 a.ins, .slice A1 a.n1 c1, .slice A2 a.n2 c2, .slice A3 a.n3 c3] 30
  have hbl : Below w.heap.size w (w.alloc (.cells #[.int .i64 a.ins, .slice A1 a.n1 c1, .slice A2 a.n2 c2, .slice A3 a.n3 c3] 30)) := (Below.refl _ _).alloc (Nat.le_refl _) _
  have hz1 : (w.alloc (.cells #[.int .i64 a.ins, .slice A1 a.n1 c1, .slice A2 a.n2 c2, .slice A3 a.n3 c3] 30)).heap.size = w.heap.size + 1 := by simp
  generalize w.alloc (.cells #[.int .i64 a.ins, .slice A1 a.n1 c1, .slice A2 a.n2 c2, .slice A3 a.n3 c3] 30) = v1 at *
  have qb := BoxAt.new v1 [.int .i64 b.ins, .slice B1 b.n1 d1, .slice B2 b.n2 d2, .slice B3 b.n3 d3] 30
  rw [hz1] at qb
  replace qa := qa.keeps (Keeps.alloc v1 (.cells #[.int .i64 b.ins, .slice B1 b.n1 d1, .slice B2 b.n2 d2, .slice B3 b.n3 d3] 30))
  replace hbl := hbl.alloc (by omega) (.cells #[.int .i64 b.ins, .slice B1 b.n1 d1, .slice B2 b.n2 d2, .slice B3 b.n3 d3] 30)
  have hz2 : (v1.alloc (.cells #[.int .i64 b.ins, .slice B1 b.n1 d1, .slice B2 b.n2 d2, .slice B3 b.n3 d3] 30)).heap.size = w.heap.size + 1 + 1 := by simp [hz1]
  generalize v1.alloc (.cells #[.int .i64 b.ins, .slice B1 b.n1 d1, .slice B2 b.n2 d2, .slice B3 b.n3 d3] 30) = v2 at *
  clear hz1
  have qr := Arr.new v2 #[.int .i64 0, .slice none 0 0] 24
  rw [hz2] at qr
  replace qa := qa.keeps (Keeps.alloc v2 (.cells #[.int .i64 0, .slice none 0 0] 24))
  replace qb := qb.keeps (Keeps.alloc v2 (.cells #[.int .i64 0, .slice none 0 0] 24))
  replace hbl := hbl.alloc (by omega) (.cells #[.int .i64 0, .slice none 0 0] 24)
  have hz3 : (v2.alloc (.cells #[.int .i64 0, .slice none 0 0] 24)).heap.size = w.heap.size + 1 + 1 + 1 := by simp [hz2]
  generalize v2.alloc (.cells #[.int .i64 0, .slice none 0 0] 24) = w3 at *
  clear hz2
  have HBL := Lib.hid hbl; clear hbl
  have hs6 : w.heap.size + 3 ≤ w3.heap.size := by omega
  have hs6b : w3.heap.size ≤ w.heap.size + 3 := by omega
  have HSZ := Lib.hid hz3; clear hz3
  obtain ⟨g0, g1, g2, g3⟩ := qa.four
  obtain ⟨e0, e1, e2, e3⟩ := qb.four
  go_wp2_with fail
  refine (joint_any a b A1 A2 A3 B1 B2 B3 c1 c2 c3 d1 d2 d3 _ (ha.keeps (Keeps.of_below HBL.out)) (hb.keeps (Keeps.of_below HBL.out)) hva hvb).mono ?_
  rintro e wj ⟨J1, J2, J3, k1, k2, k3, rfl, HG, hbj⟩
  clear g0 g1 g2 g3 e0 e1 e2 e3 qa qb
  have HBJ := Lib.hid (Below.then_call HBL.out hbj (by omega))
  replace qr := Arr.below qr hbj
  have hsj := hbj.size
  clear hbj
  have hg1 : (joint a b).n1 ≤ 12000 := by (show a.n1 + b.n1 ≤ 12000); omega
  have hg2 : (joint a b).n2 ≤ 120000 := by (show a.n2 + b.n2 ≤ 120000); omega
  have hg3 : (joint a b).n3 ≤ 120000 := by (show a.n3 + b.n3 ≤ 120000); omega
  generalize joint a b = g at *
  have hpr : ∀ i, i < np → 0 ≤ P i ∧ P i < 2 * n ∧ 0 ≤ Q i ∧ Q i < 2 * n := fun i hi => by
    have h1 := hok i hi
    rw [hm.vars] at h1
    exact ⟨h1.1.1, h1.1.2, h1.2.1, h1.2.2⟩
  have HPR := Lib.hid hpr; clear hpr hok
  have hv : (n : Int) = 1 + g.ins + g.n1 + g.n2 := by rw [← hm.vars]; rfl
  have HVN := Lib.hid hv; clear hv
  have hins := hm.ins
  have hinb : g.ins + g.n1 + g.n2 < n := by have := HVN.out; omega
  go_wp2_with fail
  have hbx := Arr.new wj #[.int .i64 g.ins, .slice J1 g.n1 k1, .slice J2 g.n2 k2, .slice J3 g.n3 k3, .int .i64 0, .slice none 0 0] 83
  obtain ⟨B, hB⟩ : ∃ B, B = wj.heap.size := ⟨_, rfl⟩
  have HB := Lib.hid hB.symm
  obtain ⟨w5, hw5⟩ : ∃ w5, w5 = wj.alloc (.cells #[.int .i64 g.ins, .slice J1 g.n1 k1, .slice J2 g.n2 k2, .slice J3 g.n3 k3, .int .i64 0, .slice none 0 0] 83) := ⟨_, rfl⟩
  have hz5 : w5.heap.size = B + 1 := by rw [hw5, hB]; simp
  replace qr := Arr.alloc qr (.cells #[.int .i64 g.ins, .slice J1 g.n1 k1, .slice J2 g.n2 k2, .slice J3 g.n3 k3, .int .i64 0, .slice none 0 0] 83)
  have HBW : Hid (Below w.heap.size w w5) := Lib.hid (by rw [hw5]; exact HBJ.out.alloc (by have := HBJ.out.size; omega) _)
  have HW5 := Lib.hid hw5
  rw [← hw5, ← hB] at hbx
  rw [← hw5] at qr
  rw [← hw5, ← hB]
  clear hw5
  have HGK : Hid (∀ w', Only (fun k => ¬ k < B) w5 w' → g.At w' J1 J2 J3) := Lib.hid (fun w' h => HG.keeps (Keeps.low HB.out HW5.out h (fun k hk => hk)))
  have HPK : Hid (∀ w', Only (fun k => ¬ k < B) w5 w' → RowS w' 2 PA np (fun k => two (.int .i64 (P k)) (.int .i64 (Q k)))) := Lib.hid (fun w' h => (hp.keeps (Keeps.of_below HBJ.out)).keeps (Keeps.low HB.out HW5.out h (fun k hk => hk)))
  have H0 : Mk g (fun k => k < B) w5 w5 B (B + 1) J1 J2 J3 k1 k2 k3 (.int .i64 0) ([]) none 0 [] := ⟨hbx.congr (fun j hj => by
      obtain rfl | rfl | rfl | rfl | rfl | rfl : j = 0 ∨ j = 1 ∨ j = 2 ∨ j = 3 ∨ j = 4 ∨ j = 5 := by (have hj' : j < 6 := hj); omega
      all_goals rfl), Cl.nil _ _, Only.refl _ _, Nat.lt_irrefl B, fun k hk => ⟨by omega, .inl (by omega)⟩, by omega⟩
  have hBs : w.heap.size + 3 ≤ B := by rw [hB]; omega
  have HZ5 := Lib.hid hz5
  clear hbx hB hz5
  refine (frameM_any g n _ w5 B (B + 1) J1 J2 J3 k1 k2 k3 _ [] none 0 [] 0 w5 H0 HGK.out hm (by omega) (by omega) (by simp; omega)).mono ?_
  rintro e w6 ⟨⟨v6, rfl⟩, hz6, A6, n6, vs6, H6⟩
  replace H6 : Mk g (fun k => k < B) w5 w6 B (B + 1) J1 J2 J3 k1 k2 k3 (.int .i64 0) (frameC g 0) A6 n6 vs6 := by simpa using H6
  clear H0 hz6
  go_wp2_with fail
  go_loopw [10] (fun ix wi => ∃ i : Nat, i ≤ g.n1 ∧ ix = .int .i64 i ∧ Hid (∃ A c vs, Mk g (fun k => k < B) w5 wi B (B + 1) J1 J2 J3 k1 k2 k3 (.int .i64 0) (frameC g 0 ++ upC (initC g) i) A c vs)) (fun ix _ => g.n1 - (intOf ix).toNat)
  case atStart => exact ⟨0, by omega, rfl, Lib.hid ⟨_, _, _, by rw [upC, List.append_nil]; exact H6⟩⟩
  case round =>
    clear H6
    obtain ⟨i, hi, rfl, HM⟩ := hrel
    obtain ⟨A', c', vs', H⟩ := HM.out
    clear HM
    have q0 : wr.cell? ⟨B, 0, none⟩ = some (.int .i64 g.ins) := H.box.cell (k := 0) (by omega)
    have q1 : wr.cell? ⟨B, 1, none⟩ = some (.slice J1 g.n1 k1) := H.box.cell (k := 1) (by omega)
    by_cases hlt : i < g.n1
    · have hii : (i : Int) < g.n1 := by omega
      obtain ⟨ba, oa, hA, x0, x1⟩ := (HGK.out _ H.bel).lat.at2 hlt
      simp only [two] at x0 x1
      have HIC : Hid (initC g i = [[if g.I i = true then atC g.vars 0 (2 * (1 + g.ins + i)) else -atC g.vars 0 (2 * (1 + g.ins + i))]]) := rfl
      have HGC : Hid (upC (initC g) (i + 1) = upC (initC g) i ++ initC g i) := rfl
      have hll : (frameC g 0 ++ upC (initC g) i).length ≤ 1 + 3 * g.n2 + g.n1 := by simp [frameC_len, initC_len]; omega
      generalize hLL : frameC g 0 ++ upC (initC g) i = LL at *
      have HLL := Lib.hid hLL; clear hLL
      generalize g.I i = bi at *
      subst hA
      cases bi
      · go_wp2_with fail
        refine (atMk_any g n _ w5 B (B + 1) _ J2 J3 k1 k2 k3 _ _ _ _ _ 0 (2 * (1 + g.ins + i) + 1) _ H hm (by omega) (by omega) (by omega)).mono ?_
        rintro e wa ⟨rfl, hba⟩
        have Ha := H.call hba
        have HX : Hid (atC g.vars ((0 : Nat) : Int) (2 * (1 + g.ins + i) + 1) = -atC g.vars 0 (2 * (1 + g.ins + i))) := Lib.hid (by rw [atC_odd]; rfl)
        generalize atC g.vars ((0 : Nat) : Int) (2 * (1 + g.ins + i) + 1) = X at *
        clear q0 q1 x0 x1 hba H
        go_wp2_with fail
        refine (putMk_any g _ w5 B (B + 1) _ J2 J3 k1 k2 k3 _ _ _ _ _ [X] _ _ Ha rfl (by omega) (by omega)).mono ?_
        rintro e wd ⟨⟨v3, rfl⟩, hzd, Ad, cd, vd, Hd⟩
        have HS : Hid (∃ A c vs, Mk g (fun k => k < B) w5 wd B (B + 1) (some ⟨ba, oa, none⟩) J2 J3 k1 k2 k3 (.int .i64 0) (frameC g 0 ++ upC (initC g) (i + 1)) A c vs) := Lib.hid ⟨Ad, cd, vd, by
          have e1 : frameC g 0 ++ upC (initC g) (i + 1) = LL ++ [[X]] := by
            rw [HGC.out, HIC.out, ← List.append_assoc, HLL.out, HX.out]
            rfl
          rw [e1]
          exact Hd⟩
        clear Ha Hd
        go_wp2_with fail
        go_roundw
        case rel => exact ⟨i + 1, by omega, by go_num, HS⟩
        case measure => simp [intOf]; omega
      · go_wp2_with fail
        refine (atMk_any g n _ w5 B (B + 1) _ J2 J3 k1 k2 k3 _ _ _ _ _ 0 (2 * (1 + g.ins + i)) _ H hm (by omega) (by omega) (by omega)).mono ?_
        rintro e wa ⟨rfl, hba⟩
        have Ha := H.call hba
        generalize atC g.vars ((0 : Nat) : Int) (2 * (1 + g.ins + i)) = X at *
        clear q0 q1 x0 x1 hba H
        go_wp2_with fail
        refine (putMk_any g _ w5 B (B + 1) _ J2 J3 k1 k2 k3 _ _ _ _ _ [X] _ _ Ha rfl (by omega) (by omega)).mono ?_
        rintro e wd ⟨⟨v3, rfl⟩, hzd, Ad, cd, vd, Hd⟩
        have HS : Hid (∃ A c vs, Mk g (fun k => k < B) w5 wd B (B + 1) (some ⟨ba, oa, none⟩) J2 J3 k1 k2 k3 (.int .i64 0) (frameC g 0 ++ upC (initC g) (i + 1)) A c vs) := Lib.hid ⟨Ad, cd, vd, by
          have e1 : frameC g 0 ++ upC (initC g) (i + 1) = LL ++ [[X]] := by
            rw [HGC.out, HIC.out, ← List.append_assoc, HLL.out]
            rfl
          rw [e1]
          exact Hd⟩
        clear Ha Hd
        go_wp2_with fail
        go_roundw
        case rel => exact ⟨i + 1, by omega, by go_num, HS⟩
        case measure => simp [intOf]; omega
    · obtain rfl : i = g.n1 := by omega
      go_wp2_with fail
      clear q0 q1
      refine (unlikeM_any g n _ w5 B (B + 1) J1 J2 J3 k1 k2 k3 _ _ A' c' vs' 0 1 PA np pc P Q wr H HPK.out HPR.out hm (by omega) (by omega) (by omega) (by simp [frameC_len, initC_len]; omega)).mono ?_
      rintro e w7 ⟨⟨v7, rfl⟩, hz7, A7, n7, vs7, H7⟩
      have e1 : frameC g 0 ++ upC (initC g) g.n1 ++ unlikeC g ((0 : Nat) : Int) ((1 : Nat) : Int) np P Q = formC g a.n3 np P Q 0 := rfl
      have e2 : (((1 : Nat) : Int)) * g.vars + np = formVars g a.n3 np 0 := by simp [formVars]
      rw [e1, e2] at H7
      clear H e1 e2
      have H := H7
      clear H7
      have r4 : w7.cell? ⟨B, 4, none⟩ = some (.int .i64 (formVars g a.n3 np 0)) := H.box.cell (k := 4) (by omega)
      have r5 : w7.cell? ⟨B, 5, none⟩ = some (.slice A7 (formC g a.n3 np P Q 0).length n7) := H.box.cell (k := 5) (by omega)
      have qr2 := Arr.only qr H.bel (fun c => c (by omega))
      have u0 := qr2.cell (k := 0) (by simp)
      have u1 := qr2.cell (k := 1) (by simp)
      have f0 := qr2.thaw 0
      have f1 := qr2.thaw 1
      have HFV : Hid (∀ x, formVars g a.n3 np 0 = x → formVars g a.n3 np 0 = x) := Lib.hid (fun _ h => h)
      have HH := Lib.hid H; clear H
      generalize formVars g a.n3 np 0 = FV at *
      generalize formC g a.n3 np P Q 0 = FC at *
      go_wp2_with fail
      have h9 := Arr.set (V' := fun j => if j = 0 then .int .i64 FV else .slice none 0 0) (k := 0) (x := .int .i64 FV) qr2 (fun j hj hne => by
        obtain rfl : j = 1 := by (have hj' : j < 2 := hj); omega
        rfl) rfl
      replace h9 := Arr.set (V' := fun j => if j = 0 then .int .i64 FV else .slice A7 FC.length n7) (k := 1) (x := .slice A7 FC.length n7) h9 (fun j hj hne => by
        obtain rfl : j = 0 := by (have hj' : j < 2 := hj); omega
        rfl) rfl
      have hO9 := ((Only.refl (fun j => j = w.heap.size + 1 + 1) w7).setCell (p := ⟨w.heap.size + 1 + 1, 0, none⟩) (fun _ => rfl) (.int .i64 FV)).setCell (p := ⟨w.heap.size + 1 + 1, 1, none⟩) (fun _ => rfl) (.slice A7 FC.length n7)
      generalize (w7.setCell ⟨w.heap.size + 1 + 1, 0, none⟩ (.int .i64 FV)).setCell ⟨w.heap.size + 1 + 1, 1, none⟩ (.slice A7 FC.length n7) = w9 at *
      have t0 := h9.cell (k := 0) (by simp)
      have t1 := h9.cell (k := 1) (by simp)
      simp only [if_true, if_false, Nat.one_ne_zero] at t0 t1
      have hB9 := (HBW.out.trans (HH.out.bel.below (B := w.heap.size) (fun j _ c => by omega) (by have := HBW.out.size; omega))).trans (hO9.below (B := w.heap.size) (fun j _ c => by omega) (by have := HBW.out.size; have := HH.out.bel.size; omega))
      have hcl := HH.out.cl.far hO9 (by omega)
      refine bodyPost_ret (v := .agg #[.int .i64 FV, .slice A7 FC.length n7]) ?_ rfl ?_
      · simp [results, Try.results23, go_sem, t0, t1]
      · exact ⟨_, _, _, _, rfl, hcl, hB9⟩
end Go.Proofs.Ytkanekacjefcbaa
namespace Go.Proofs.Ytkanekacjefcbaa
open Go.RowKit

set_option maxHeartbeats 8000000 in
set_option maxRecDepth 100000 in
theorem formed1_any (a b : G) (A1 A2 A3 B1 B2 B3 : Option Addr) (c1 c2 c3 d1 d2 d3 : Nat) (PA : Option Addr) (np pc : Nat) (P Q : Nat → Int) (w : World) (ha : a.At w A1 A2 A3) (hb : b.At w B1 B2 B3) (hva : a.Valid) (hvb : b.Valid) (hi : a.ins = b.ins)
    (hp : RowS w 2 PA np (fun k => two (.int .i64 (P k)) (.int .i64 (Q k)))) (hok : PairsOk (joint a b) np P Q) (hnp : np ≤ 2000000) :
    Calls Try.prog 23 #[.agg #[.int .i64 a.ins, .slice A1 a.n1 c1, .slice A2 a.n2 c2, .slice A3 a.n3 c3], .agg #[.int .i64 b.ins, .slice B1 b.n1 d1, .slice B2 b.n2 d2, .slice B3 b.n3 d3], .slice PA np pc, .int .i64 1] w (FormP (formVars (joint a b) a.n3 np 1) (formC (joint a b) a.n3 np P Q 1) w) := by
  obtain ⟨n, hn, hm⟩ := joint_made hva hvb hi
  clear hi
  obtain ⟨a1, a2, a3, a4, a5⟩ := hva.small
  obtain ⟨b1, b2, b3, b4, b5⟩ := hvb.small
  go_enter Try.func23, Try.ntmps23
  go_upto_region 1 with (fail)
  have qa := BoxAt.new w [.int .i64 a.ins, .slice A1 a.n1 c1, .slice A2 a.n2 c2, .slice A3 a.n3 c3] 30
  have hbl : Below w.heap.size w (w.alloc (.cells #[.int .i64 a.ins, .slice A1 a.n1 c1, .slice A2 a.n2 c2, .slice A3 a.n3 c3] 30)) := (Below.refl _ _).alloc (Nat.le_refl _) _
  have hz1 : (w.alloc (.cells #[.int .i64 a.ins, .slice A1 a.n1 c1, .slice A2 a.n2 c2, .slice A3 a.n3 c3] 30)).heap.size = w.heap.size + 1 := by simp
  generalize w.alloc (.cells #[.int .i64 a.ins, .slice A1 a.n1 c1, .slice A2 a.n2 c2, .slice A3 a.n3 c3] 30) = v1 at *
  have qb := BoxAt.new v1 [.int .i64 b.ins, .slice B1 b.n1 d1, .slice B2 b.n2 d2, .slice B3 b.n3 d3] 30
  rw [hz1] at qb
  replace qa := qa.keeps (Keeps.alloc v1 (.cells #[.int .i64 b.ins, .slice B1 b.n1 d1, .slice B2 b.n2 d2, .slice B3 b.n3 d3] 30))
  replace hbl := hbl.alloc (by omega) (.cells #[.int .i64 b.ins, .slice B1 b.n1 d1, .slice B2 b.n2 d2, .slice B3 b.n3 d3] 30)
  have hz2 : (v1.alloc (.cells #[.int .i64 b.ins, .slice B1 b.n1 d1, .slice B2 b.n2 d2, .slice B3 b.n3 d3] 30)).heap.size = w.heap.size + 1 + 1 := by simp [hz1]
  generalize v1.alloc (.cells #[.int .i64 b.ins, .slice B1 b.n1 d1, .slice B2 b.n2 d2, .slice B3 b.n3 d3] 30) = v2 at *
  clear hz1
  have qr := Arr.new v2 #[.int .i64 0, .slice none 0 0] 24
  rw [hz2] at qr
  replace qa := qa.keeps (Keeps.alloc v2 (.cells #[.int .i64 0, .slice none 0 0] 24))
  replace qb := qb.keeps (Keeps.alloc v2 (.cells #[.int .i64 0, .slice none 0 0] 24))
  replace hbl := hbl.alloc (by omega) (.cells #[.int .i64 0, .slice none 0 0] 24)
  have hz3 : (v2.alloc (.cells #[.int .i64 0, .slice none 0 0] 24)).heap.size = w.heap.size + 1 + 1 + 1 := by simp [hz2]
  generalize v2.alloc (.cells #[.int .i64 0, .slice none 0 0] 24) = w3 at *
  clear hz2
  have HBL := Lib.hid hbl; clear hbl
  have hs6 : w.heap.size + 3 ≤ w3.heap.size := by omega
  have hs6b : w3.heap.size ≤ w.heap.size + 3 := by omega
  have HSZ := Lib.hid hz3; clear hz3
  obtain ⟨g0, g1, g2, g3⟩ := qa.four
  obtain ⟨e0, e1, e2, e3⟩ := qb.four
  go_wp2_with fail
  refine (joint_any a b A1 A2 A3 B1 B2 B3 c1 c2 c3 d1 d2 d3 _ (ha.keeps (Keeps.of_below HBL.out)) (hb.keeps (Keeps.of_below HBL.out)) hva hvb).mono ?_
  rintro e wj ⟨J1, J2, J3, k1, k2, k3, rfl, HG, hbj⟩
  clear g0 g1 g2 g3 e0 e1 e2 e3 qa qb
  have HBJ := Lib.hid (Below.then_call HBL.out hbj (by omega))
  replace qr := Arr.below qr hbj
  have hsj := hbj.size
  clear hbj
  have hg1 : (joint a b).n1 ≤ 12000 := by (show a.n1 + b.n1 ≤ 12000); omega
  have hg2 : (joint a b).n2 ≤ 120000 := by (show a.n2 + b.n2 ≤ 120000); omega
  have hg3 : (joint a b).n3 ≤ 120000 := by (show a.n3 + b.n3 ≤ 120000); omega
  generalize joint a b = g at *
  have hpr : ∀ i, i < np → 0 ≤ P i ∧ P i < 2 * n ∧ 0 ≤ Q i ∧ Q i < 2 * n := fun i hi => by
    have h1 := hok i hi
    rw [hm.vars] at h1
    exact ⟨h1.1.1, h1.1.2, h1.2.1, h1.2.2⟩
  have HPR := Lib.hid hpr; clear hpr hok
  have hv : (n : Int) = 1 + g.ins + g.n1 + g.n2 := by rw [← hm.vars]; rfl
  have HVN := Lib.hid hv; clear hv
  have hins := hm.ins
  have hinb : g.ins + g.n1 + g.n2 < n := by have := HVN.out; omega
  go_wp2_with fail
  have hbx := Arr.new wj #[.int .i64 g.ins, .slice J1 g.n1 k1, .slice J2 g.n2 k2, .slice J3 g.n3 k3, .int .i64 0, .slice none 0 0] 83
  obtain ⟨B, hB⟩ : ∃ B, B = wj.heap.size := ⟨_, rfl⟩
  have HB := Lib.hid hB.symm
  obtain ⟨w5, hw5⟩ : ∃ w5, w5 = wj.alloc (.cells #[.int .i64 g.ins, .slice J1 g.n1 k1, .slice J2 g.n2 k2, .slice J3 g.n3 k3, .int .i64 0, .slice none 0 0] 83) := ⟨_, rfl⟩
  have hz5 : w5.heap.size = B + 1 := by rw [hw5, hB]; simp
  replace qr := Arr.alloc qr (.cells #[.int .i64 g.ins, .slice J1 g.n1 k1, .slice J2 g.n2 k2, .slice J3 g.n3 k3, .int .i64 0, .slice none 0 0] 83)
  have HBW : Hid (Below w.heap.size w w5) := Lib.hid (by rw [hw5]; exact HBJ.out.alloc (by have := HBJ.out.size; omega) _)
  have HW5 := Lib.hid hw5
  rw [← hw5, ← hB] at hbx
  rw [← hw5] at qr
  rw [← hw5, ← hB]
  clear hw5
  have HGK : Hid (∀ w', Only (fun k => ¬ k < B) w5 w' → g.At w' J1 J2 J3) := Lib.hid (fun w' h => HG.keeps (Keeps.low HB.out HW5.out h (fun k hk => hk)))
  have HPK : Hid (∀ w', Only (fun k => ¬ k < B) w5 w' → RowS w' 2 PA np (fun k => two (.int .i64 (P k)) (.int .i64 (Q k)))) := Lib.hid (fun w' h => (hp.keeps (Keeps.of_below HBJ.out)).keeps (Keeps.low HB.out HW5.out h (fun k hk => hk)))
  have H0 : Mk g (fun k => k < B) w5 w5 B (B + 1) J1 J2 J3 k1 k2 k3 (.int .i64 0) ([]) none 0 [] := ⟨hbx.congr (fun j hj => by
      obtain rfl | rfl | rfl | rfl | rfl | rfl : j = 0 ∨ j = 1 ∨ j = 2 ∨ j = 3 ∨ j = 4 ∨ j = 5 := by (have hj' : j < 6 := hj); omega
      all_goals rfl), Cl.nil _ _, Only.refl _ _, Nat.lt_irrefl B, fun k hk => ⟨by omega, .inl (by omega)⟩, by omega⟩
  have hBs : w.heap.size + 3 ≤ B := by rw [hB]; omega
  have HZ5 := Lib.hid hz5
  clear hbx hB hz5
  refine (frameM_any g n _ w5 B (B + 1) J1 J2 J3 k1 k2 k3 _ [] none 0 [] 0 w5 H0 HGK.out hm (by omega) (by omega) (by simp; omega)).mono ?_
  rintro e w6 ⟨⟨v6, rfl⟩, hz6, A6, n6, vs6, H6⟩
  replace H6 : Mk g (fun k => k < B) w5 w6 B (B + 1) J1 J2 J3 k1 k2 k3 (.int .i64 0) (frameC g 0) A6 n6 vs6 := by simpa using H6
  clear H0 hz6
  go_wp2_with fail
  refine (frameM_any g n _ w5 B (B + 1) J1 J2 J3 k1 k2 k3 _ _ A6 n6 vs6 1 w6 H6 HGK.out hm (by omega) (by omega) (by simp [frameC_len]; omega)).mono ?_
  rintro e w8 ⟨⟨v8, rfl⟩, hz8, A8, n8, vs8, H8⟩
  replace H8 : Mk g (fun k => k < B) w5 w8 B (B + 1) J1 J2 J3 k1 k2 k3 (.int .i64 0) (frameC g 0 ++ frameC g 1) A8 n8 vs8 := H8
  clear H6 hz8
  go_wp2_with fail
  go_loopw [12] (fun ix wi => ∃ i : Nat, i ≤ g.n1 ∧ ix = .int .i64 i ∧ Hid (∃ A c vs, Mk g (fun k => k < B) w5 wi B (B + 1) J1 J2 J3 k1 k2 k3 (.int .i64 0) (frameC g 0 ++ frameC g 1 ++ upC (nextC g) i) A c vs)) (fun ix _ => g.n1 - (intOf ix).toNat)
  case atStart => exact ⟨0, by omega, rfl, Lib.hid ⟨_, _, _, by rw [upC, List.append_nil]; exact H8⟩⟩
  case round =>
    clear H8
    obtain ⟨i, hi, rfl, HM⟩ := hrel
    obtain ⟨A', c', vs', H⟩ := HM.out
    clear HM
    have q0 : wr.cell? ⟨B, 0, none⟩ = some (.int .i64 g.ins) := H.box.cell (k := 0) (by omega)
    have q1 : wr.cell? ⟨B, 1, none⟩ = some (.slice J1 g.n1 k1) := H.box.cell (k := 1) (by omega)
    by_cases hlt : i < g.n1
    · have hii : (i : Int) < g.n1 := by omega
      obtain ⟨ba, oa, hA, x0, x1⟩ := (HGK.out _ H.bel).lat.at2 hlt
      simp only [two] at x0 x1
      obtain ⟨r0, r1⟩ := hm.l i hlt
      have HGC : Hid (upC (nextC g) (i + 1) = upC (nextC g) i ++ nextC g i) := rfl
      have HIC : Hid (nextC g i = [[-atC g.vars ((1 : Nat) : Int) (2 * (1 + g.ins + i)), atC g.vars ((0 : Nat) : Int) (g.L i)], [atC g.vars ((1 : Nat) : Int) (2 * (1 + g.ins + i)), -atC g.vars ((0 : Nat) : Int) (g.L i)]]) := rfl
      have hll : (frameC g 0 ++ frameC g 1 ++ upC (nextC g) i).length ≤ 2 + 6 * g.n2 + 2 * g.n1 := by simp [frameC_len, nextC_len]; omega
      have hX := atC_bd (n := g.vars) (fr := ((1 : Nat) : Int)) (l := 2 * (1 + g.ins + i)) (by rw [hm.vars]; omega) (by rw [hm.vars]; omega) (by simp) (by omega) (by rw [hm.vars]; omega)
      have hQ := atC_bd (n := g.vars) (fr := ((0 : Nat) : Int)) (l := g.L i) (by rw [hm.vars]; omega) (by rw [hm.vars]; omega) (by simp) r0 (by rw [hm.vars]; omega)
      generalize hLL : frameC g 0 ++ frameC g 1 ++ upC (nextC g) i = LL at *
      have HLL := Lib.hid hLL; clear hLL
      subst hA
      go_wp2_with fail
      refine (atMk_any g n _ w5 B (B + 1) _ J2 J3 k1 k2 k3 _ _ _ _ _ 1 (2 * (1 + g.ins + i)) _ H hm (by omega) (by omega) (by omega)).mono ?_
      rintro e wa ⟨rfl, hba⟩
      have Ha := H.call hba
      have y0 := Keeps.of_below hba _ _ x0
      have p1 : wa.cell? ⟨B, 1, none⟩ = some (.slice (some ⟨ba, oa, none⟩) g.n1 k1) := Ha.box.cell (k := 1) (by omega)
      clear q0 q1 x0 x1 hba H
      go_wp2_with fail
      refine (atMk_any g n _ w5 B (B + 1) _ J2 J3 k1 k2 k3 _ _ _ _ _ 0 (g.L i) _ Ha hm (by omega) r0 (by omega)).mono ?_
      rintro e wb ⟨rfl, hbb⟩
      have Hb := Ha.call hbb
      clear y0 p1 hbb Ha
      generalize atC g.vars ((1 : Nat) : Int) (2 * (1 + g.ins + i)) = X at *
      generalize atC g.vars ((0 : Nat) : Int) (g.L i) = Y at *
      go_wp2_with fail
      refine (putMk_any g _ w5 B (B + 1) _ J2 J3 k1 k2 k3 _ _ _ _ _ [-X, Y] _ _ Hb rfl (by omega) (by omega)).mono ?_
      rintro e wc ⟨⟨v3, rfl⟩, hzc, Ac, cc, vc, Hc⟩
      go_wp2_with fail
      refine (putMk_any g _ w5 B (B + 1) _ J2 J3 k1 k2 k3 _ _ _ _ _ [X, -Y] _ _ Hc rfl (by omega) (by simp; omega)).mono ?_
      rintro e wd ⟨⟨v4, rfl⟩, hzd, Ad, cd, vd, Hd⟩
      have HS : Hid (∃ A c vs, Mk g (fun k => k < B) w5 wd B (B + 1) (some ⟨ba, oa, none⟩) J2 J3 k1 k2 k3 (.int .i64 0) (frameC g 0 ++ frameC g 1 ++ upC (nextC g) (i + 1)) A c vs) := Lib.hid ⟨Ad, cd, vd, by
        have e1 : frameC g 0 ++ frameC g 1 ++ upC (nextC g) (i + 1) = LL ++ [[-X, Y]] ++ [[X, -Y]] := by
          rw [HGC.out, HIC.out, ← List.append_assoc, HLL.out]
          simp
        rw [e1]
        exact Hd⟩
      clear Hb Hc Hd
      go_wp2_with fail
      go_roundw
      case rel => exact ⟨i + 1, by omega, by go_num, HS⟩
      case measure => simp [intOf]; omega
    · obtain rfl : i = g.n1 := by omega
      go_wp2_with fail
      clear q0 q1
      refine (sameM_any g n _ w5 B (B + 1) J1 J2 J3 k1 k2 k3 _ _ A' c' vs' 0 PA np pc P Q wr H HPK.out HPR.out hm (by omega) (by omega) (by simp [frameC_len, nextC_len]; omega)).mono ?_
      rintro e w9 ⟨⟨v9, rfl⟩, hz9, A9, n9, vs9, H9⟩
      clear H
      go_wp2_with fail
      refine (unlikeM_any g n _ w5 B (B + 1) J1 J2 J3 k1 k2 k3 _ _ A9 n9 vs9 1 2 PA np pc P Q w9 H9 HPK.out HPR.out hm (by omega) (by omega) (by omega) (by simp [frameC_len, nextC_len, sameC_len]; omega)).mono ?_
      rintro e w7 ⟨⟨v7, rfl⟩, hz7, A7, n7, vs7, H7⟩
      have e1 : frameC g 0 ++ frameC g 1 ++ upC (nextC g) g.n1 ++ upC (sameC g ((0 : Nat) : Int) P Q) np ++ unlikeC g ((1 : Nat) : Int) ((2 : Nat) : Int) np P Q = formC g a.n3 np P Q 1 := rfl
      have e2 : (((2 : Nat) : Int)) * g.vars + np = formVars g a.n3 np 1 := by simp [formVars]
      rw [e1, e2] at H7
      clear H9 e1 e2
      have H := H7
      clear H7
      have r4 : w7.cell? ⟨B, 4, none⟩ = some (.int .i64 (formVars g a.n3 np 1)) := H.box.cell (k := 4) (by omega)
      have r5 : w7.cell? ⟨B, 5, none⟩ = some (.slice A7 (formC g a.n3 np P Q 1).length n7) := H.box.cell (k := 5) (by omega)
      have qr2 := Arr.only qr H.bel (fun c => c (by omega))
      have u0 := qr2.cell (k := 0) (by simp)
      have u1 := qr2.cell (k := 1) (by simp)
      have f0 := qr2.thaw 0
      have f1 := qr2.thaw 1
      have HFV : Hid (∀ x, formVars g a.n3 np 1 = x → formVars g a.n3 np 1 = x) := Lib.hid (fun _ h => h)
      have HH := Lib.hid H; clear H
      generalize formVars g a.n3 np 1 = FV at *
      generalize formC g a.n3 np P Q 1 = FC at *
      go_wp2_with fail
      have h9 := Arr.set (V' := fun j => if j = 0 then .int .i64 FV else .slice none 0 0) (k := 0) (x := .int .i64 FV) qr2 (fun j hj hne => by
        obtain rfl : j = 1 := by (have hj' : j < 2 := hj); omega
        rfl) rfl
      replace h9 := Arr.set (V' := fun j => if j = 0 then .int .i64 FV else .slice A7 FC.length n7) (k := 1) (x := .slice A7 FC.length n7) h9 (fun j hj hne => by
        obtain rfl : j = 0 := by (have hj' : j < 2 := hj); omega
        rfl) rfl
      have hO9 := ((Only.refl (fun j => j = w.heap.size + 1 + 1) w7).setCell (p := ⟨w.heap.size + 1 + 1, 0, none⟩) (fun _ => rfl) (.int .i64 FV)).setCell (p := ⟨w.heap.size + 1 + 1, 1, none⟩) (fun _ => rfl) (.slice A7 FC.length n7)
      generalize (w7.setCell ⟨w.heap.size + 1 + 1, 0, none⟩ (.int .i64 FV)).setCell ⟨w.heap.size + 1 + 1, 1, none⟩ (.slice A7 FC.length n7) = w9 at *
      have t0 := h9.cell (k := 0) (by simp)
      have t1 := h9.cell (k := 1) (by simp)
      simp only [if_true, if_false, Nat.one_ne_zero] at t0 t1
      have hB9 := (HBW.out.trans (HH.out.bel.below (B := w.heap.size) (fun j _ c => by omega) (by have := HBW.out.size; omega))).trans (hO9.below (B := w.heap.size) (fun j _ c => by omega) (by have := HBW.out.size; have := HH.out.bel.size; omega))
      have hcl := HH.out.cl.far hO9 (by omega)
      refine bodyPost_ret (v := .agg #[.int .i64 FV, .slice A7 FC.length n7]) ?_ rfl ?_
      · simp [results, Try.results23, go_sem, t0, t1]
      · exact ⟨_, _, _, _, rfl, hcl, hB9⟩
end Go.Proofs.Ytkanekacjefcbaa
namespace Go.Proofs.Ytkanekacjefcbaa
open Go.RowKit

set_option maxHeartbeats 8000000 in
set_option maxRecDepth 100000 in
theorem formed2_any (a b : G) (A1 A2 A3 B1 B2 B3 : Option Addr) (c1 c2 c3 d1 d2 d3 : Nat) (PA : Option Addr) (np pc : Nat) (P Q : Nat → Int) (w : World) (ha : a.At w A1 A2 A3) (hb : b.At w B1 B2 B3) (hva : a.Valid) (hvb : b.Valid) (hi : a.ins = b.ins) (h3 : a.n3 = b.n3)
    (hp : RowS w 2 PA np (fun k => two (.int .i64 (P k)) (.int .i64 (Q k)))) (hok : PairsOk (joint a b) np P Q) (hnp : np ≤ 2000000) :
    Calls Try.prog 23 #[.agg #[.int .i64 a.ins, .slice A1 a.n1 c1, .slice A2 a.n2 c2, .slice A3 a.n3 c3], .agg #[.int .i64 b.ins, .slice B1 b.n1 d1, .slice B2 b.n2 d2, .slice B3 b.n3 d3], .slice PA np pc, .int .i64 2] w (FormP (formVars (joint a b) a.n3 np 2) (formC (joint a b) a.n3 np P Q 2) w) := by
  obtain ⟨n, hn, hm⟩ := joint_made hva hvb hi
  clear hi
  obtain ⟨a1, a2, a3, a4, a5⟩ := hva.small
  obtain ⟨b1, b2, b3, b4, b5⟩ := hvb.small
  have H3 := Lib.hid h3; clear h3
  go_enter Try.func23, Try.ntmps23
  go_upto_region 1 with (fail)
  have qa := BoxAt.new w [.int .i64 a.ins, .slice A1 a.n1 c1, .slice A2 a.n2 c2, .slice A3 a.n3 c3] 30
  have hbl : Below w.heap.size w (w.alloc (.cells #[.int .i64 a.ins, .slice A1 a.n1 c1, .slice A2 a.n2 c2, .slice A3 a.n3 c3] 30)) := (Below.refl _ _).alloc (Nat.le_refl _) _
  have hz1 : (w.alloc (.cells #[.int .i64 a.ins, .slice A1 a.n1 c1, .slice A2 a.n2 c2, .slice A3 a.n3 c3] 30)).heap.size = w.heap.size + 1 := by simp
  generalize w.alloc (.cells #[.int .i64 a.ins, .slice A1 a.n1 c1, .slice A2 a.n2 c2, .slice A3 a.n3 c3] 30) = v1 at *
  have qb := BoxAt.new v1 [.int .i64 b.ins, .slice B1 b.n1 d1, .slice B2 b.n2 d2, .slice B3 b.n3 d3] 30
  rw [hz1] at qb
  replace qa := qa.keeps (Keeps.alloc v1 (.cells #[.int .i64 b.ins, .slice B1 b.n1 d1, .slice B2 b.n2 d2, .slice B3 b.n3 d3] 30))
  replace hbl := hbl.alloc (by omega) (.cells #[.int .i64 b.ins, .slice B1 b.n1 d1, .slice B2 b.n2 d2, .slice B3 b.n3 d3] 30)
  have hz2 : (v1.alloc (.cells #[.int .i64 b.ins, .slice B1 b.n1 d1, .slice B2 b.n2 d2, .slice B3 b.n3 d3] 30)).heap.size = w.heap.size + 1 + 1 := by simp [hz1]
  generalize v1.alloc (.cells #[.int .i64 b.ins, .slice B1 b.n1 d1, .slice B2 b.n2 d2, .slice B3 b.n3 d3] 30) = v2 at *
  clear hz1
  have qr := Arr.new v2 #[.int .i64 0, .slice none 0 0] 24
  rw [hz2] at qr
  replace qa := qa.keeps (Keeps.alloc v2 (.cells #[.int .i64 0, .slice none 0 0] 24))
  replace qb := qb.keeps (Keeps.alloc v2 (.cells #[.int .i64 0, .slice none 0 0] 24))
  replace hbl := hbl.alloc (by omega) (.cells #[.int .i64 0, .slice none 0 0] 24)
  have hz3 : (v2.alloc (.cells #[.int .i64 0, .slice none 0 0] 24)).heap.size = w.heap.size + 1 + 1 + 1 := by simp [hz2]
  generalize v2.alloc (.cells #[.int .i64 0, .slice none 0 0] 24) = w3 at *
  clear hz2
  have HBL := Lib.hid hbl; clear hbl
  have hs6 : w.heap.size + 3 ≤ w3.heap.size := by omega
  have hs6b : w3.heap.size ≤ w.heap.size + 3 := by omega
  have HSZ := Lib.hid hz3; clear hz3
  obtain ⟨g0, g1, g2, g3⟩ := qa.four
  obtain ⟨e0, e1, e2, e3⟩ := qb.four
  go_wp2_with fail
  refine (joint_any a b A1 A2 A3 B1 B2 B3 c1 c2 c3 d1 d2 d3 _ (ha.keeps (Keeps.of_below HBL.out)) (hb.keeps (Keeps.of_below HBL.out)) hva hvb).mono ?_
  rintro e wj ⟨J1, J2, J3, k1, k2, k3, rfl, HG, hbj⟩
  clear g0 g1 g2 g3 e0 e1 e2 e3 qa qb
  have HBJ := Lib.hid (Below.then_call HBL.out hbj (by omega))
  replace qr := Arr.below qr hbj
  have hsj := hbj.size
  clear hbj
  have hg1 : (joint a b).n1 ≤ 12000 := by (show a.n1 + b.n1 ≤ 12000); omega
  have hg2 : (joint a b).n2 ≤ 120000 := by (show a.n2 + b.n2 ≤ 120000); omega
  have hg3 : (joint a b).n3 ≤ 120000 := by (show a.n3 + b.n3 ≤ 120000); omega
  have HN3 : Hid ((joint a b).n3 = 2 * a.n3) := Lib.hid (by (show a.n3 + b.n3 = 2 * a.n3); rw [← H3.out]; omega)
  generalize joint a b = g at *
  have hpr : ∀ i, i < np → 0 ≤ P i ∧ P i < 2 * n ∧ 0 ≤ Q i ∧ Q i < 2 * n := fun i hi => by
    have h1 := hok i hi
    rw [hm.vars] at h1
    exact ⟨h1.1.1, h1.1.2, h1.2.1, h1.2.2⟩
  have HPR := Lib.hid hpr; clear hpr hok
  have hv : (n : Int) = 1 + g.ins + g.n1 + g.n2 := by rw [← hm.vars]; rfl
  have HVN := Lib.hid hv; clear hv
  have hins := hm.ins
  have hinb : g.ins + g.n1 + g.n2 < n := by have := HVN.out; omega
  go_wp2_with fail
  have hbx := Arr.new wj #[.int .i64 g.ins, .slice J1 g.n1 k1, .slice J2 g.n2 k2, .slice J3 g.n3 k3, .int .i64 0, .slice none 0 0] 83
  obtain ⟨B, hB⟩ : ∃ B, B = wj.heap.size := ⟨_, rfl⟩
  have HB := Lib.hid hB.symm
  obtain ⟨w5, hw5⟩ : ∃ w5, w5 = wj.alloc (.cells #[.int .i64 g.ins, .slice J1 g.n1 k1, .slice J2 g.n2 k2, .slice J3 g.n3 k3, .int .i64 0, .slice none 0 0] 83) := ⟨_, rfl⟩
  have hz5 : w5.heap.size = B + 1 := by rw [hw5, hB]; simp
  replace qr := Arr.alloc qr (.cells #[.int .i64 g.ins, .slice J1 g.n1 k1, .slice J2 g.n2 k2, .slice J3 g.n3 k3, .int .i64 0, .slice none 0 0] 83)
  have HBW : Hid (Below w.heap.size w w5) := Lib.hid (by rw [hw5]; exact HBJ.out.alloc (by have := HBJ.out.size; omega) _)
  have HW5 := Lib.hid hw5
  rw [← hw5, ← hB] at hbx
  rw [← hw5] at qr
  rw [← hw5, ← hB]
  clear hw5
  have HGK : Hid (∀ w', Only (fun k => ¬ k < B) w5 w' → g.At w' J1 J2 J3) := Lib.hid (fun w' h => HG.keeps (Keeps.low HB.out HW5.out h (fun k hk => hk)))
  have HPK : Hid (∀ w', Only (fun k => ¬ k < B) w5 w' → RowS w' 2 PA np (fun k => two (.int .i64 (P k)) (.int .i64 (Q k)))) := Lib.hid (fun w' h => (hp.keeps (Keeps.of_below HBJ.out)).keeps (Keeps.low HB.out HW5.out h (fun k hk => hk)))
  have H0 : Mk g (fun k => k < B) w5 w5 B (B + 1) J1 J2 J3 k1 k2 k3 (.int .i64 0) ([]) none 0 [] := ⟨hbx.congr (fun j hj => by
      obtain rfl | rfl | rfl | rfl | rfl | rfl : j = 0 ∨ j = 1 ∨ j = 2 ∨ j = 3 ∨ j = 4 ∨ j = 5 := by (have hj' : j < 6 := hj); omega
      all_goals rfl), Cl.nil _ _, Only.refl _ _, Nat.lt_irrefl B, fun k hk => ⟨by omega, .inl (by omega)⟩, by omega⟩
  have hBs : w.heap.size + 3 ≤ B := by rw [hB]; omega
  have HZ5 := Lib.hid hz5
  clear hbx hB hz5
  refine (frameM_any g n _ w5 B (B + 1) J1 J2 J3 k1 k2 k3 _ [] none 0 [] 0 w5 H0 HGK.out hm (by omega) (by omega) (by simp; omega)).mono ?_
  rintro e w6 ⟨⟨v6, rfl⟩, hz6, A6, n6, vs6, H6⟩
  replace H6 : Mk g (fun k => k < B) w5 w6 B (B + 1) J1 J2 J3 k1 k2 k3 (.int .i64 0) (frameC g 0) A6 n6 vs6 := by simpa using H6
  clear H0 hz6
  go_wp2_with fail
  refine (sameM_any g n _ w5 B (B + 1) J1 J2 J3 k1 k2 k3 _ _ A6 n6 vs6 0 PA np pc P Q w6 H6 HPK.out HPR.out hm (by omega) (by omega) (by simp [frameC_len]; omega)).mono ?_
  rintro e w8 ⟨⟨v8, rfl⟩, hz8, A8, n8, vs8, H8⟩
  replace H8 : Mk g (fun k => k < B) w5 w8 B (B + 1) J1 J2 J3 k1 k2 k3 (.int .i64 0) (frameC g 0 ++ upC (sameC g 0 P Q) np) A8 n8 vs8 := H8
  clear H6 hz8
  have q0 : w8.cell? ⟨B, 0, none⟩ = some (.int .i64 g.ins) := H8.box.cell (k := 0) (by omega)
  have q1 : w8.cell? ⟨B, 1, none⟩ = some (.slice J1 g.n1 k1) := H8.box.cell (k := 1) (by omega)
  have q2 : w8.cell? ⟨B, 2, none⟩ = some (.slice J2 g.n2 k2) := H8.box.cell (k := 2) (by omega)
  have q3 : w8.cell? ⟨B, 3, none⟩ = some (.slice J3 g.n3 k3) := H8.box.cell (k := 3) (by omega)
  go_wp2_with fail
  refine (outlets_any g a.n3 J1 J2 J3 k1 k2 k3 _ (HGK.out _ H8.bel) HN3.out (by omega)).mono ?_
  rintro e wo ⟨QA, qc, rfl, hown, hbo⟩
  clear q0 q1 q2 q3
  obtain ⟨kp, H9, hkp, hrow⟩ := H8.rebase hown hbo
  clear hown
  have HBO := Lib.hid hbo; clear hbo
  have HOR : Hid (∀ i, i < a.n3 → 0 ≤ g.O i ∧ g.O i < 2 * n ∧ 0 ≤ g.O (a.n3 + i) ∧ g.O (a.n3 + i) < 2 * n) := Lib.hid (fun i hi => by
    have h1 := hm.o i (by rw [HN3.out]; omega)
    have h2 := hm.o (a.n3 + i) (by rw [HN3.out]; omega)
    exact ⟨h1.1, h1.2, h2.1, h2.2⟩)
  go_wp2_with fail
  refine (unlikeM_any g n kp wo B (B + 1) J1 J2 J3 k1 k2 k3 _ _ A8 n8 vs8 0 1 QA a.n3 qc g.O (fun i => g.O (a.n3 + i)) wo H9 hrow HOR.out hm (by omega) (by omega) (by omega) (by simp [frameC_len, sameC_len]; omega)).mono ?_
  rintro e w7 ⟨⟨v7, rfl⟩, hz7, A7, n7, vs7, H7⟩
  have e1 : frameC g 0 ++ upC (sameC g 0 P Q) np ++ unlikeC g ((0 : Nat) : Int) ((1 : Nat) : Int) a.n3 g.O (fun i => g.O (a.n3 + i)) = formC g a.n3 np P Q 2 := rfl
  have e2 : (((1 : Nat) : Int)) * g.vars + a.n3 = formVars g a.n3 np 2 := by simp [formVars]
  rw [e1, e2] at H7
  clear H9 e1 e2
  have hbel : Only (fun k => ¬ k < B) w5 w7 := (H8.bel.call HBO.out).trans (H7.bel.mono (fun k _ c h => c (hkp k h)))
  have H := H7
  clear H7
  have r4 : w7.cell? ⟨B, 4, none⟩ = some (.int .i64 (formVars g a.n3 np 2)) := H.box.cell (k := 4) (by omega)
  have r5 : w7.cell? ⟨B, 5, none⟩ = some (.slice A7 (formC g a.n3 np P Q 2).length n7) := H.box.cell (k := 5) (by omega)
  have qr2 := Arr.only qr hbel (fun c => c (by omega))
  have u0 := qr2.cell (k := 0) (by simp)
  have u1 := qr2.cell (k := 1) (by simp)
  have f0 := qr2.thaw 0
  have f1 := qr2.thaw 1
  have HFV : Hid (∀ x, formVars g a.n3 np 2 = x → formVars g a.n3 np 2 = x) := Lib.hid (fun _ h => h)
  have HH := Lib.hid H; clear H
  generalize formVars g a.n3 np 2 = FV at *
  generalize formC g a.n3 np P Q 2 = FC at *
  go_wp2_with fail
  have h9 := Arr.set (V' := fun j => if j = 0 then .int .i64 FV else .slice none 0 0) (k := 0) (x := .int .i64 FV) qr2 (fun j hj hne => by
    obtain rfl : j = 1 := by (have hj' : j < 2 := hj); omega
    rfl) rfl
  replace h9 := Arr.set (V' := fun j => if j = 0 then .int .i64 FV else .slice A7 FC.length n7) (k := 1) (x := .slice A7 FC.length n7) h9 (fun j hj hne => by
    obtain rfl : j = 0 := by (have hj' : j < 2 := hj); omega
    rfl) rfl
  have hO9 := ((Only.refl (fun j => j = w.heap.size + 1 + 1) w7).setCell (p := ⟨w.heap.size + 1 + 1, 0, none⟩) (fun _ => rfl) (.int .i64 FV)).setCell (p := ⟨w.heap.size + 1 + 1, 1, none⟩) (fun _ => rfl) (.slice A7 FC.length n7)
  generalize (w7.setCell ⟨w.heap.size + 1 + 1, 0, none⟩ (.int .i64 FV)).setCell ⟨w.heap.size + 1 + 1, 1, none⟩ (.slice A7 FC.length n7) = w9 at *
  have t0 := h9.cell (k := 0) (by simp)
  have t1 := h9.cell (k := 1) (by simp)
  simp only [if_true, if_false, Nat.one_ne_zero] at t0 t1
  have hB9 := (HBW.out.trans (hbel.below (B := w.heap.size) (fun j _ c => by omega) (by have := HBW.out.size; omega))).trans (hO9.below (B := w.heap.size) (fun j _ c => by omega) (by have := HBW.out.size; have := hbel.size; omega))
  have hcl := HH.out.cl.far hO9 (by omega)
  refine bodyPost_ret (v := .agg #[.int .i64 FV, .slice A7 FC.length n7]) ?_ rfl ?_
  · simp [results, Try.results23, go_sem, t0, t1]
  · exact ⟨_, _, _, _, rfl, hcl, hB9⟩
end Go.Proofs.Ytkanekacjefcbaa
