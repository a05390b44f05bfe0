/- judge.Holds, walked. Conditions: the graphs, the pairs and the steps lie in memory, within the given bulk. -/
import Derived.Test.YtkanekacjefcbaaHoP
import Derived.Test.YtkanekacjefcbaaHoR
import Derived.Test.YtkanekacjefcbaaRfK
import Derived.Deep.DeepCutAuto
namespace Go.Proofs.Ytkanekacjefcbaa
open Go.RowKit

set_option maxHeartbeats 8000000 in
set_option maxRecDepth 100000 in
theorem holds_any (a b : G) (A1 A2 A3 B1 B2 B3 : Option Addr) (c1 c2 c3 d1 d2 d3 : Nat) (PA : Option Addr) (np pc : Nat) (P Q : Nat → Int) (SA : Nat → Option Addr) (sc : Nat → Nat) (St : Nat → List (List Int)) (vst : Nat → List Value) (w : World) (ha : a.At w A1 A2 A3) (hb : b.At w B1 B2 B3) (hfa : a.Fits) (hfb : b.Fits)
    (hp : RowS w 2 PA np (fun k => two (.int .i64 (P k)) (.int .i64 (Q k)))) (hnp : np ≤ 1048576) (hS : ∀ k, MatC w (SA k) (St k) (vst k)) (hs1 : ∀ k, (St k).length ≤ 1048576) (hs2 : ∀ k, tot (St k) ≤ 1048576) :
    Calls Try.prog 8 #[.agg #[.int .i64 a.ins, .slice A1 a.n1 c1, .slice A2 a.n2 c2, .slice A3 a.n3 c3], .agg #[.int .i64 b.ins, .slice B1 b.n1 d1, .slice B2 b.n2 d2, .slice B3 b.n3 d3], .agg #[.slice PA np pc, .slice (SA 0) (St 0).length (sc 0), .slice (SA 1) (St 1).length (sc 1), .slice (SA 2) (St 2).length (sc 2)]] w fun e w' => e = .returned (.bool (tf (HoldsP a b np P Q St))) ∧ Below w.heap.size w w' := by
  have HSM := Lib.hid hS; have HS1 := Lib.hid hs1; have HS2 := Lib.hid hs2; clear hS hs1 hs2
  go_enter Try.func8, Try.ntmps8
  go_upto_region 1 with (fail)
  have qa := BoxAt.new w [.int .i64 a.ins, .slice A1 a.n1 c1, .slice A2 a.n2 c2, .slice A3 a.n3 c3] 30
  have hbl : Below w.heap.size w (w.alloc (.cells #[.int .i64 a.ins, .slice A1 a.n1 c1, .slice A2 a.n2 c2, .slice A3 a.n3 c3] 30)) := (Below.refl _ _).alloc (Nat.le_refl _) _
  have hz1 : (w.alloc (.cells #[.int .i64 a.ins, .slice A1 a.n1 c1, .slice A2 a.n2 c2, .slice A3 a.n3 c3] 30)).heap.size = w.heap.size + 1 := by simp
  generalize w.alloc (.cells #[.int .i64 a.ins, .slice A1 a.n1 c1, .slice A2 a.n2 c2, .slice A3 a.n3 c3] 30) = v1 at *
  have qb := BoxAt.new v1 [.int .i64 b.ins, .slice B1 b.n1 d1, .slice B2 b.n2 d2, .slice B3 b.n3 d3] 30
  rw [hz1] at qb
  replace qa := qa.keeps (Keeps.alloc v1 (.cells #[.int .i64 b.ins, .slice B1 b.n1 d1, .slice B2 b.n2 d2, .slice B3 b.n3 d3] 30))
  replace hbl := hbl.alloc (by omega) (.cells #[.int .i64 b.ins, .slice B1 b.n1 d1, .slice B2 b.n2 d2, .slice B3 b.n3 d3] 30)
  have hz2 : (v1.alloc (.cells #[.int .i64 b.ins, .slice B1 b.n1 d1, .slice B2 b.n2 d2, .slice B3 b.n3 d3] 30)).heap.size = w.heap.size + 1 + 1 := by simp [hz1]
  generalize v1.alloc (.cells #[.int .i64 b.ins, .slice B1 b.n1 d1, .slice B2 b.n2 d2, .slice B3 b.n3 d3] 30) = v2 at *
  clear hz1
  have qc := BoxAt.new v2 [.slice PA np pc, .slice (SA 0) (St 0).length (sc 0), .slice (SA 1) (St 1).length (sc 1), .slice (SA 2) (St 2).length (sc 2)] 32
  rw [hz2] at qc
  replace qa := qa.keeps (Keeps.alloc v2 (.cells #[.slice PA np pc, .slice (SA 0) (St 0).length (sc 0), .slice (SA 1) (St 1).length (sc 1), .slice (SA 2) (St 2).length (sc 2)] 32))
  replace qb := qb.keeps (Keeps.alloc v2 (.cells #[.slice PA np pc, .slice (SA 0) (St 0).length (sc 0), .slice (SA 1) (St 1).length (sc 1), .slice (SA 2) (St 2).length (sc 2)] 32))
  replace hbl := hbl.alloc (by omega) (.cells #[.slice PA np pc, .slice (SA 0) (St 0).length (sc 0), .slice (SA 1) (St 1).length (sc 1), .slice (SA 2) (St 2).length (sc 2)] 32)
  have hz3 : (v2.alloc (.cells #[.slice PA np pc, .slice (SA 0) (St 0).length (sc 0), .slice (SA 1) (St 1).length (sc 1), .slice (SA 2) (St 2).length (sc 2)] 32)).heap.size = w.heap.size + 1 + 1 + 1 := by simp [hz2]
  generalize v2.alloc (.cells #[.slice PA np pc, .slice (SA 0) (St 0).length (sc 0), .slice (SA 1) (St 1).length (sc 1), .slice (SA 2) (St 2).length (sc 2)] 32) = w1 at *
  clear hz2
  have HB1 := Lib.hid hbl; clear hbl
  have hs1 : w.heap.size + 3 ≤ w1.heap.size := by omega
  clear hz3
  generalize hz : w.heap.size = z at *
  have HZ := Lib.hid hz; clear hz
  obtain ⟨g0, g1, g2, g3⟩ := qa.four
  go_wp2_with fail
  refine (rightJ_any a A1 A2 A3 c1 c2 c3 _ (ha.keeps (Keeps.of_below (by rw [HZ.out]; exact HB1.out))) hfa).mono ?_
  rintro e w2 ⟨rfl, hb2⟩
  have HB2 := Lib.hid (HB1.out.trans (hb2.mono (by omega)))
  have qa2 := qa.keeps (Keeps.of_below hb2)
  have qb2 := qb.keeps (Keeps.of_below hb2)
  have qc2 := qc.keeps (Keeps.of_below hb2)
  have hs2 := hb2.size
  clear hb2 g0 g1 g2 g3 qa qb qc
  by_cases hva : a.Valid
  · rw [tf_yes hva]
    obtain ⟨g0, g1, g2, g3⟩ := qb2.four
    go_wp2_with fail
    refine (rightJ_any b B1 B2 B3 d1 d2 d3 _ (hb.keeps (Keeps.of_below (by rw [HZ.out]; exact HB2.out))) hfb).mono ?_
    rintro e w3 ⟨rfl, hb3⟩
    have HB3 := Lib.hid (HB2.out.trans (hb3.mono (by omega)))
    have qa3 := qa2.keeps (Keeps.of_below hb3)
    have qb3 := qb2.keeps (Keeps.of_below hb3)
    have qc3 := qc2.keeps (Keeps.of_below hb3)
    have hs3 := hb3.size
    clear hb3 g0 g1 g2 g3 qa2 qb2 qc2
    obtain ⟨g0, g1, g2, g3⟩ := qa3.four
    obtain ⟨h0, h1, h2, h3⟩ := qb3.four
    by_cases hvb : b.Valid
    · rw [tf_yes hvb]
      by_cases hi : a.ins = b.ins
      · by_cases ho : a.n3 = b.n3
        · have HVA := Lib.hid hva; have HVB := Lib.hid hvb; have HI := Lib.hid hi; have HO := Lib.hid ho
          have e1 : (a.ins != b.ins) = false := by simp [hi]
          have e2 : ((a.n3 : Int) != (b.n3 : Int)) = false := by simp [ho]
          obtain ⟨a1, a2, a3, a4, a5⟩ := hva.small
          obtain ⟨b1, b2, b3, b4, b5⟩ := hvb.small
          clear hva hvb hi ho
          have HV : Hid ((joint a b).vars = 1 + a.ins + a.n1 + b.n1 + a.n2 + b.n2) := Lib.hid (by
            show 1 + a.ins + ((a.n1 + b.n1 : Nat) : Int) + ((a.n2 + b.n2 : Nat) : Int) = _
            omega)
          have p0 := qc3 0 _ rfl
          go_wp2_with fail
          obtain ⟨wz, hwz⟩ : ∃ wz : World, wz = w3 := ⟨_, rfl⟩
          have HWZ := Lib.hid hwz; clear hwz
          clear g0 g1 g2 g3 h0 h1 h2 h3 p0
          go_loopw [59] (fun i wr => ∃ m : Nat, m ≤ np ∧ i = .int .i64 m ∧ Below wz.heap.size wz wr ∧ Hid (∀ j, j < m → (0 ≤ P j ∧ P j < 2 * (joint a b).vars) ∧ 0 ≤ Q j ∧ Q j < 2 * (joint a b).vars)) (fun i _ => np - (intOf i).toNat)
          case atStart => exact ⟨0, by omega, rfl, by rw [HWZ.out]; exact Below.refl _ _, fun j hj => by omega⟩
          case round =>
            obtain ⟨m, hm, rfl, hbr, HA⟩ := hrel
            have hsr := hbr.size
            have hszz : wz.heap.size = w3.heap.size := by rw [HWZ.out]
            have HBr := Lib.hid ((show Below z w wz by rw [HWZ.out]; exact HB3.out).trans (hbr.mono (by omega)))
            by_cases hlt : m < np
            · obtain ⟨b2, o2, rfl, x0, y0⟩ := (hp.keeps (Keeps.of_below (by rw [HZ.out]; exact HBr.out))).at2 hlt
              simp only [two] at x0 y0
              have hbx := hbr.alloc hbr.size (.cells #[.int .i64 (P m), .int .i64 (Q m)] 49)
              have HBX := Lib.hid hbx; clear hbx
              have HBr2 := Lib.hid (HBr.out.alloc (by omega) (.cells #[.int .i64 (P m), .int .i64 (Q m)] 49))
              by_cases hok : (0 ≤ P m ∧ P m < 2 * (1 + a.ins + a.n1 + b.n1 + a.n2 + b.n2)) ∧ 0 ≤ Q m ∧ Q m < 2 * (1 + a.ins + a.n1 + b.n1 + a.n2 + b.n2)
              · have HA2 : Hid (∀ j, j < m + 1 → (0 ≤ P j ∧ P j < 2 * (joint a b).vars) ∧ 0 ≤ Q j ∧ Q j < 2 * (joint a b).vars) := Lib.hid (fun j hj => if e : j = m then e ▸ (by rw [HV.out]; exact hok) else HA.out j (by omega))
                obtain ⟨⟨k1, k2⟩, k3, k4⟩ := hok
                go_wp2_with fail
                all_goals first
                  | (exfalso; omega)
                  | (go_roundw
                     case rel => exact ⟨m + 1, by omega, by go_num, HBX.out, HA2.out⟩
                     case measure => simp [intOf]; omega)
              · have HT := Lib.hid (tf_no (fun h : HoldsP a b np P Q St => by have := h.2.1 m hlt; rw [HV.out] at this; exact hok this))
                go_wp2_with fail
                all_goals first
                  | (exfalso; omega)
                  | (go_ret; exact ⟨ret_bool HT.out.symm, by have := HBr2.out; rwa [HZ.out]⟩)
            · have HOK : Hid (PairsOk (joint a b) np P Q) := Lib.hid (fun i hi => HA.out i (by omega))
              have qa4 := (qa3.keeps (Keeps.of_below (show Below w3.heap.size w3 wz by rw [HWZ.out]; exact Below.refl _ _))).keeps (Keeps.of_below hbr)
              have qb4 := (qb3.keeps (Keeps.of_below (show Below w3.heap.size w3 wz by rw [HWZ.out]; exact Below.refl _ _))).keeps (Keeps.of_below hbr)
              have qc4 := (qc3.keeps (Keeps.of_below (show Below w3.heap.size w3 wz by rw [HWZ.out]; exact Below.refl _ _))).keeps (Keeps.of_below hbr)
              clear qa3 qb3 qc3 HA hbr
              obtain ⟨p0, p1, p2, p3⟩ := qc4.four
              have qs : Arr (wr.alloc (.cells #[.slice (SA 0) (St 0).length (sc 0), .slice (SA 1) (St 1).length (sc 1), .slice (SA 2) (St 2).length (sc 2)] 22)) wr.heap.size 22 3 (fun k => .slice (SA k) (St k).length (sc k)) := (Arr.new wr #[.slice (SA 0) (St 0).length (sc 0), .slice (SA 1) (St 1).length (sc 1), .slice (SA 2) (St 2).length (sc 2)] 22).congr (fun j hj => by
                have hj' : j < 3 := hj
                obtain rfl | rfl | rfl : j = 0 ∨ j = 1 ∨ j = 2 := by omega
                all_goals rfl)
              have hb5 := HBr.out.alloc (by omega) (.cells #[.slice (SA 0) (St 0).length (sc 0), .slice (SA 1) (St 1).length (sc 1), .slice (SA 2) (St 2).length (sc 2)] 22)
              have qa5 := qa4.keeps (Keeps.alloc wr (.cells #[.slice (SA 0) (St 0).length (sc 0), .slice (SA 1) (St 1).length (sc 1), .slice (SA 2) (St 2).length (sc 2)] 22))
              have qb5 := qb4.keeps (Keeps.alloc wr (.cells #[.slice (SA 0) (St 0).length (sc 0), .slice (SA 1) (St 1).length (sc 1), .slice (SA 2) (St 2).length (sc 2)] 22))
              have qc5 := qc4.keeps (Keeps.alloc wr (.cells #[.slice (SA 0) (St 0).length (sc 0), .slice (SA 1) (St 1).length (sc 1), .slice (SA 2) (St 2).length (sc 2)] 22))
              have hs5 : wr.heap.size + 1 ≤ (wr.alloc (.cells #[.slice (SA 0) (St 0).length (sc 0), .slice (SA 1) (St 1).length (sc 1), .slice (SA 2) (St 2).length (sc 2)] 22)).heap.size := by simp
              have HB5 := Lib.hid hb5; clear hb5 qa4 qb4 qc4
              go_wp2_with fail
              generalize wr.alloc (.cells #[.slice (SA 0) (St 0).length (sc 0), .slice (SA 1) (St 1).length (sc 1), .slice (SA 2) (St 2).length (sc 2)] 22) = w5 at *
              generalize wr.heap.size = bs at *
              clear p0 p1 p2 p3
              go_loopw [87] (fun i wi => ∃ k : Nat, k ≤ 3 ∧ i = .int .i64 k ∧ Below w5.heap.size w5 wi ∧ Hid (∀ j, j < k → CheckP (formVars (joint a b) a.n3 np j) (formC (joint a b) a.n3 np P Q j) (St j))) (fun i _ => 3 - (intOf i).toNat)
              case atStart => exact ⟨0, by omega, rfl, Below.refl _ _, fun j hj => by omega⟩
              case round =>
                obtain ⟨k, hk, rfl, hbi, HCK⟩ := hrel
                have HBI := Lib.hid (HB5.out.trans (hbi.mono (by omega)))
                by_cases hlt : k < 3
                · have x0 := (qs.below hbi).cell hlt
                  have qa6 := qa5.keeps (Keeps.of_below hbi)
                  have qb6 := qb5.keeps (Keeps.of_below hbi)
                  have qc6 := qc5.keeps (Keeps.of_below hbi)
                  obtain ⟨g0, g1, g2, g3⟩ := qa6.four
                  obtain ⟨h0, h1, h2, h3⟩ := qb6.four
                  have p0 := qc6 0 _ rfl
                  have hki : (k : Int) < 3 := by omega
                  have HBI2 := Lib.hid hbi; clear hbi
                  go_wp2_with fail
                  have hkw := Lib.hid (Keeps.of_below (show Below w.heap.size w wr by rw [HZ.out]; exact HBI.out))
                  refine (formula_any a b A1 A2 A3 B1 B2 B3 c1 c2 c3 d1 d2 d3 PA np pc P Q wr (ha.keeps hkw.out) (hb.keeps hkw.out) HVA.out HVB.out HI.out HO.out (hp.keeps hkw.out) HOK.out (by omega) k hlt).mono ?_
                  rintro e w6 ⟨FA, fc, fv, base, rfl, hcl, hb6⟩
                  have hlen := formC_len (joint a b) a.n3 np P Q k
                  have htot := tot_form (joint a b) a.n3 np P Q k
                  have hj1 : (joint a b).n1 = a.n1 + b.n1 := rfl
                  have hj2 : (joint a b).n2 = a.n2 + b.n2 := rfl
                  have HMF := Lib.hid hcl.mat
                  have HB6 := Lib.hid (HBI.out.trans (hb6.mono (by have := HBI2.out.size; have := HB5.out.size; omega)))
                  have HBI6 := Lib.hid (HBI2.out.trans (hb6.mono HBI2.out.size))
                  have hs6 := hb6.size
                  have HCK2 : Hid (CheckP (formVars (joint a b) a.n3 np k) (formC (joint a b) a.n3 np P Q k) (St k) → ∀ j, j < k + 1 → CheckP (formVars (joint a b) a.n3 np j) (formC (joint a b) a.n3 np P Q j) (St j)) := Lib.hid (fun h j hj => if e : j = k then e ▸ h else HCK.out j (by omega))
                  have HTN : Hid (¬ CheckP (formVars (joint a b) a.n3 np k) (formC (joint a b) a.n3 np P Q k) (St k) → tf (HoldsP a b np P Q St) = false) := Lib.hid (fun h => tf_no (fun h' => h (h'.2.2 k hlt)))
                  have hl1 : (formC (joint a b) a.n3 np P Q k).length ≤ 20000000 := by rw [hj1, hj2] at hlen; omega
                  have hl2 : tot (formC (joint a b) a.n3 np P Q k) ≤ 20000000 := by rw [hj1, hj2] at htot; omega
                  clear hb6 hcl hlen htot hj1 hj2 g0 g1 g2 g3 h0 h1 h2 h3 p0 x0 qa6 qb6 qc6
                  generalize formC (joint a b) a.n3 np P Q k = L at *
                  generalize formVars (joint a b) a.n3 np k = V at *
                  go_wp2_with fail
                  refine (check_any V FA (SA k) fc (sc k) L (St k) _ (vst k) w6 HMF.out ((HSM.out k).keeps (Keeps.of_below (by rw [HZ.out]; exact HB6.out))) hl1 (by have := HS1.out k; omega) hl2 (by have := HS2.out k; omega)).mono ?_
                  rintro e w7 ⟨rfl, hb7⟩
                  have HB7 := Lib.hid (HB6.out.trans (hb7.mono (by have := HB6.out.size; have := HZ.out; omega)))
                  have HBI7 := Lib.hid (HBI6.out.trans (hb7.mono HBI6.out.size))
                  clear hb7
                  by_cases hck : CheckP V L (St k)
                  · rw [tf_yes hck]
                    have HCK3 := Lib.hid (HCK2.out hck); clear hck
                    go_wp2_with fail
                    go_roundw
                    case rel => exact ⟨k + 1, by omega, by go_num, HBI7.out, HCK3.out⟩
                    case measure => simp [intOf]; omega
                  · rw [tf_no hck]
                    have HT := Lib.hid (HTN.out hck); clear hck
                    go_wp2_with fail
                    go_ret
                    exact ⟨ret_bool HT.out.symm, by have := HB7.out; rwa [HZ.out]⟩
                · have HT := Lib.hid (tf_yes (p := HoldsP a b np P Q St) ⟨⟨HVA.out, HVB.out, HI.out, HO.out⟩, HOK.out, fun j hj => HCK.out j (by omega)⟩)
                  obtain rfl : k = 3 := by omega
                  go_wp2_with fail
                  go_ret
                  exact ⟨ret_bool HT.out.symm, by have := HBI.out; rwa [HZ.out]⟩
        · have HT := Lib.hid (tf_no (fun h : HoldsP a b np P Q St => ho h.1.2.2.2))
          have e1 : (a.ins != b.ins) = false := by simp [hi]
          have e2 : ((a.n3 : Int) != (b.n3 : Int)) = true := by simp; omega
          clear hi ho
          go_wp2_with fail
          go_ret
          exact ⟨ret_bool HT.out.symm, by have := HB3.out; rwa [HZ.out]⟩
      · have HT := Lib.hid (tf_no (fun h : HoldsP a b np P Q St => hi h.1.2.2.1))
        have e1 : (a.ins != b.ins) = true := by simp [hi]
        clear hi
        go_wp2_with fail
        go_ret
        exact ⟨ret_bool HT.out.symm, by have := HB3.out; rwa [HZ.out]⟩
    · rw [tf_no hvb]
      have HT := Lib.hid (tf_no (fun h : HoldsP a b np P Q St => hvb h.1.2.1))
      go_wp2_with fail
      go_ret
      exact ⟨ret_bool HT.out.symm, by have := HB3.out; rwa [HZ.out]⟩
  · rw [tf_no hva]
    have HT := Lib.hid (tf_no (fun h : HoldsP a b np P Q St => hva h.1.1))
    go_wp2_with fail
    go_ret
    exact ⟨ret_bool HT.out.symm, by have := HB2.out; rwa [HZ.out]⟩
end Go.Proofs.Ytkanekacjefcbaa
