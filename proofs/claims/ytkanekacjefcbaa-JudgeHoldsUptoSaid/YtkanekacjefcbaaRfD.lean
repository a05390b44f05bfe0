/- The reference's CnfValid and Refuted, walked. Conditions: the formula and the steps lie in memory and are of the given bulk. -/
import Derived.Test.YtkanekacjefcbaaRfE
import Derived.Test.YtkanekacjefcbaaRfA
import Derived.Test.YtkanekacjefcbaaDrawn2
import Derived.Deep.QuietTactic
import Derived.BigQuiet
namespace Go.Proofs.Ytkanekacjefcbaa
open Go.RowKit

def CnfOk (vars : Int) (F : List (List Int)) : Prop := 0 ≤ vars ∧ vars ≤ 100000 ∧ ∀ c, c ∈ F → LitsOk vars c
theorem drawn_b (w : World) (q : Nat) : Below w.heap.size w (w.drewN q) := ⟨rfl, rfl, rfl, Nat.le_refl _, fun _ _ => rfl⟩

set_option maxHeartbeats 4000000 in
set_option maxRecDepth 100000 in
theorem cnfValid_any (vars : Int) (FA : Option Addr) (fc : Nat) (F : List (List Int)) (vf : List Value) (w : World) (hF : MatC w FA F vf) (b1 : F.length ≤ 1000000000) (b2 : ∀ c, c ∈ F → c.length ≤ 1000000000) :
    Calls Try.prog 15 #[.agg #[.int .i64 vars, .slice FA F.length fc]] w fun e w' => e = .returned (.bool (tf (CnfOk vars F))) ∧ Below w.heap.size w w' := by
  have HFM := Lib.hid hF; have HB2 := Lib.hid b2
  clear hF b2
  have hbl : Below w.heap.size w (w.alloc (.cells #[.int .i64 vars, .slice FA F.length fc] 24)) := (Below.refl _ _).alloc (Nat.le_refl _) _
  have HB0 := Lib.hid hbl; clear hbl
  by_cases c1 : vars < 0
  · have HT := Lib.hid (tf_no (fun h : CnfOk vars F => by have := h.1; omega))
    go_enter Try.func15, Try.ntmps15
    go_wp2_with fail
    go_ret
    exact ⟨ret_bool HT.out.symm, HB0.out⟩
  · by_cases c2 : 100000 < vars
    · have HT := Lib.hid (tf_no (fun h : CnfOk vars F => by have := h.2.1; omega))
      go_enter Try.func15, Try.ntmps15
      go_wp2_with fail
      go_ret
      exact ⟨ret_bool HT.out.symm, HB0.out⟩
    · have hv0 : 0 ≤ vars := by omega
      have hv1 : vars ≤ 100000 := by omega
      go_enter Try.func15, Try.ntmps15
      go_upto_region 3 with (fail)
      have qf := BoxAt.new w [.int .i64 vars, .slice FA F.length fc] 24
      generalize w.alloc (.cells #[.int .i64 vars, .slice FA F.length fc] 24) = w1 at *
      have HQF := Lib.hid qf; clear qf
      go_wp2_with fail
      go_loopw [3] (fun ix wi => ∃ k : Nat, k ≤ F.length ∧ ix = .int .i64 k ∧ Hid (Below w1.heap.size w1 wi ∧ ∀ (j : Nat) (c : List Int), j < k → F[j]? = some c → LitsOk vars c)) (fun ix _ => F.length - (intOf ix).toNat)
      case atStart => exact ⟨0, by omega, rfl, Lib.hid ⟨Below.refl _ _, fun j c hj => by omega⟩⟩
      case round =>
        obtain ⟨k, hk, rfl, HM⟩ := hrel
        have HBL := Lib.hid HM.out.1; have HLS := Lib.hid HM.out.2
        clear HM
        have hkp := Lib.hid (Keeps.of_below HBL.out)
        have p0 := (HQF.out.keeps hkp.out) 0 _ rfl
        have p1 := (HQF.out.keeps hkp.out) 1 _ rfl
        by_cases hlt : k < F.length
        · have hki : (k : Int) < F.length := by omega
          obtain ⟨l, A', d, ba, oa, hl1, _, hFA, x0, hclw⟩ := HFM.out.at_ hlt
          have hkp2 := (Keeps.of_below HB0.out).trans hkp.out
          replace x0 := hkp2 _ _ x0
          have HCW := Lib.hid (hclw.keeps hkp2)
          have HL1 := Lib.hid hl1
          have hln := HB2.out l (List.mem_of_getElem? hl1)
          rw [hFA] at p1
          clear hFA hclw hkp2 hl1
          obtain ⟨r, hr⟩ : ∃ r : Bool, r = tf (LitsOk vars l) := ⟨_, rfl⟩
          have HC : Hid (∀ W : World, ClRow W A' l → Calls Try.prog 16 #[.slice A' l.length d, .int .i64 vars] W fun e w' => e = .returned (.bool r) ∧ w' = W) := Lib.hid (fun W h => by rw [hr]; exact fmd_any A' d l vars W h (by omega) hv0 hv1)
          have HR := Lib.hid hr; clear hr
          go_wp2_with fail
          go_quiet ((go_at_call 16; exact Calls.quiet_of_same (HC.out _ HCW.out)))
          have HBD := Lib.hid (Below.then_call HBL.out (drawn_b wr nq) HBL.out.size)
          clear p0 p1 x0
          generalize wr.drewN nq = wd at *
          cases r with
          | true =>
            have hlo := tf_eq_true.1 HR.out.symm
            have HN : Hid (Below w1.heap.size w1 wd ∧ ∀ (j : Nat) (c : List Int), j < k + 1 → F[j]? = some c → LitsOk vars c) := Lib.hid ⟨HBD.out, fun j q hj hq => by
              by_cases e : j < k
              · exact HLS.out j q e hq
              · obtain rfl : j = k := by omega
                rw [HL1.out] at hq
                injection hq with hq
                subst hq
                exact hlo⟩
            clear hlo
            go_wp2_with fail
            go_roundw
            case rel => exact ⟨k + 1, by omega, by go_num, HN⟩
            case measure => simp [intOf]; omega
          | false =>
            have hlo := tf_eq_false.1 HR.out.symm
            have HT := Lib.hid (tf_no (fun h : CnfOk vars F => hlo (h.2.2 l (List.mem_of_getElem? HL1.out))))
            clear hlo
            go_wp2_with fail
            go_ret
            exact ⟨ret_bool HT.out.symm, HB0.out.trans (HBD.out.mono HB0.out.size)⟩
        · obtain rfl : k = F.length := by omega
          have HT := Lib.hid (tf_yes (⟨hv0, hv1, fun c hc => by
            obtain ⟨j, hj, e⟩ := List.mem_iff_getElem.1 hc
            exact HLS.out j c hj (by rw [List.getElem?_eq_getElem hj, e])⟩ : CnfOk vars F))
          go_wp2_with fail
          go_ret
          exact ⟨ret_bool HT.out.symm, HB0.out.trans (HBL.out.mono HB0.out.size)⟩
end Go.Proofs.Ytkanekacjefcbaa
