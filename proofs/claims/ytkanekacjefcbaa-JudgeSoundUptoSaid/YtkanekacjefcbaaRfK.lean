/- refute.Check, the walk. Conditions: the formula and the steps lie in memory and are of the given bulk. -/
import Derived.Test.YtkanekacjefcbaaRfC
namespace Go.Proofs.Ytkanekacjefcbaa
open Go.RowKit Go.Maps Go.ChangeShapes

theorem litsOk_mono {v : Int} {c : List Int} (h : LitsOk v c) (hv : v ≤ 100000) : LitsOk 100000 c := fun l hl => by
  obtain ⟨a, b, d⟩ := h l hl
  exact ⟨a, by omega, by omega⟩
/-- the holder, the first so many clauses read in -/
def HoldIn (w wi : World) (z : Nat) (vars : Int) (cs : List (List Int)) (vs : List Value) (k : Nat) : Prop :=
  ∃ (A : Option Addr) (c : Nat) (D : DataW Unit) (U : Option Addr) (cu : Nat) (us : List Int), us.length ≤ k ∧ Hold w wi (z + 1 + 1) (z + 1) (z + 1 + 1 + 1) vars cs vs A c (tot cs) D U cu us (gAll cs) cs.length

set_option maxHeartbeats 20000000 in
set_option maxRecDepth 100000 in
theorem check_any (vars : Int) (FA SA : Option Addr) (fc sc : Nat) (F St : List (List Int)) (vf vst : List Value) (w : World) (hF : MatC w FA F vf) (hS : MatC w SA St vst) (b1 : F.length ≤ 20000000) (b2 : St.length ≤ 20000000) (b3 : tot F ≤ 20000000) (b4 : tot St ≤ 20000000) :
    Calls Try.prog 6 #[.agg #[.int .i64 vars, .slice FA F.length fc], .slice SA St.length sc] w fun e w' => e = .returned (.bool (tf (CheckP vars F St))) ∧ Below w.heap.size w w' := by
  have hmm := @run_makeMap Try.prog
  have HFM := Lib.hid hF; have HSM := Lib.hid hS; clear hF hS
  have hbl : Below w.heap.size w (w.alloc (.cells #[.int .i64 vars, .slice FA F.length fc] 24)) := (Below.refl _ _).alloc (Nat.le_refl _) _
  have HB0 := Lib.hid hbl; clear hbl
  by_cases c1 : vars < 0
  · have HT := Lib.hid (tf_no (fun h : CheckP vars F St => by have := h.v0; omega))
    go_enter Try.func6, Try.ntmps6
    go_wp2_with fail
    go_ret
    exact ⟨ret_bool HT.out.symm, HB0.out⟩
  · by_cases c2 : 100000 < vars
    · have HT := Lib.hid (tf_no (fun h : CheckP vars F St => by have := h.v1; omega))
      go_enter Try.func6, Try.ntmps6
      go_wp2_with fail
      go_ret
      exact ⟨ret_bool HT.out.symm, HB0.out⟩
    · by_cases c3 : St.length = 0
      · have HT := Lib.hid (tf_no (fun h : CheckP vars F St => h.ne (List.eq_nil_of_length_eq_zero c3)))
        have hq : ((St.length : Int) == 0) = true := by simp [c3]
        go_enter Try.func6, Try.ntmps6
        clear c3
        go_wp2_with fail
        go_ret
        exact ⟨ret_bool HT.out.symm, HB0.out⟩
      · have hq : ((St.length : Int) == 0) = false := by rw [beq_eq_false_iff_ne]; omega
        have hpos : 0 < St.length := by omega
        obtain ⟨ll, LA, ld, lb, lo, hll, _, hSA, hlc, hlr⟩ := (HSM.out.keeps (Keeps.of_below HB0.out)).at_ (k := St.length - 1) (by omega)
        have HLAST : Hid (St.getLast? = some ll) := Lib.hid (by rw [List.getLast?_eq_getElem?, hll])
        have e1 : ((St.length : Int) - 1).toNat = St.length - 1 := by omega
        have e2 : (0 : Int) ≤ (St.length : Int) - 1 := by omega
        have e3 : (St.length : Int) - 1 < St.length := by omega
        clear hll hlr
        by_cases c4 : 0 < ll.length
        · have HT := Lib.hid (tf_no (fun h : CheckP vars F St => by
            have := h.last
            rw [HLAST.out] at this
            injection this with this
            subst this
            simp at c4))
          have c4' : (0 : Int) < ll.length := by omega
          subst hSA
          go_enter Try.func6, Try.ntmps6
          go_wp2_with fail
          go_ret
          exact ⟨ret_bool HT.out.symm, HB0.out⟩
        · have HLAST2 : Hid (St.getLast? = some []) := Lib.hid (by rw [HLAST.out, List.eq_nil_of_length_eq_zero (l := ll) (by omega)])
          have c4' : ¬ (0 : Int) < ll.length := by omega
          have c4'' : (ll.length : Int) ≤ 0 := by omega
          go_enter Try.func6, Try.ntmps6
          subst hSA
          go_upto_region 4 with (fail)
          clear hmm hq e1 e2 e3 c4' c4'' hlc
          have qf := BoxAt.new w [.int .i64 vars, .slice FA F.length fc] 24
          have s1 : (w.alloc (.cells #[.int .i64 vars, .slice FA F.length fc] 24)).heap.size = w.heap.size + 1 := by simp
          have hbb := HB0.out
          generalize w.alloc (.cells #[.int .i64 vars, .slice FA F.length fc] 24) = wx at *
          replace qf := (qf.keeps (Keeps.alloc wx (.map #[] 0))).keeps (Keeps.alloc (wx.alloc (.map #[] 0)) (.cells #[.int .i64 vars, .slice none 0 0, .map (some (w.heap.size + 1)), .slice none 0 0, .map none] 42))
          have hbx := Arr.new (wx.alloc (.map #[] 0)) #[.int .i64 vars, .slice none 0 0, .map (some (w.heap.size + 1)), .slice none 0 0, .map none] 42
          rw [show (wx.alloc (.map #[] 0)).heap.size = w.heap.size + 1 + 1 by simp [s1]] at hbx
          have hst : Hold w ((wx.alloc (.map #[] 0)).alloc (.cells #[.int .i64 vars, .slice none 0 0, .map (some (w.heap.size + 1)), .slice none 0 0, .map none] 42)) (w.heap.size + 1 + 1) (w.heap.size + 1) (w.heap.size + 1 + 1 + 1) vars [] [] none 0 0 (.map []) none 0 [] (gAll []) 0 :=
            Hold.start w _ w.heap.size vars rfl ((hbb.alloc (by omega) _).alloc (by simp [s1]; omega) _) (by simp [s1]) (hbx.congr (fun j hj => by
              obtain rfl | rfl | rfl | rfl | rfl : j = 0 ∨ j = 1 ∨ j = 2 ∨ j = 3 ∨ j = 4 := by (have hj' : j < 5 := hj); omega
              all_goals rfl)) ⟨wx, s1, (Below.refl _ _).alloc (by simp [s1]) _⟩
          clear s1 hbx hbb
          generalize (wx.alloc (.map #[] 0)).alloc (.cells #[.int .i64 vars, .slice none 0 0, .map (some (w.heap.size + 1)), .slice none 0 0, .map none] 42) = w5 at *
          generalize hz : w.heap.size = z at *
          have HZZ := Lib.hid hz; clear hz
          have p1 := qf 1 _ rfl
          have hv0 : 0 ≤ vars := by omega
          have hv1 : vars ≤ 100000 := by omega
          have HST := Lib.hid hst
          have HQF := Lib.hid qf
          clear hst qf
          go_wp2_with fail
          clear p1
          go_loopw [41] (fun ix wi => ∃ k : Nat, k ≤ F.length ∧ ix = .int .i64 k ∧ Hid (BoxAt wi z [.int .i64 vars, .slice FA F.length fc] ∧ (∀ (j : Nat) (c : List Int), j < k → F[j]? = some c → LitsOk vars c) ∧ HoldIn w wi z vars (F.take k) (vf.take k) k)) (fun ix _ => F.length - (intOf ix).toNat)
          case atStart => exact ⟨0, by omega, rfl, Lib.hid ⟨HQF.out, fun j c hj => by omega, none, 0, .map [], none, 0, [], by simp, by simpa [tot] using HST.out⟩⟩
          case round =>
            clear HST HQF
            obtain ⟨k, hk, rfl, HM⟩ := hrel
            obtain ⟨hqf, hls, A, c, D, U, cu, us, hus, hH⟩ := HM.out
            clear HM
            have HH := Lib.hid hH; have HLS := Lib.hid hls; have HQF := Lib.hid hqf
            clear hH hls hqf
            have hkp := Lib.hid (Keeps.of_below HH.out.bel)
            by_cases hlt : k < F.length
            · have hki : (k : Int) < F.length := by omega
              obtain ⟨l, A', d, ba, oa, hl1, hl2, hFA, x0, hclw⟩ := HFM.out.at_ hlt
              replace x0 := hkp.out _ _ x0
              have hlen : l.length ≤ 20000000 := by have := tot_mem (List.mem_of_getElem? hl1); omega
              have HL1 := Lib.hid hl1; have HL2 := Lib.hid hl2; have HCW := Lib.hid hclw
              clear hl1 hl2 hclw
              subst hFA
              have p0 := HQF.out 0 _ rfl
              go_wp2_with fail
              refine (right_any A' d l vars _ (HCW.out.keeps hkp.out) (by omega) hv0 hv1).mono ?_
              rintro e w1 ⟨rfl, rfl⟩
              clear p0 x0
              by_cases hlo : LitsOk vars l
              · rw [tf_yes hlo]
                have HLO := Lib.hid hlo; clear hlo
                have hck : (F.take k).length = k := by simp; omega
                have htk := tot_take HL1.out
                go_wp2_with fail
                refine (add_any w (z + 1 + 1) (z + 1) (z + 1 + 1 + 1) vars (F.take k) (vf.take k) A c (tot (F.take k)) D U cu us l A' d _ HH.out HCW.out (litsOk_mono HLO.out hv1) (by omega) (by omega) (by omega)).mono ?_
                rintro e w2 ⟨⟨v, rfl⟩, hO, A2, c2, D2, U2, cu2, us2, hus2, hH2⟩
                have HN : Hid (BoxAt w2 z [.int .i64 vars, .slice (some ⟨ba, oa, none⟩) F.length fc] ∧ (∀ (j : Nat) (c : List Int), j < k + 1 → F[j]? = some c → LitsOk vars c) ∧ HoldIn w w2 z vars (F.take (k + 1)) (vf.take (k + 1)) (k + 1)) := Lib.hid ⟨hO.box HQF.out (by omega), fun j q hj hq => by
                    by_cases e : j < k
                    · exact HLS.out j q e hq
                    · obtain rfl : j = k := by omega
                      rw [HL1.out] at hq
                      injection hq with hq
                      subst hq
                      exact HLO.out, A2, c2, D2, U2, cu2, us2, by omega, by
                    rw [take_next HL1.out, take_next HL2.out, tot_app]
                    simpa [tot] using hH2⟩
                clear hO hH2 hck htk
                go_wp2_with fail
                go_roundw
                case rel => exact ⟨k + 1, by omega, by go_num, HN⟩
                case measure => simp [intOf]; omega
              · rw [tf_no hlo]
                have HT := Lib.hid (tf_no (fun h : CheckP vars F St => hlo (h.f l (List.mem_of_getElem? HL1.out))))
                clear hlo
                go_wp2_with fail
                go_ret
                exact ⟨ret_bool HT.out.symm, HH.out.bel⟩
            · obtain rfl : k = F.length := by omega
              have HI : Hid (BoxAt wr z [.int .i64 vars, .slice FA F.length fc] ∧ (∀ (i : Nat) (c : List Int), i < 0 → St[i]? = some c → LitsOk vars c ∧ FollowsP (F ++ St.take i) c) ∧ HoldIn w wr z vars (F ++ St.take 0) (vf ++ vst.take 0) (F.length + 0)) := Lib.hid ⟨HQF.out, fun i c hi => by omega, A, c, D, U, cu, us, by omega, by
                have e1 : vf.take F.length = vf := by rw [← HFM.out.len, List.take_length]
                have := HH.out
                rw [List.take_length, e1] at this
                simpa using this⟩
              have HLF : Hid (∀ c, c ∈ F → LitsOk vars c) := Lib.hid (fun c hc => by
                obtain ⟨j, hj, e⟩ := List.mem_iff_getElem.1 hc
                exact HLS.out j c hj (by rw [List.getElem?_eq_getElem hj, e]))
              clear HQF HLS HH hkp
              go_wp2_with fail
              go_loopw [56] (fun ix wi => ∃ j : Nat, j ≤ St.length ∧ ix = .int .i64 j ∧ Hid (BoxAt wi z [.int .i64 vars, .slice FA F.length fc] ∧ (∀ (i : Nat) (c : List Int), i < j → St[i]? = some c → LitsOk vars c ∧ FollowsP (F ++ St.take i) c) ∧ HoldIn w wi z vars (F ++ St.take j) (vf ++ vst.take j) (F.length + j))) (fun ix _ => St.length - (intOf ix).toNat)
              case atStart => exact ⟨0, by omega, rfl, HI⟩
              case round =>
                clear HI
                obtain ⟨k, hk, rfl, HM⟩ := hrel
                obtain ⟨hqf, hls, A, c, D, U, cu, us, hus, hH⟩ := HM.out
                clear HM
                have HH := Lib.hid hH; have HLS := Lib.hid hls; have HQF := Lib.hid hqf
                clear hH hls hqf
                have hkp := Lib.hid (Keeps.of_below HH.out.bel)
                by_cases hlt : k < St.length
                · have hki : (k : Int) < St.length := by omega
                  obtain ⟨l, A', d, ba, oa, hl1, hl2, hSA, x0, hclw⟩ := HSM.out.at_ hlt
                  replace x0 := hkp.out _ _ x0
                  have hlen : l.length ≤ 20000000 := by have := tot_mem (List.mem_of_getElem? hl1); omega
                  have HL1 := Lib.hid hl1; have HL2 := Lib.hid hl2; have HCW := Lib.hid hclw
                  clear hl1 hl2 hclw
                  obtain ⟨rfl, rfl⟩ : lb = ba ∧ lo = oa := by simpa using hSA
                  clear hSA
                  have p0 := HQF.out 0 _ rfl
                  have hck : (F ++ St.take k).length = F.length + k := by simp; omega
                  have HCK := Lib.hid hck; clear hck
                  have htk := tot_take HL1.out
                  have hta : tot (F ++ St.take k) = tot F + tot (St.take k) := tot_app _ _
                  have HTA := Lib.hid hta; clear hta
                  have hlc : ∀ q, q ∈ F ++ St.take k → LitsOk vars q := fun q hq => by
                    rcases List.mem_append.1 hq with hq | hq
                    · exact HLF.out q hq
                    · obtain ⟨j, hj, e⟩ := List.mem_iff_getElem.1 hq
                      have hj' : j < k := by simp at hj; omega
                      exact (HLS.out j q hj' (by rw [← e, List.getElem_take, List.getElem?_eq_getElem])).1
                  have HLC := Lib.hid hlc; clear hlc
                  go_wp2_with fail
                  refine (right_any A' d l vars _ (HCW.out.keeps hkp.out) (by omega) hv0 hv1).mono ?_
                  rintro e w1 ⟨rfl, rfl⟩
                  clear p0 x0
                  by_cases hlo : LitsOk vars l
                  · rw [tf_yes hlo]
                    have HLO := Lib.hid hlo; clear hlo
                    go_wp2_with fail
                    refine (follows_any w (z + 1 + 1) (z + 1) (z + 1 + 1 + 1) vars (F ++ St.take k) (vf ++ vst.take k) A c (tot (F ++ St.take k)) D U cu us l A' d _ HH.out HCW.out (litsOk_mono HLO.out hv1) (fun q hq => litsOk_mono (HLC.out q hq) hv1) (by omega) (fun q hq => by
                      rcases List.mem_append.1 hq with hq | hq
                      · have := tot_mem hq; omega
                      · have := tot_mem hq; have := tot_le (cs := St) (k := k); omega) (by rw [HCK.out]; omega) (by rw [HTA.out]; have := tot_le (cs := St) (k := k); omega) (by omega)).mono ?_
                    rintro e w2 ⟨rfl, hbw⟩
                    have HH2 := Lib.hid (HH.out.below hbw)
                    have HQ2 := Lib.hid (HQF.out.keeps (Keeps.of_below hbw))
                    clear hbw
                    by_cases hfo : FollowsP (F ++ St.take k) l
                    · rw [tf_yes hfo]
                      have HFO := Lib.hid hfo; clear hfo
                      go_wp2_with fail
                      refine (add_any w (z + 1 + 1) (z + 1) (z + 1 + 1 + 1) vars (F ++ St.take k) (vf ++ vst.take k) A c (tot (F ++ St.take k)) D U cu us l A' d _ HH2.out HCW.out (litsOk_mono HLO.out hv1) (by rw [HCK.out]; omega) (by omega) (by rw [HTA.out]; omega)).mono ?_
                      rintro e w3 ⟨⟨v, rfl⟩, hO, A2, c2, D2, U2, cu2, us2, hus2, hH2⟩
                      have HN : Hid (BoxAt w3 z [.int .i64 vars, .slice FA F.length fc] ∧ (∀ (i : Nat) (c : List Int), i < k + 1 → St[i]? = some c → LitsOk vars c ∧ FollowsP (F ++ St.take i) c) ∧ HoldIn w w3 z vars (F ++ St.take (k + 1)) (vf ++ vst.take (k + 1)) (F.length + (k + 1))) := Lib.hid ⟨hO.box HQ2.out (by omega), fun j q hj hq => by
                          by_cases e : j < k
                          · exact HLS.out j q e hq
                          · obtain rfl : j = k := by omega
                            rw [HL1.out] at hq
                            injection hq with hq
                            subst hq
                            exact ⟨HLO.out, HFO.out⟩, A2, c2, D2, U2, cu2, us2, by omega, by
                          rw [take_next HL1.out, take_next HL2.out, ← List.append_assoc, ← List.append_assoc, tot_app]
                          simpa [tot] using hH2⟩
                      clear hO hH2
                      go_wp2_with fail
                      go_roundw
                      case rel => exact ⟨k + 1, by omega, by go_num, HN⟩
                      case measure => simp [intOf]; omega
                    · rw [tf_no hfo]
                      have HT := Lib.hid (tf_no (fun h : CheckP vars F St => hfo (h.s k l HL1.out).2))
                      clear hfo
                      go_wp2_with fail
                      go_ret
                      exact ⟨ret_bool HT.out.symm, HH2.out.bel⟩
                  · rw [tf_no hlo]
                    have HT := Lib.hid (tf_no (fun h : CheckP vars F St => hlo (h.s k l HL1.out).1))
                    clear hlo
                    go_wp2_with fail
                    go_ret
                    exact ⟨ret_bool HT.out.symm, HH.out.bel⟩
                · obtain rfl : k = St.length := by omega
                  have HT := Lib.hid (tf_yes (⟨hv0, hv1, fun e => by subst e; simp at hpos, HLAST2.out, HLF.out, fun i q hq => HLS.out i q (List.getElem?_eq_some_iff.1 hq).1 hq⟩ : CheckP vars F St))
                  go_wp2_with fail
                  go_ret
                  exact ⟨ret_bool HT.out.symm, HH.out.bel⟩
end Go.Proofs.Ytkanekacjefcbaa
