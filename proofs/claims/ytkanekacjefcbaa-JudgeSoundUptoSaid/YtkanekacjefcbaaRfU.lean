/- The reference's CnfValid and Refuted, walked. Conditions: the formula and the steps lie in memory and are of the given bulk. The reference's Refuted, walked. Conditions: the formula and the steps lie in memory and are of the given bulk. -/
import Derived.Test.YtkanekacjefcbaaRfE
import Derived.Test.YtkanekacjefcbaaRfA
import Derived.Test.YtkanekacjefcbaaDrawn2
import Derived.Deep.QuietTactic
import Derived.BigQuiet
import Derived.Deep.DeepCutAuto
namespace Go.Proofs.Ytkanekacjefcbaa
open Go.RowKit

def CnfOk (vars : Int) (F : List (List Int)) : Prop := 0 ≤ vars ∧ vars ≤ 100000 ∧ ∀ c, c ∈ F → LitsOk vars c
theorem drawn_b (w : World) (q : Nat) : Below w.heap.size w (w.drewN q) := ⟨rfl, rfl, rfl, Nat.le_refl _, fun _ _ => rfl⟩

set_option maxHeartbeats 4000000 in
set_option maxRecDepth 100000 in
theorem cnfValid_any (vars : Int) (FA : Option Addr) (fc : Nat) (F : List (List Int)) (vf : List Value) (w : World) (hF : MatC w FA F vf) (b1 : F.length ≤ 1000000000) (b2 : ∀ c, c ∈ F → c.length ≤ 1000000000) :
    Calls Try.prog 15 #[.agg #[.int .i64 vars, .slice FA F.length fc]] w fun e w' => e = .returned (.bool (tf (CnfOk vars F))) ∧ Below w.heap.size w w' := by
  have HFM := Lib.hid hF; have HB2 := Lib.hid b2
  clear hF b2
  have hbl : Below w.heap.size w (w.alloc (.cells #[.int .i64 vars, .slice FA F.length fc] 24)) := (Below.refl _ _).alloc (Nat.le_refl _) _
  have HB0 := Lib.hid hbl; clear hbl
  by_cases c1 : vars < 0
  · have HT := Lib.hid (tf_no (fun h : CnfOk vars F => by have := h.1; omega))
    go_enter Try.func15, Try.ntmps15
    go_wp2_with fail
    go_ret
    exact ⟨ret_bool HT.out.symm, HB0.out⟩
  · by_cases c2 : 100000 < vars
    · have HT := Lib.hid (tf_no (fun h : CnfOk vars F => by have := h.2.1; omega))
      go_enter Try.func15, Try.ntmps15
      go_wp2_with fail
      go_ret
      exact ⟨ret_bool HT.out.symm, HB0.out⟩
    · have hv0 : 0 ≤ vars := by omega
      have hv1 : vars ≤ 100000 := by omega
      go_enter Try.func15, Try.ntmps15
      go_upto_region 3 with (fail)
      have qf := BoxAt.new w [.int .i64 vars, .slice FA F.length fc] 24
      generalize w.alloc (.cells #[.int .i64 vars, .slice FA F.length fc] 24) = w1 at *
      have HQF := Lib.hid qf; clear qf
      go_wp2_with fail
      go_loopw [3] (fun ix wi => ∃ k : Nat, k ≤ F.length ∧ ix = .int .i64 k ∧ Hid (Below w1.heap.size w1 wi ∧ ∀ (j : Nat) (c : List Int), j < k → F[j]? = some c → LitsOk vars c)) (fun ix _ => F.length - (intOf ix).toNat)
      case atStart => exact ⟨0, by omega, rfl, Lib.hid ⟨Below.refl _ _, fun j c hj => by omega⟩⟩
      case round =>
        obtain ⟨k, hk, rfl, HM⟩ := hrel
        have HBL := Lib.hid HM.out.1; have HLS := Lib.hid HM.out.2
        clear HM
        have hkp := Lib.hid (Keeps.of_below HBL.out)
        have p0 := (HQF.out.keeps hkp.out) 0 _ rfl
        have p1 := (HQF.out.keeps hkp.out) 1 _ rfl
        by_cases hlt : k < F.length
        · have hki : (k : Int) < F.length := by omega
          obtain ⟨l, A', d, ba, oa, hl1, _, hFA, x0, hclw⟩ := HFM.out.at_ hlt
          have hkp2 := (Keeps.of_below HB0.out).trans hkp.out
          replace x0 := hkp2 _ _ x0
          have HCW := Lib.hid (hclw.keeps hkp2)
          have HL1 := Lib.hid hl1
          have hln := HB2.out l (List.mem_of_getElem? hl1)
          rw [hFA] at p1
          clear hFA hclw hkp2 hl1
          obtain ⟨r, hr⟩ : ∃ r : Bool, r = tf (LitsOk vars l) := ⟨_, rfl⟩
          have HC : Hid (∀ W : World, ClRow W A' l → Calls Try.prog 16 #[.slice A' l.length d, .int .i64 vars] W fun e w' => e = .returned (.bool r) ∧ w' = W) := Lib.hid (fun W h => by rw [hr]; exact fmd_any A' d l vars W h (by omega) hv0 hv1)
          have HR := Lib.hid hr; clear hr
          go_wp2_with fail
          go_quiet ((go_at_call 16; exact Calls.quiet_of_same (HC.out _ HCW.out)))
          have HBD := Lib.hid (Below.then_call HBL.out (drawn_b wr nq) HBL.out.size)
          clear p0 p1 x0
          generalize wr.drewN nq = wd at *
          cases r with
          | true =>
            have hlo := tf_eq_true.1 HR.out.symm
            have HN : Hid (Below w1.heap.size w1 wd ∧ ∀ (j : Nat) (c : List Int), j < k + 1 → F[j]? = some c → LitsOk vars c) := Lib.hid ⟨HBD.out, fun j q hj hq => by
              by_cases e : j < k
              · exact HLS.out j q e hq
              · obtain rfl : j = k := by omega
                rw [HL1.out] at hq
                injection hq with hq
                subst hq
                exact hlo⟩
            clear hlo
            go_wp2_with fail
            go_roundw
            case rel => exact ⟨k + 1, by omega, by go_num, HN⟩
            case measure => simp [intOf]; omega
          | false =>
            have hlo := tf_eq_false.1 HR.out.symm
            have HT := Lib.hid (tf_no (fun h : CnfOk vars F => hlo (h.2.2 l (List.mem_of_getElem? HL1.out))))
            clear hlo
            go_wp2_with fail
            go_ret
            exact ⟨ret_bool HT.out.symm, HB0.out.trans (HBD.out.mono HB0.out.size)⟩
        · obtain rfl : k = F.length := by omega
          have HT := Lib.hid (tf_yes (⟨hv0, hv1, fun c hc => by
            obtain ⟨j, hj, e⟩ := List.mem_iff_getElem.1 hc
            exact HLS.out j c hj (by rw [List.getElem?_eq_getElem hj, e])⟩ : CnfOk vars F))
          go_wp2_with fail
          go_ret
          exact ⟨ret_bool HT.out.symm, HB0.out.trans (HBL.out.mono HB0.out.size)⟩
end Go.Proofs.Ytkanekacjefcbaa
namespace Go.Proofs.Ytkanekacjefcbaa
open Go.RowKit

/-- the growing formula in the box gq -/
structure RD (w wi : World) (z gq : Nat) (V : Nat) (FA : Option Addr) (fc : Nat) (F St : List (List Int)) (vf vst : List Value) (i : Nat) (A : Option Addr) (c : Nat) : Prop where
  bel : Below w.heap.size w wi
  fb : BoxAt wi z [.int .i64 V, .slice FA F.length fc]
  gb : Arr wi gq 24 2 (fun j => if j = 0 then .int .i64 V else .slice A (F.length + i) c)
  row : wi.ownsRow (gq + 1) 26 1 (.slice A (F.length + i) c) (F.length + i) (vf ++ vst.take i)
  lt : w.heap.size = z ∧ z < gq ∧ gq + 1 ≤ wi.heap.size
section
variable {w wi w1 : World} {z gq V fc i c : Nat} {FA FA' SA A : Option Addr} {F St : List (List Int)} {vf vst : List Value}
theorem RD.call (h : RD w wi z gq V FA fc F St vf vst i A c) (hb : Below wi.heap.size wi w1) : RD w w1 z gq V FA fc F St vf vst i A c :=
  ⟨h.bel.trans (hb.mono h.bel.size), h.fb.keeps (Keeps.of_below hb), h.gb.below hb, own_below h.row hb, by obtain ⟨a, b, d⟩ := h.lt; exact ⟨a, b, Nat.le_trans d hb.size⟩⟩
theorem RD.mat (h : RD w wi z gq V FA fc F St vf vst i A c) (hF : MatC w FA' F vf) (hS : MatC w SA St vst) (hi : i ≤ St.length) : MatC wi A (F ++ St.take i) (vf ++ vst.take i) := by
  have hl : (F ++ St.take i).length = F.length + i := by simp; omega
  refine ⟨by simp [hF.len, hS.len], ?_, fun j v l hv hl' => ?_⟩
  · rw [hl]
    exact own_row1 h.row
  · have hk := Keeps.of_below h.bel
    by_cases hj : j < F.length
    · rw [List.getElem?_append_left (by rw [hF.len]; exact hj)] at hv
      rw [List.getElem?_append_left hj] at hl'
      obtain ⟨A', d, e, h3⟩ := hF.cl j v l hv hl'
      exact ⟨A', d, e, h3.keeps hk⟩
    · rw [List.getElem?_append_right (by rw [hF.len]; omega), hF.len, List.getElem?_take] at hv
      rw [List.getElem?_append_right (by omega), List.getElem?_take] at hl'
      split at hv
      · rename_i hlt
        rw [if_pos hlt] at hl'
        obtain ⟨A', d, e, h3⟩ := hS.cl _ v l hv hl'
        exact ⟨A', d, e, h3.keeps hk⟩
      · cases hv
theorem RD.push {A' : Option Addr} {c' : Nat} {v : Value} (h : RD w wi z gq V FA fc F St vf vst i A c) (hv : vst[i]? = some v) (hk : Only (blockOf A) wi w1)
    (ho : w1.ownsRow (gq + 1) 26 1 (.slice A' (F.length + i + 1) c') (F.length + i + 1) (vf ++ vst.take i ++ [v])) : RD w (w1.setCell ⟨gq, 1, none⟩ (.slice A' (F.length + i + 1) c')) z gq V FA fc F St vf vst (i + 1) A' c' := by
  obtain ⟨l1, l2, l3⟩ := h.lt
  have hba := own_base h.row
  have hbo := own_base ho
  have os := (Only.refl (fun j => j = gq) w1).setCell (p := ⟨gq, 1, none⟩) (fun _ => rfl) (.slice A' (F.length + i + 1) c')
  have hb1 := hk.below (B := w.heap.size) (fun k _ c => by have := hba k c; omega) (by omega)
  refine ⟨(h.bel.trans hb1).trans (os.below (fun k _ e => by omega) (by have := hk.size; omega)), os.box (hk.box h.fb (fun c => by have := hba _ c; omega)) (by omega), ?_, ?_, ⟨l1, l2, by have := hk.size; have := os.size; omega⟩⟩
  · exact (h.gb.only hk (fun c => by have := hba _ c; omega)).set (fun j hj hne => by
      obtain rfl : j = 0 := by omega
      rfl) rfl
  · rw [take_next hv, ← List.append_assoc]
    exact own_only ho os (fun k c e => by have := hbo k c; omega)
end
theorem src_vals {w : World} {A : Option Addr} {cs : List (List Int)} {vs : List Value} (h : MatC w A cs vs) : Src w 1 A cs.length vs := by
  have e : (List.range cs.length).map (fun i => vs.getD i undef) = vs := by
    refine List.ext_getElem (by simp [h.len]) (fun i h1 h2 => ?_)
    simp [List.getD_eq_getElem?_getD, List.getElem?_eq_getElem h2]
  have := src_row1 h.row (fun k hk => by
    obtain ⟨l, A', d, b, o, _, hv, _⟩ := h.at_ hk
    rw [List.getD_eq_getElem?_getD, hv]
    rfl)
  rwa [e] at this

set_option maxHeartbeats 20000000 in
set_option maxRecDepth 100000 in
theorem refuted_any (vars : Int) (FA SA : Option Addr) (fc sc : Nat) (F St : List (List Int)) (vf vst : List Value) (w : World) (hF : MatC w FA F vf) (hS : MatC w SA St vst) (b1 : F.length ≤ 20000000) (b2 : St.length ≤ 20000000) (b3 : tot F ≤ 20000000) (b4 : tot St ≤ 20000000) :
    Calls Try.prog 7 #[.agg #[.int .i64 vars, .slice FA F.length fc], .slice SA St.length sc] w fun e w' => e = .returned (.bool (tf (CheckP vars F St))) ∧ Below w.heap.size w w' := by
  have HFM := Lib.hid hF; have HSM := Lib.hid hS; clear hF hS
  have HB3 := Lib.hid (fun c (hc : c ∈ F) => Nat.le_trans (tot_mem hc) b3)
  have HB4 := Lib.hid (fun c (hc : c ∈ St) => Nat.le_trans (tot_mem hc) b4)
  go_enter Try.func7, Try.ntmps7
  go_upto_region 1 with (fail)
  have hbl : Below w.heap.size w (w.alloc (.cells #[.int .i64 vars, .slice FA F.length fc] 24)) := (Below.refl _ _).alloc (Nat.le_refl _) _
  have hsz : (w.alloc (.cells #[.int .i64 vars, .slice FA F.length fc] 24)).heap.size = w.heap.size + 1 := by simp
  have qf := BoxAt.new w [.int .i64 vars, .slice FA F.length fc] 24
  generalize w.alloc (.cells #[.int .i64 vars, .slice FA F.length fc] 24) = w1 at *
  generalize hz : w.heap.size = z at *
  have HZ := Lib.hid hz; clear hz
  have HBL := Lib.hid hbl; clear hbl
  have hs1 : z + 1 ≤ w1.heap.size := by omega
  clear hsz
  have p0 := qf 0 _ rfl
  have p1 := qf 1 _ rfl
  go_wp2_with fail
  refine (cnfValid_any vars FA fc F vf _ (HFM.out.keeps (Keeps.of_below (by rw [HZ.out]; exact HBL.out))) (by omega) (fun c hc => by have := HB3.out c hc; omega)).mono ?_
  rintro e w2 ⟨rfl, hb2⟩
  have HB2 := Lib.hid (HBL.out.trans (hb2.mono (by omega)))
  have hs2 := hb2.size
  replace qf := qf.keeps (Keeps.of_below hb2)
  clear hb2 p0 p1
  by_cases hcnf : CnfOk vars F
  · rw [tf_yes hcnf]
    obtain ⟨hv0, hv1, hlf⟩ := hcnf
    have HLF := Lib.hid hlf; clear hlf
    obtain ⟨V, rfl⟩ := Int.eq_ofNat_of_zero_le hv0
    by_cases c3 : St.length = 0
    · have HT := Lib.hid (tf_no (fun h : CheckP V F St => h.ne (List.eq_nil_of_length_eq_zero c3)))
      have hq : ((St.length : Int) == 0) = true := by simp [c3]
      clear c3
      go_wp2_with fail
      go_ret
      exact ⟨ret_bool HT.out.symm, by have := HB2.out; rwa [HZ.out]⟩
    · have hq : ((St.length : Int) == 0) = false := by rw [beq_eq_false_iff_ne]; omega
      have hpos : 0 < St.length := by omega
      obtain ⟨ll, LA, ld, lb, lo, hll, _, hSA, hlc, hlr⟩ := (HSM.out.keeps (Keeps.of_below (by rw [HZ.out]; exact HB2.out))).at_ (k := St.length - 1) (by omega)
      have HLAST : Hid (St.getLast? = some ll) := Lib.hid (by rw [List.getLast?_eq_getElem?, hll])
      have e1 : ((St.length : Int) - 1).toNat = St.length - 1 := by omega
      have e2 : (0 : Int) ≤ (St.length : Int) - 1 := by omega
      have e3 : (St.length : Int) - 1 < St.length := by omega
      clear hll hlr
      subst hSA
      by_cases c4 : 0 < ll.length
      · have HT := Lib.hid (tf_no (fun h : CheckP V F St => by
          have := h.last
          rw [HLAST.out] at this
          injection this with this
          subst this
          simp at c4))
        have c4' : ((ll.length : Int) != 0) = true := by simp; intro e; subst e; simp at c4
        go_wp2_with fail
        go_ret
        exact ⟨ret_bool HT.out.symm, by have := HB2.out; rwa [HZ.out]⟩
      · have HLAST2 : Hid (St.getLast? = some []) := Lib.hid (by rw [HLAST.out, List.eq_nil_of_length_eq_zero (l := ll) (by omega)])
        have c4' : ((ll.length : Int) != 0) = false := by simp; exact List.eq_nil_of_length_eq_zero (by omega)
        have p0 := qf 0 _ rfl
        have p1 := qf 1 _ rfl
        have HSRC := Lib.hid (src_vals (HFM.out.keeps (Keeps.of_below (by rw [HZ.out]; exact HB2.out))))
        go_upto_region 5 with (fail)
        have hgb := Arr.new w2 #[.int .i64 V, .slice none 0 0] 24
        have hbb := HB2.out.alloc (by omega) (.cells #[.int .i64 V, .slice none 0 0] 24)
        have HB3W := Lib.hid hbb; clear hbb
        replace qf := qf.keeps (Keeps.alloc w2 (.cells #[.int .i64 V, .slice none 0 0] 24))
        have hs3 : w2.heap.size + 1 ≤ (w2.alloc (.cells #[.int .i64 V, .slice none 0 0] 24)).heap.size := by simp
        have HSRC3 : Hid (Src (w2.alloc (.cells #[.int .i64 V, .slice none 0 0] 24)) 1 FA F.length vf) := Lib.hid ⟨HSRC.out.1, HSRC.out.2.1, fun hn => by
          obtain ⟨ad, e, hc⟩ := HSRC.out.2.2 hn
          exact ⟨ad, e, fun j u hu => Keeps.alloc _ _ _ _ (hc j u hu)⟩⟩
        generalize w2.alloc (.cells #[.int .i64 V, .slice none 0 0] 24) = w3 at *
        generalize hgq : w2.heap.size = gq at *
        have hzg : z + 1 ≤ gq := by omega
        have HGQ := Lib.hid hgq; clear hgq
        have hgb0 : w3.cell? ⟨gq, 0, none⟩ = some (.int .i64 V) := hgb.cell (k := 0) (by simp)
        have hgb1 : w3.cell? ⟨gq, 1, none⟩ = some (.slice none 0 0) := hgb.cell (k := 1) (by simp)
        replace p1 := qf 1 _ rfl
        have HQF := Lib.hid qf; clear qf
        have HGB := Lib.hid hgb; clear hgb
        clear p0
        go_wp2_with (at_builtin; refine wp_append rfl (.tmp 32) (.tmp 34) _ rfl elRowR (gq + 1) none 0 0 [] rfl (World.ownsRow_nil _ _ _ _) FA F.length fc vf rfl HSRC3.out (by omega) (by omega) ?_; intro A' c' w4 ho hk' hb'; rw [Nat.zero_add] at ho; rw [Nat.zero_add]; have hO := Lib.hid ho; have hK := Lib.hid (Only.mono (S' := fun _ => False) hk' (fun k _ c => by obtain ⟨a, e, _⟩ := c; cases e)); have g8 := HGB.out.only hK.out (fun c => c); have c8 := g8.cell (k := 1) (by simp); have f8 := g8.thaw 1; clear g8 ho hk' hb')
        have hRD : RD w (w4.setCell ⟨gq, 1, none⟩ (.slice A' F.length c')) z gq V FA fc F St vf vst 0 A' c' := by
          have hg8 := HGB.out.only hK.out (fun c => c)
          have os := (Only.refl (fun j => j = gq) w4).setCell (p := ⟨gq, 1, none⟩) (fun _ => rfl) (.slice A' F.length c')
          have hzz := HZ.out
          refine ⟨by rw [HZ.out]; exact (HB3W.out.trans (hK.out.below (fun k _ c => c.elim) (by omega))).trans (os.below (fun k _ e => by omega) (by have := hK.out.size; omega)), os.box (hK.out.box HQF.out (fun c => c)) (by omega), ?_, ?_, ⟨HZ.out, by omega, by have := hK.out.size; have := os.size; omega⟩⟩
          · exact hg8.set (fun j hj hne => by
              have hj' : j < 2 := hj
              obtain rfl : j = 0 := by omega
              rfl) rfl
          · have := own_only hO.out os (fun k c e => by have := own_base hO.out k c; omega)
            simpa using this
        have HRD := Lib.hid hRD
        clear hRD c8 f8 hgb0 hgb1 p1 hO hK HGB HQF HSRC3 HSRC hs3 hs2 hs1 hq e1 e2 e3 c4' hlc
        generalize w4.setCell ⟨gq, 1, none⟩ (.slice A' F.length c') = w5 at *
        go_wp2_with fail
        go_loopw [7] (fun ix wi => ∃ k : Nat, k ≤ St.length ∧ ix = .int .i64 k ∧ Hid ((∃ (A : Option Addr) (c : Nat), RD w wi z gq V FA fc F St vf vst k A c) ∧ ∀ (i : Nat) (c : List Int), i < k → St[i]? = some c → LitsOk V c ∧ FollowsP (F ++ St.take i) c)) (fun ix _ => St.length - (intOf ix).toNat)
        case atStart => exact ⟨0, by omega, rfl, Lib.hid ⟨⟨_, _, HRD.out⟩, fun i c hi => by omega⟩⟩
        case round =>
          clear HRD
          obtain ⟨k, hk, rfl, HM⟩ := hrel
          obtain ⟨⟨A, c, hR⟩, hls⟩ := HM.out
          have HR := Lib.hid hR; have HLS := Lib.hid hls
          clear hR hls HM
          by_cases hlt : k < St.length
          · have hki : (k : Int) < St.length := by omega
            obtain ⟨l, A2, d, ba, oa, hl1, hl2, hSA, x0, hclw⟩ := HSM.out.at_ hlt
            obtain ⟨rfl, rfl⟩ : lb = ba ∧ lo = oa := by simpa using hSA
            clear hSA
            have hkp := Keeps.of_below HR.out.bel
            replace x0 := hkp _ _ x0
            have p0 := HR.out.fb 0 _ rfl
            have HCW := Lib.hid hclw
            have HL1 := Lib.hid hl1; have HL2 := Lib.hid hl2
            have hlen : l.length ≤ 20000000 := HB4.out l (List.mem_of_getElem? hl1)
            have hck : (F ++ St.take k).length = F.length + k := by simp; omega
            have HCK := Lib.hid hck
            have HLC : Hid (∀ q, q ∈ F ++ St.take k → LitsOk V q ∧ q.length ≤ 1000000000) := Lib.hid (fun q hq => by
              rcases List.mem_append.1 hq with hq | hq
              · exact ⟨HLF.out q hq, by have := HB3.out q hq; omega⟩
              · obtain ⟨j, hj, e⟩ := List.mem_iff_getElem.1 hq
                have hj' : j < k := by simp at hj; omega
                have hjs : St[j]? = some q := by rw [← e, List.getElem_take, List.getElem?_eq_getElem]
                exact ⟨(HLS.out j q hj' hjs).1, by have := HB4.out q (List.mem_of_getElem? hjs); omega⟩)
            clear hclw hkp hl1 hl2 hck
            obtain ⟨r, hr⟩ : ∃ r : Bool, r = tf (LitsOk V l) := ⟨_, rfl⟩
            have HC : Hid (∀ W : World, ClRow W A2 l → Calls Try.prog 16 #[.slice A2 l.length d, .int .i64 V] W fun e w' => e = .returned (.bool r) ∧ w' = W) := Lib.hid (fun W h => by rw [hr]; exact fmd_any A2 d l V W h (by omega) hv0 hv1)
            have HRR := Lib.hid hr; clear hr
            have HCWr := Lib.hid (HCW.out.keeps (Keeps.of_below HR.out.bel))
            go_wp2_with fail
            go_quiet ((go_at_call 16; exact Calls.quiet_of_same (HC.out _ HCWr.out)))
            have HD := Lib.hid (HR.out.call (drawn_b wr nq))
            replace x0 := Keeps.of_below (drawn_b wr nq) _ _ x0
            clear p0 HR HC HCWr
            generalize wr.drewN nq = wd at *
            cases r with
            | false =>
              have hlo := tf_eq_false.1 HRR.out.symm
              have HT := Lib.hid (tf_no (fun h : CheckP V F St => hlo (h.s k l HL1.out).1))
              clear hlo
              go_wp2_with fail
              go_ret
              exact ⟨ret_bool HT.out.symm, HD.out.bel⟩
            | true =>
              have HLO := Lib.hid (tf_eq_true.1 HRR.out.symm)
              have g0 : wd.cell? ⟨gq, 0, none⟩ = some (.int .i64 V) := HD.out.gb.cell (k := 0) (by omega)
              have g1 : wd.cell? ⟨gq, 1, none⟩ = some (.slice A (F.length + k) c) := HD.out.gb.cell (k := 1) (by omega)
              have HCA : Hid (∀ W : World, MatC W A (F ++ St.take k) (vf ++ vst.take k) → ClRow W A2 l → Calls Try.prog 17 #[.agg #[.int .i64 V, .slice A (F.length + k) c], .slice A2 l.length d] W fun e w' => e = .returned (.bool (tf (FollowsP (F ++ St.take k) l))) ∧ Below W.heap.size W w') := Lib.hid (fun W h1 h2 => by
                have C := follR_any V A A2 c d (F ++ St.take k) (vf ++ vst.take k) l W h1 h2 (by omega) (fun q hq => (HLC.out q hq).1) HLO.out (by rw [HCK.out]; omega) (fun q hq => (HLC.out q hq).2) (by omega)
                rwa [HCK.out] at C)
              go_upto_region 12 with (fail)
              refine wp_region_z (fun w' => w'.cell? ⟨gq, 0, none⟩ = some (.int .i64 V) ∧ w'.cell? ⟨gq, 1, none⟩ = some (.slice A (F.length + k) c) ∧ w'.cell? ⟨lb, lo + k, none⟩ = some (.slice A2 l.length d)) [0, 1, 2, 3, 4] [5, 6] (by kernel_rfl) (by kernel_rfl) (by kernel_rfl) (by rfl) (fun _ _ _ _ e h => ⟨e.symm.trans h.1, h.2⟩) ⟨g0, g1, x0⟩ ?_
              iterate 5
                refine Heads.step (v := ?_) rfl (by rfl) (fun W hW => ?_) ?_
                rotate_left
                · (obtain ⟨s0, s1, s2⟩ := hW; go_simp; try with_reducible rfl)
              refine AnyZ.one (i := 5) (by kernel_rfl) rfl (fun K hK => ?_)
              go_simp
              refine (HCA.out wd.drew ((HD.out.mat HFM.out HSM.out (by omega)).keeps (Keeps.drew wd)) ((HCW.out.keeps (Keeps.of_below HD.out.bel)).keeps (Keeps.drew wd))).mono ?_
              rintro e we ⟨rfl, hbe⟩
              have hbe2 : Below wd.heap.size wd we := ⟨hbe.os, hbe.tape, hbe.output, hbe.size, hbe.block⟩
              have HE := Lib.hid (HD.out.call hbe2)
              replace x0 := Keeps.of_below hbe2 _ _ x0
              refine hK _ _ (fun h => by cases h) ?_
              clear hK hbe hbe2 g0 g1 HCA
              refine AnyZ.one (i := 6) (by kernel_rfl) rfl (fun K hK => ?_)
              go_simp
              refine hK _ _ (fun h => by cases h) (AnyZ.done (by kernel_rfl) ?_)
              clear hK HD
              by_cases hfo : FollowsP (F ++ St.take k) l
              · rw [tf_yes hfo]
                have HFO := Lib.hid hfo; clear hfo
                have g1 : we.cell? ⟨gq, 1, none⟩ = some (.slice A (F.length + k) c) := HE.out.gb.cell (k := 1) (by omega)
                have hsz := HE.out.lt.2.2
                go_upto_region 15 with (fail)
                refine wp_region_z (fun w' => w'.cell? ⟨gq, 1, none⟩ = some (.slice A (F.length + k) c) ∧ w'.cell? ⟨lb, lo + k, none⟩ = some (.slice A2 l.length d)) [0, 1, 2, 3, 4, 5] [7, 8, 9] (by kernel_rfl) (by kernel_rfl) (by kernel_rfl) (by rfl) (fun _ _ _ _ e h => ⟨e.symm.trans h.1, h.2⟩) ⟨g1, x0⟩ ?_
                iterate 6
                  refine Heads.step (v := ?_) rfl (by rfl) (fun W hW => ?_) ?_
                  rotate_left
                  · (obtain ⟨s0, s1⟩ := hW; go_simp; try with_reducible rfl)
                refine AnyZ.one (i := 6) (by kernel_rfl) rfl (fun K hK => ?_)
                go_simp
                refine hK _ _ (fun _ => ⟨Keeps.alloc _ _ _ _ g1, Keeps.alloc _ _ _ _ x0⟩) ?_
                clear hK
                refine AnyZ.one (i := 7) (by kernel_rfl) rfl (fun K hK => ?_)
                refine step_append (by rfl) (.tmp 61) (.tmp 66) _ (by rfl) elRowR (gq + 1) A (F.length + k) c _ (by rfl) ((World.ownsRow.alloc HE.out.row _).drew) _ 1 1 [.slice A2 l.length d] (by rfl) (Src.drew (src_new we _ _ rfl)) (by omega) (by simp; omega) ?_
                intro A3 c3 w8 ho hk' hb'
                have hkw : Only (blockOf A) (we.alloc (.cells #[.slice A2 l.length d] 26)) w8 := ⟨hk'.os, hk'.tape, hk'.output, hk'.size, hk'.block⟩
                have HE2 := HE.out.call ((Below.refl _ _).alloc (Nat.le_refl _) (.cells #[.slice A2 l.length d] 26))
                have b8 := HE2.gb.only hkw (fun c => by have := own_base HE2.row _ c; omega)
                have c8 : w8.cell? ⟨gq, 1, none⟩ = some (.slice A (F.length + k) c) := b8.cell (k := 1) (by omega)
                have f8 := b8.thaw 1
                have HN := Lib.hid (HE2.push HL2.out hkw ho)
                refine hK _ _ (fun h => by cases h) ?_
                clear hK ho hk' hb' hkw HE2 b8
                refine AnyZ.one (i := 8) (by kernel_rfl) rfl (fun K hK => ?_)
                go_simp
                refine hK _ _ (fun h => by cases h) ?_
                clear hK
                refine AnyZ.one (i := 9) (by kernel_rfl) rfl (fun K hK => ?_)
                go_simp
                refine hK _ _ (fun h => by cases h) (AnyZ.done (by kernel_rfl) ?_)
                clear hK
                have HN2 : Hid ((∃ (A : Option Addr) (c : Nat), RD w (w8.setCell ⟨gq, 1, none⟩ (.slice A3 (F.length + k + 1) c3)) z gq V FA fc F St vf vst (k + 1) A c) ∧ ∀ (i : Nat) (c : List Int), i < k + 1 → St[i]? = some c → LitsOk V c ∧ FollowsP (F ++ St.take i) c) := Lib.hid ⟨⟨_, _, HN.out⟩, fun j q hj hq => by
                  by_cases e : j < k
                  · exact HLS.out j q e hq
                  · obtain rfl : j = k := by omega
                    rw [HL1.out] at hq
                    injection hq with hq
                    subst hq
                    exact ⟨HLO.out, HFO.out⟩⟩
                clear c8 f8 g1 x0
                go_wp2_with fail
                go_roundw
                case rel => exact ⟨k + 1, by omega, by go_num, HN2⟩
                case measure => simp [intOf]; omega
              · rw [tf_no hfo]
                have HT := Lib.hid (tf_no (fun h : CheckP V F St => hfo (h.s k l HL1.out).2))
                clear hfo
                go_wp2_with fail
                go_ret
                exact ⟨ret_bool HT.out.symm, HE.out.bel⟩
          · obtain rfl : k = St.length := by omega
            have HT := Lib.hid (tf_yes (⟨hv0, hv1, fun e => by subst e; simp at hpos, HLAST2.out, HLF.out, fun i q hq => HLS.out i q (List.getElem?_eq_some_iff.1 hq).1 hq⟩ : CheckP V F St))
            go_wp2_with fail
            go_ret
            exact ⟨ret_bool HT.out.symm, HR.out.bel⟩
  · rw [tf_no hcnf]
    have HT := Lib.hid (tf_no (fun h : CheckP vars F St => hcnf ⟨h.v0, h.v1, h.f⟩))
    clear hcnf
    go_wp2_with fail
    go_ret
    exact ⟨ret_bool HT.out.symm, by have := HB2.out; rwa [HZ.out]⟩
end Go.Proofs.Ytkanekacjefcbaa
