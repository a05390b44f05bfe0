/- StreamEncodes, its walk: whatever configuration comes in, the law returns true: stream.Encode writes what the reference's Encode writes. Condition: the argument lies in memory and is within the form's reach. -/
import Derived.Test.YtbnjbclkmjjkhaaCfT
import Derived.Test.YtbnjbclkmjjkhaaEnR
namespace Go.Proofs.Ytbnjbclkmjjkhaa
open Go.RowKit

theorem be4_ne (c : Cf) : c.text ≠ [] := by unfold Cf.text be4; simp
theorem text_size (c : Cf) (h : c.Ok) : c.text.length ≤ 1000000000 := by
  have h1 := Cf.part_len h (List.prefix_refl c.flds)
  have h2 := c.enc_len h.d.sh c.flds
  have h3 := Cf.flds_len h.d
  unfold Cf.text Cf.encB
  rw [List.length_append, packB_len]
  unfold nby
  rw [List.length_append, Cf.shB_len]
  show _ + 4 ≤ _
  omega
theorem text_plain (z z' : Nat) : (plainC z).text = (plainC z').text := rfl

set_option maxHeartbeats 8000000 in
set_option maxRecDepth 100000 in
theorem streamEncodes_walk (c : Cf) (w : World) (hc : c.At w) (hf : c.Fits) :
    Calls Try.prog 4 #[.agg #[.int .i64 (c.sh 0), .int .i64 (c.sh 1), .int .i64 (c.sh 2), .int .i64 (c.sh 3), .int .i64 (c.sh 4), .slice c.AC c.nc c.cC, .slice c.AR c.nr c.cR, .slice c.AO c.no c.cO]] w fun e w' => e = .returned (.bool true) ∧ Below w.heap.size w w' := by
  obtain ⟨AC, hAC⟩ : ∃ A, c.AC = A := ⟨_, rfl⟩
  obtain ⟨AR, hAR⟩ : ∃ A, c.AR = A := ⟨_, rfl⟩
  obtain ⟨AO, hAO⟩ : ∃ A, c.AO = A := ⟨_, rfl⟩
  rw [hAC, hAR, hAO]
  have HC := Lib.hid hc; have HF := Lib.hid hf
  have EC := Lib.hid hAC; have ER := Lib.hid hAR; have EO := Lib.hid hAO
  clear hc hf hAC hAR hAO
  go_enter Try.func4, Try.ntmps4
  go_wp2_with fail
  refine (plain_any _).mono ?_
  rintro e w1 ⟨z, rfl, hs, hb1⟩
  have HB1 := Lib.hid (Below.alloc_then hb1)
  have hq := (BoxAt.new w [.int .i64 (c.sh 0), .int .i64 (c.sh 1), .int .i64 (c.sh 2), .int .i64 (c.sh 3), .int .i64 (c.sh 4), .slice AC c.nc c.cC, .slice AR c.nr c.cR, .slice AO c.no c.cO] 28).keeps (Keeps.of_below hb1)
  have hs1 := hb1.size
  simp at hs1
  have HSM := Lib.hid hs
  clear hb1 hs
  go_wp2_with fail
  refine (encode_any (plainC z) (some ⟨z + 1, 0, none⟩) (some ⟨z + 2, 0, none⟩) (some ⟨z + 3, 0, none⟩) _ HSM.out (plain_fits z) (plain_ok z) rfl rfl rfl).mono ?_
  rintro e w2 ⟨⟨AX, cX, rfl, hX⟩, hb2⟩
  have hne := be4_ne (plainC z)
  obtain ⟨L, hL⟩ : ∃ L, (plainC z).text = L := ⟨_, rfl⟩
  rw [hL] at hne hX ⊢
  have HL := Lib.hid hL; have HNE := Lib.hid hne; have HX := Lib.hid hX
  have HB2 := Lib.hid (Below.then_call HB1.out hb2 (by omega))
  replace hq := hq.keeps (Keeps.of_below hb2)
  have hs2 := hb2.size
  clear hb2 hX hL hne
  have q0 := hq 0 _ rfl; have q1 := hq 1 _ rfl; have q2 := hq 2 _ rfl; have q3 := hq 3 _ rfl; have q4 := hq 4 _ rfl; have q5 := hq 5 _ rfl; have q6 := hq 6 _ rfl; have q7 := hq 7 _ rfl
  go_wp2_with fail
  refine (refConfig_any c AC AR AO _ (HC.out.keeps (Keeps.of_below HB2.out)) HF.out EC.out ER.out EO.out).mono ?_
  rintro e w3 ⟨rfl, hb3⟩
  have HB3 := Lib.hid (Below.then_call HB2.out hb3 (by omega))
  have HX3 := Lib.hid (HX.out.below hb3)
  replace hq := hq.keeps (Keeps.of_below hb3)
  have hs3 := hb3.size
  clear hb3 q0 q1 q2 q3 q4 q5 q6 q7
  generalize hv : tf c.Ok = v
  have HV := Lib.hid hv
  clear hv
  go_upto_region 3 with (fail)
  have hcv := conv_string (w := w3.drew) (OwnB.below HX3.out ((Below.refl _ _).drew)) HNE.out
  refine wp_region_z (fun w' => (convert 31 9 (.slice AX L.length cX)).run Try.prog w' = .ok (.string (str L)) w') [0, 1] [] (by kernel_rfl) (by kernel_rfl) (by kernel_rfl) (by rfl) (fun _ _ _ _ e h => ⟨e.symm.trans h.1, h.2⟩) hcv ?_
  iterate 2
    refine Heads.step (v := ?_) rfl (by first | (go_simp; done) | rfl) (fun W hW => ?_) ?_
    rotate_left
    · (have t0 := hW; go_simp; try with_reducible rfl)
  clear hcv
  refine AnyZ.one (i := 2) (by kernel_rfl) rfl (fun K hK => ?_)
  go_simp
  refine (plain_any _).mono ?_
  rintro e w4 ⟨z', rfl, hs', hb4⟩
  have HSM' := Lib.hid hs'
  have hb4' : Below w3.heap.size w3 w4 := ⟨hb4.os, hb4.tape, hb4.output, hb4.size, hb4.block⟩
  have HB4 := Lib.hid (Below.then_call HB3.out hb4' (by omega))
  have HX4 := Lib.hid (HX3.out.below hb4')
  have hcv := conv_string HX4.out HNE.out
  replace hq := hq.keeps (Keeps.of_below hb4')
  have hs4 := hb4'.size
  clear hb4 hb4' hs'
  refine hK _ _ (fun _ => hcv) ?_
  clear hK
  clear hcv
  refine AnyZ.one (i := 3) (by kernel_rfl) rfl (fun K hK => ?_)
  go_simp
  refine (refEncode_any (plainC z') (some ⟨z' + 1, 0, none⟩) (some ⟨z' + 2, 0, none⟩) (some ⟨z' + 3, 0, none⟩) _ HSM'.out (plain_fits z') (plain_ok z') rfl rfl rfl).mono ?_
  rintro e w5 ⟨⟨AY, cY, rfl, hY⟩, hb5⟩
  rw [show (plainC z').text = L from (text_plain z' z).trans HL.out] at hY ⊢
  have HB5 := Lib.hid (Below.then_call HB4.out hb5 (by omega))
  have HX5 := Lib.hid (HX4.out.below hb5)
  have hcv := conv_string HX5.out HNE.out
  have hcy := conv_string hY HNE.out
  replace hq := hq.keeps (Keeps.of_below hb5)
  have hs5 := hb5.size
  clear hb5 hY
  refine hK _ _ (fun _ => hcv) ?_
  clear hK
  refine AnyZ.one (i := 4) (by kernel_rfl) rfl (fun K hK => ?_)
  go_simp
  refine hK _ _ (fun _ => hcv) ?_
  clear hK
  refine AnyZ.mid [5] [] 0 rfl (by kernel_rfl) (by kernel_rfl) (by kernel_rfl) (fun _ _ _ _ e h => ⟨e.symm.trans h.1, h.2⟩) hcv ?_
  iterate 1
    refine Heads.step (v := ?_) rfl (by first | (go_simp; done) | rfl) (fun W hW => ?_) ?_
    rotate_left
    · (have t0 := hW; go_simp; try with_reducible rfl)
  refine AnyZ.done (by kernel_rfl) ?_
  go_simp
  clear hcv hcy
  cases v
  case false =>
    go_wp2_with fail
    go_ret
    exact ⟨rfl, HB5.out⟩
  have HOK : Hid c.Ok := Lib.hid (tf_eq_true.1 HV.out)
  have q0 := hq 0 _ rfl; have q1 := hq 1 _ rfl; have q2 := hq 2 _ rfl; have q3 := hq 3 _ rfl; have q4 := hq 4 _ rfl; have q5 := hq 5 _ rfl; have q6 := hq 6 _ rfl; have q7 := hq 7 _ rfl
  go_wp2_with fail
  refine (encode_any c AC AR AO _ (HC.out.keeps (Keeps.of_below HB5.out)) HF.out HOK.out EC.out ER.out EO.out).mono ?_
  rintro e w6 ⟨⟨AX2, cX2, rfl, hX⟩, hb6⟩
  have hne := be4_ne c
  obtain ⟨M, hM⟩ : ∃ M, c.text = M := ⟨_, rfl⟩
  rw [hM] at hne hX ⊢
  have HM := Lib.hid hM; have HNM := Lib.hid hne; have HX6 := Lib.hid hX
  have HB6 := Lib.hid (Below.then_call HB5.out hb6 (by omega))
  replace hq := hq.keeps (Keeps.of_below hb6)
  have hs6 := hb6.size
  clear hb6 hX hM hne q0 q1 q2 q3 q4 q5 q6 q7
  go_upto_region 8 with (fail)
  have q0 := hq 0 _ rfl; have q1 := hq 1 _ rfl; have q2 := hq 2 _ rfl; have q3 := hq 3 _ rfl; have q4 := hq 4 _ rfl; have q5 := hq 5 _ rfl; have q6 := hq 6 _ rfl; have q7 := hq 7 _ rfl
  have hcv := conv_string (w := w6.drew) (OwnB.below HX6.out ((Below.refl _ _).drew)) HNM.out
  refine wp_region_z (fun w' => (convert 31 9 (.slice AX2 M.length cX2)).run Try.prog w' = .ok (.string (str M)) w' ∧ w'.cell? ⟨w.heap.size, 0, none⟩ = some (.int .i64 (c.sh 0)) ∧ w'.cell? ⟨w.heap.size, 1, none⟩ = some (.int .i64 (c.sh 1)) ∧ w'.cell? ⟨w.heap.size, 2, none⟩ = some (.int .i64 (c.sh 2)) ∧ w'.cell? ⟨w.heap.size, 3, none⟩ = some (.int .i64 (c.sh 3)) ∧ w'.cell? ⟨w.heap.size, 4, none⟩ = some (.int .i64 (c.sh 4)) ∧ w'.cell? ⟨w.heap.size, 5, none⟩ = some (.slice AC c.nc c.cC) ∧ w'.cell? ⟨w.heap.size, 6, none⟩ = some (.slice AR c.nr c.cR) ∧ w'.cell? ⟨w.heap.size, 7, none⟩ = some (.slice AO c.no c.cO)) [0, 1, 2] [] (by kernel_rfl) (by kernel_rfl) (by kernel_rfl) (by rfl) (fun _ _ _ _ e h => ⟨e.symm.trans h.1, h.2⟩) ⟨hcv, q0, q1, q2, q3, q4, q5, q6, q7⟩ ?_
  iterate 3
    refine Heads.step (v := ?_) rfl (by first | (go_simp; done) | rfl) (fun W hW => ?_) ?_
    rotate_left
    · (obtain ⟨t0, t1, t2, t3, t4, t5, t6, t7, t8⟩ := hW; go_simp; try with_reducible rfl)
  clear hcv
  refine AnyZ.one (i := 3) (by kernel_rfl) rfl (fun K hK => ?_)
  go_simp
  refine (refEncode_any c AC AR AO _ (HC.out.keeps (Keeps.of_below HB6.out.drew)) HF.out HOK.out EC.out ER.out EO.out).mono ?_
  rintro e w7 ⟨⟨AY2, cY2, rfl, hY⟩, hb7⟩
  rw [HM.out] at hY ⊢
  have hb7' : Below w6.heap.size w6 w7 := ⟨hb7.os, hb7.tape, hb7.output, hb7.size, hb7.block⟩
  have HB7 := Lib.hid (Below.then_call HB6.out hb7' (by omega))
  have HX7 := Lib.hid (HX6.out.below hb7')
  have hcv := conv_string HX7.out HNM.out
  have hcy := conv_string hY HNM.out
  replace hq := hq.keeps (Keeps.of_below hb7')
  clear hb7 hb7' hY q0 q1 q2 q3 q4 q5 q6 q7
  have q0 := hq 0 _ rfl; have q1 := hq 1 _ rfl; have q2 := hq 2 _ rfl; have q3 := hq 3 _ rfl; have q4 := hq 4 _ rfl; have q5 := hq 5 _ rfl; have q6 := hq 6 _ rfl; have q7 := hq 7 _ rfl
  refine hK _ _ (fun _ => ⟨hcv, q0, q1, q2, q3, q4, q5, q6, q7⟩) ?_
  clear hK
  refine AnyZ.one (i := 4) (by kernel_rfl) rfl (fun K hK => ?_)
  go_simp
  refine hK _ _ (fun _ => ⟨hcv, q0, q1, q2, q3, q4, q5, q6, q7⟩) ?_
  clear hK
  refine AnyZ.mid [5, 6] [] 0 rfl (by kernel_rfl) (by kernel_rfl) (by kernel_rfl) (fun _ _ _ _ e h => ⟨e.symm.trans h.1, h.2⟩) ⟨hcv, q0, q1, q2, q3, q4, q5, q6, q7⟩ ?_
  iterate 2
    refine Heads.step (v := ?_) rfl (by first | (go_simp; done) | rfl) (fun W hW => ?_) ?_
    rotate_left
    · (obtain ⟨t0, t1, t2, t3, t4, t5, t6, t7, t8⟩ := hW; go_simp; try with_reducible rfl)
  refine AnyZ.done (by kernel_rfl) ?_
  go_simp
  clear hcv hcy q0 q1 q2 q3 q4 q5 q6 q7 hq
  go_wp2_with fail
  go_ret
  exact ⟨rfl, HB7.out⟩
end Go.Proofs.Ytbnjbclkmjjkhaa
