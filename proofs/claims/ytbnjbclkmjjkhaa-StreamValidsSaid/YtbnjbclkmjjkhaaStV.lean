/- StreamValids, its walk: whatever configuration comes in, the law returns true: stream.Valid tells what the reference's ConfigValid tells. Condition: the argument lies in memory and is within the form's reach. -/
import Derived.Test.YtbnjbclkmjjkhaaCfT
import Derived.Test.YtbnjbclkmjjkhaaFdW
namespace Go.Proofs.Ytbnjbclkmjjkhaa
open Go.RowKit

set_option maxHeartbeats 4000000 in
set_option maxRecDepth 100000 in
theorem streamValids_walk (c : Cf) (w : World) (hc : c.At w) (hf : c.Fits) :
    Calls Try.prog 3 #[.agg #[.int .i64 (c.sh 0), .int .i64 (c.sh 1), .int .i64 (c.sh 2), .int .i64 (c.sh 3), .int .i64 (c.sh 4), .slice c.AC c.nc c.cC, .slice c.AR c.nr c.cR, .slice c.AO c.no c.cO]] w fun e w' => e = .returned (.bool true) ∧ Below w.heap.size w w' := by
  obtain ⟨AC, hAC⟩ : ∃ A, c.AC = A := ⟨_, rfl⟩
  obtain ⟨AR, hAR⟩ : ∃ A, c.AR = A := ⟨_, rfl⟩
  obtain ⟨AO, hAO⟩ : ∃ A, c.AO = A := ⟨_, rfl⟩
  rw [hAC, hAR, hAO]
  have HC := Lib.hid hc; have HF := Lib.hid hf
  have EC := Lib.hid hAC; have ER := Lib.hid hAR; have EO := Lib.hid hAO
  clear hc hf hAC hAR hAO
  go_enter Try.func3, Try.ntmps3
  go_wp2_with fail
  refine (plain_any _).mono ?_
  rintro e w1 ⟨z, rfl, hs, hb1⟩
  have HB1 := Lib.hid (Below.alloc_then hb1)
  have hbox := (BoxAt.new w [.int .i64 (c.sh 0), .int .i64 (c.sh 1), .int .i64 (c.sh 2), .int .i64 (c.sh 3), .int .i64 (c.sh 4), .slice AC c.nc c.cC, .slice AR c.nr c.cR, .slice AO c.no c.cO] 28).keeps (Keeps.of_below hb1)
  have hs1 := hb1.size
  simp at hs1
  clear hb1
  have HSM := Lib.hid hs
  clear hs
  go_wp2_with fail
  refine (valid_any (plainC z) (some ⟨z + 1, 0, none⟩) (some ⟨z + 2, 0, none⟩) (some ⟨z + 3, 0, none⟩) _ HSM.out (plain_fits z) rfl rfl rfl).mono ?_
  rintro e w2 ⟨rfl, hb2⟩
  rw [tf_yes (plain_ok z)]
  have HB2 := Lib.hid (Below.then_call HB1.out hb2 (by omega))
  have hbox2 := hbox.keeps (Keeps.of_below hb2)
  have hs2 := hb2.size
  clear hb2 hbox
  have q0 := hbox2 0 _ rfl; have q1 := hbox2 1 _ rfl; have q2 := hbox2 2 _ rfl; have q3 := hbox2 3 _ rfl; have q4 := hbox2 4 _ rfl; have q5 := hbox2 5 _ rfl; have q6 := hbox2 6 _ rfl; have q7 := hbox2 7 _ rfl
  go_wp2_with fail
  refine (valid_any c AC AR AO _ (HC.out.keeps (Keeps.of_below HB2.out)) HF.out EC.out ER.out EO.out).mono ?_
  rintro e w3 ⟨rfl, hb3⟩
  have HB3 := Lib.hid (Below.then_call HB2.out hb3 (by omega))
  have hbox3 := hbox2.keeps (Keeps.of_below hb3)
  have hs3 := hb3.size
  clear hb3 hbox2 q0 q1 q2 q3 q4 q5 q6 q7
  have q0 := hbox3 0 _ rfl; have q1 := hbox3 1 _ rfl; have q2 := hbox3 2 _ rfl; have q3 := hbox3 3 _ rfl; have q4 := hbox3 4 _ rfl; have q5 := hbox3 5 _ rfl; have q6 := hbox3 6 _ rfl; have q7 := hbox3 7 _ rfl
  generalize hv : tf c.Ok = v
  have HV := Lib.hid hv
  clear hv hbox3
  go_wp2_with fail
  refine (refConfig_any c AC AR AO _ (HC.out.keeps (Keeps.of_below HB3.out)) HF.out EC.out ER.out EO.out).mono ?_
  rintro e w4 ⟨rfl, hb4⟩
  rw [HV.out]
  have HB4 := Lib.hid (Below.then_call HB3.out hb4 (by omega))
  clear hb4 q0 q1 q2 q3 q4 q5 q6 q7
  go_wp2_with fail
  go_ret
  exact ⟨by simp, HB4.out⟩
end Go.Proofs.Ytbnjbclkmjjkhaa
