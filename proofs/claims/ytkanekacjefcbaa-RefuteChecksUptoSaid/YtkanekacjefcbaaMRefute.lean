/- RefuteChecks: whatever comes in (of bulk at most what the given text says), the law returns true and each argument reads as it did. No other condition. -/
import Derived.Test.YtkanekacjefcbaaRfX
import Derived.ShutString
import Derived.ChangeOld
import Derived.JoinedCond
import Derived.Deep.CondSized
namespace Go.Proofs.Ytkanekacjefcbaa.refuteChecks
open Go.ChangeShapes Go.WideShapes Go.ChangeAt Go.RowKit
set_option linter.unusedVariables false

theorem own : ownKnob Try.prog.godebug = none := by kernel_rfl
theorem laidOut : laidOutB Try.prog = true := by kernel_rfl

set_option maxRecDepth 100000 in
theorem lifted (os : Os) (started : os.Started) (H : Type) (enc : TypeId × Value → H) (FF : Stop.Interp) :
    ReturnsInHanded {} Try.checked os 3 .any ((Rows.OpenSpec.upto Rows.refuteChecksSpec).pre6 enc Try.prog Try.f3 Rows.refuteChecksUptoRow.domain false) (((Rows.OpenSpec.upto Rows.refuteChecksSpec).at FF).post enc Try.prog Try.f3 false true false false) := by
  refine returnsInHanded_of_cond_sized (C := Try.checked) (s := Rows.OpenSpec.upto Rows.refuteChecksSpec) (k := Rows.uptoSmall) rfl own started (by kernel_rfl) Try.func3
    (OpenSpec.witness (enc := enc) (C := Try.checked) (s := Rows.OpenSpec.upto Rows.refuteChecksSpec) (k := Rows.uptoSmall) rfl false ⟨#[], #[.agg #[.int .i64 0, .slice none 0 0], .slice none 0 0], []⟩ 8 (by kernel_rfl) (by kernel_rfl) (by kernel_rfl)
      (x := ([.agg [.lit (.int .i64 0), .nil], .nil], [], [])) (by kernel_rfl) rfl (by kernel_rfl)) ?_
  intro W base args ds gs before hval0 hW hcnd hk hsz _
  have hval : ∀ (j : Nat) t v, Try.f3.params[j]? = some t → args[j]? = some v → Value.okWide Try.prog W .any base t v := hval0
  have hW' := hW
  obtain ⟨p, q, hA0, hV, rfl, hfz, hnd⟩ := hW
  have hA : DataW.TrodAll enc Try.prog W 0 (fun _ => true) true Try.f3.params.toList args.toList ds p := hA0
  rw [Try.params3] at hA hval hsz
  obtain ⟨v0, vs0, d0, ds0, p0, q0, hargs, rfl, rfl, h0, r0⟩ := trodAll_cons hA
  obtain ⟨v1, vs1, d1, ds1, p1, q1, rfl, rfl, rfl, h1, r1⟩ := trodAll_cons r0
  obtain ⟨rfl, rfl, rfl⟩ := trodAll_nil r1
  obtain rfl : args = #[v0, v1] := by cases args; simp_all
  obtain ⟨rfl, rfl⟩ := trodVars_none hV
  have hbk := of_decide_eq_true hk
  simp only [List.cons_append, List.nil_append, Rows.uptoBulkAll] at hbk
  have k0 := h0
  have lt0 : ∀ x ∈ p0, x.block < W.heap.size := by obtain ⟨m, hm⟩ := k0; exact DataW.trod_lt m _ _ _ hm
  have good0 : Good 1048576 enc Try.prog W 24 v0.cells.toList := by
    obtain ⟨fuel, hf⟩ := h0
    exact ⟨fuel, d0, p0, hf, fun x hx => by simpa using List.all_eq_true.1 hsz x (DataW.weights_mem_each (j := 0) rfl rfl x hx), by omega⟩
  have k1 := h1
  have lt1 : ∀ x ∈ p1, x.block < W.heap.size := by obtain ⟨m, hm⟩ := k1; exact DataW.trod_lt m _ _ _ hm
  have good1 : Good 1048576 enc Try.prog W 22 v1.cells.toList := by
    obtain ⟨fuel, hf⟩ := h1
    exact ⟨fuel, d1, p1, hf, fun x hx => by simpa using List.all_eq_true.1 hsz x (DataW.weights_mem_each (j := 1) rfl rfl x hx), by omega⟩
  obtain ⟨cs0, rfl, _⟩ := okWide_struct Try.underlying24 (hval 0 _ v0 rfl rfl)
  obtain ⟨vars0, FA0, fc0, F0, vf0, hcs0, hmat0, hlen0, htot0⟩ := open_formula good0
  obtain rfl : cs0 = #[.int .i64 vars0, .slice FA0 F0.length fc0] := by
    cases cs0; simpa [Value.cells] using hcs0
  obtain ⟨aa1, len1, cap1, rfl⟩ := okWide_slice Try.underlying22 (hval 1 _ v1 rfl rfl)
  obtain ⟨SA1, sc1, St1, vst1, hcs1, hmat1, hlen1, htot1⟩ := open_clauses good1
  obtain ⟨rfl, rfl, rfl⟩ : aa1 = SA1 ∧ len1 = St1.length ∧ cap1 = sc1 := by simpa [Value.cells] using hcs1
  clear hA0 hval0
  refine (refuteChecks_walk vars0 FA0 fc0 F0 vf0 aa1 cap1 St1 vst1 W hmat0 hlen0 htot0 hmat1 hlen1 htot1).mono fun e W' ⟨he, bel⟩ => ?_
  subst he
  exact ⟨_, rfl, _, _, _, [], _, [], hW', trodAll_mk1 (shut_bool Try.underlying4 _), (trodAll_cons_mk (Below.trod laidOut (by kernel_rfl) (of_decide_eq_true (by kernel_rfl)) k0 bel lt0) (trodAll_cons_mk (Below.trod laidOut (by kernel_rfl) (of_decide_eq_true (by kernel_rfl)) k1 bel lt1) trodAll_mk0)), rfl, bel.frame _, fun h => by cases h⟩

theorem over : Rows.refuteChecksUptoRow.holds Try.pinned (Rows.OpenSpec.upto Rows.refuteChecksSpec) :=
  OpenClaim.holds_of_cond 3 Try.f3 rfl rfl rfl rfl rfl rfl rfl ⟨rfl, rfl, rfl, rfl, rfl⟩ rfl rfl rfl rfl rfl (by kernel_rfl) Try.func3 (by kernel_rfl)
    (of_decide_eq_true (by kernel_rfl)) (by unfold Func.isWrapper; first | (rw [if_pos (by decide +kernel)]; kernel_rfl) | (rw [if_neg (by decide +kernel)]; exact ⟨rfl, rfl⟩))
    (fun os started H enc _ F => lifted os started H enc F)

theorem proved : Rows.RefuteChecksUptoSaid := over
end Go.Proofs.Ytkanekacjefcbaa.refuteChecks
