/- StreamEncodes: whatever comes in, the law returns true and each argument reads as it did. No condition. -/
import Derived.Test.YtbnjbclkmjjkhaaStE
import Derived.Test.YtbnjbclkmjjkhaaCf
import Derived.ShutString
import Derived.ChangeOld
namespace Go.Proofs.Ytbnjbclkmjjkhaa.streamEncodes
open Go.ChangeShapes Go.WideShapes Go.ChangeAt Go.RowKit
set_option linter.unusedVariables false

theorem own : ownKnob Try.prog.godebug = none := by kernel_rfl
theorem laidOut : laidOutB Try.prog = true := by kernel_rfl

set_option maxRecDepth 100000 in
theorem lifted (os : Os) (started : os.Started) (H : Type) (enc : TypeId × Value → H) :
    ReturnsInHanded {} Try.checked os 4 .any (Rows.streamEncodesSpec.pre6 enc Try.prog Try.f4 Rows.streamEncodesRow.domain false) (Rows.streamEncodesSpec.post enc Try.prog Try.f4 false true false false) := by
  refine returnsInHanded_of_change_sized (C := Try.checked) own started (by kernel_rfl) Try.func4
    (ChangeSpec.witness6 (enc := enc) (C := Try.checked) false ⟨#[], #[.agg #[.int .i64 0, .int .i64 0, .int .i64 0, .int .i64 0, .int .i64 0, .slice none 0 0, .slice none 0 0, .slice none 0 0]], []⟩ 8 (by kernel_rfl) (by kernel_rfl) (by kernel_rfl) (by kernel_rfl)) ?_
  intro W base args ds gs before hval0 hW hcnd hsz _
  have hval : ∀ (j : Nat) t v, Try.f4.params[j]? = some t → args[j]? = some v → Value.okWide Try.prog W .any base t v := hval0
  have hW' := hW
  obtain ⟨p, q, hA0, hV, rfl, hfz, hnd⟩ := hW
  have hA : DataW.TrodAll enc Try.prog W 0 (fun _ => true) true Try.f4.params.toList args.toList ds p := hA0
  rw [Try.params4] at hA hval hsz
  obtain ⟨v0, vs0, d0, ds0, p0, q0, hargs, rfl, rfl, h0, r0⟩ := trodAll_cons hA
  obtain ⟨rfl, rfl, rfl⟩ := trodAll_nil r0
  obtain rfl : args = #[v0] := by cases args; simp_all
  obtain ⟨rfl, rfl⟩ := trodVars_none hV
  have k0 := h0
  have lt0 : ∀ x ∈ p0, x.block < W.heap.size := by obtain ⟨m, hm⟩ := k0; exact DataW.trod_lt m _ _ _ hm
  have good0 : Good (Rows.uptoBulk d0) enc Try.prog W 28 v0.cells.toList := by
    obtain ⟨fuel, hf⟩ := h0
    exact ⟨fuel, d0, p0, hf, fun x hx => by simpa using List.all_eq_true.1 hsz x (DataW.weights_mem_each (j := 0) rfl rfl x hx), Nat.le_refl _⟩
  obtain ⟨cs0, rfl, _⟩ := okWide_struct Try.underlying28 (hval 0 _ v0 rfl rfl)
  obtain ⟨g0, hcs0, hat0, hfit0⟩ := open_config good0
  obtain rfl : cs0 = #[.int .i64 (g0.sh 0), .int .i64 (g0.sh 1), .int .i64 (g0.sh 2), .int .i64 (g0.sh 3), .int .i64 (g0.sh 4), .slice g0.AC g0.nc g0.cC, .slice g0.AR g0.nr g0.cR, .slice g0.AO g0.no g0.cO] := by
    cases cs0; simpa [Value.cells, Cf.cells] using hcs0
  clear hA0 hval0
  refine (streamEncodes_walk g0 W hat0 hfit0).mono fun e W' ⟨he, bel⟩ => ?_
  subst he
  exact ⟨_, rfl, _, _, _, [], _, [], hW', trodAll_mk1 (shut_bool Try.underlying4 _), (trodAll_cons_mk (Below.trod laidOut (by kernel_rfl) (of_decide_eq_true (by kernel_rfl)) k0 bel lt0) trodAll_mk0), rfl, bel.frame _, fun h => by cases h⟩

theorem over : Rows.streamEncodesRow.holds Try.pinned (OpenSpec.ofChange Rows.streamEncodesSpec) :=
  OpenClaim.holds_of_wide 4 Try.f4 rfl rfl rfl rfl rfl rfl rfl ⟨rfl, rfl, rfl, rfl, rfl⟩ rfl rfl rfl rfl rfl (by kernel_rfl) Try.func4 (by kernel_rfl)
    (of_decide_eq_true (by kernel_rfl)) (by unfold Func.isWrapper; first | (rw [if_pos (by decide +kernel)]; kernel_rfl) | (rw [if_neg (by decide +kernel)]; exact ⟨rfl, rfl⟩))
    (fun os started H enc _ => lifted os started H enc)

theorem proved : Rows.StreamEncodesSaid := over
end Go.Proofs.Ytbnjbclkmjjkhaa.streamEncodes
