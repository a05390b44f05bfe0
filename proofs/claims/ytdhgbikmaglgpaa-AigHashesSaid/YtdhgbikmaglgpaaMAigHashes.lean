/- AigHashes: whatever comes in, the law returns true and each argument reads as it did. No condition. -/
import Derived.Test.YtdhgbikmaglgpaaAigHashes
import Derived.Test.YtdhgbikmaglgpaaOpenMat
import Derived.ShutString
import Derived.ChangeOld
namespace Go.Proofs.Ytdhgbikmaglgpaa.aigHashes
open Go.ChangeShapes Go.WideShapes Go.ChangeAt Go.RowKit
set_option linter.unusedVariables false

theorem own : ownKnob Try.prog.godebug = none := by kernel_rfl
theorem laidOut : laidOutB Try.prog = true := by kernel_rfl

set_option maxRecDepth 100000 in
theorem lifted (os : Os) (started : os.Started) (H : Type) (enc : TypeId × Value → H) :
    ReturnsInHanded {} Try.checked os 6 .any (Rows.aigHashesSpec.pre6 enc Try.prog Try.f6 Rows.aigHashesRow.domain false) (Rows.aigHashesSpec.post enc Try.prog Try.f6 false true false false) := by
  refine returnsInHanded_of_change_sized (C := Try.checked) own started (by kernel_rfl) Try.func6
    (ChangeSpec.witness6 (enc := enc) (C := Try.checked) false ⟨#[], #[.agg #[.int .i64 0, .slice none 0 0, .slice none 0 0, .slice none 0 0], .slice none 0 0], []⟩ 8 (by kernel_rfl) (by kernel_rfl) (by kernel_rfl) (by kernel_rfl)) ?_
  intro W base args ds gs before hval0 hW hcnd hsz _
  have hval : ∀ (j : Nat) t v, Try.f6.params[j]? = some t → args[j]? = some v → Value.okWide Try.prog W .any base t v := hval0
  have hW' := hW
  obtain ⟨p, q, hA0, hV, rfl, hfz, hnd⟩ := hW
  have hA : DataW.TrodAll enc Try.prog W 0 (fun _ => true) true Try.f6.params.toList args.toList ds p := hA0
  rw [Try.params6] at hA hval hsz
  obtain ⟨v0, vs0, d0, ds0, p0, q0, hargs, rfl, rfl, h0, r0⟩ := trodAll_cons hA
  obtain ⟨v1, vs1, d1, ds1, p1, q1, rfl, rfl, rfl, h1, r1⟩ := trodAll_cons r0
  obtain ⟨rfl, rfl, rfl⟩ := trodAll_nil r1
  obtain rfl : args = #[v0, v1] := by cases args; simp_all
  obtain ⟨rfl, rfl⟩ := trodVars_none hV
  have k0 := h0
  have lt0 : ∀ x ∈ p0, x.block < W.heap.size := by obtain ⟨m, hm⟩ := k0; exact DataW.trod_lt m _ _ _ hm
  have good0 : Good (Rows.uptoBulk d0) enc Try.prog W 26 v0.cells.toList := by
    obtain ⟨fuel, hf⟩ := h0
    exact ⟨fuel, d0, p0, hf, fun x hx => by simpa using List.all_eq_true.1 hsz x (DataW.weights_mem_each (j := 0) rfl rfl x hx), Nat.le_refl _⟩
  have k1 := h1
  have lt1 : ∀ x ∈ p1, x.block < W.heap.size := by obtain ⟨m, hm⟩ := k1; exact DataW.trod_lt m _ _ _ hm
  have good1 : Good (Rows.uptoBulk d1) enc Try.prog W 29 v1.cells.toList := by
    obtain ⟨fuel, hf⟩ := h1
    exact ⟨fuel, d1, p1, hf, fun x hx => by simpa using List.all_eq_true.1 hsz x (DataW.weights_mem_each (j := 1) rfl rfl x hx), Nat.le_refl _⟩
  obtain ⟨cs0, rfl, _⟩ := okWide_struct Try.underlying26 (hval 0 _ v0 rfl rfl)
  obtain ⟨g0, Aa0, Ab0, Ac0, ca0, cb0, cc0, hcs0, hat0, hfit0⟩ := open_graph good0
  obtain rfl : cs0 = #[.int .i64 g0.ins, .slice Aa0 g0.n1 ca0, .slice Ab0 g0.n2 cb0, .slice Ac0 g0.n3 cc0] := by
    cases cs0; simpa [Value.cells] using hcs0
  obtain ⟨aa1, len1, cap1, rfl⟩ := okWide_slice Try.underlying29 (hval 1 _ v1 rfl rfl)
  obtain ⟨A1, n1, c1, TL1, T1, hcs1, hn1, hat1, hl1⟩ := open_mat good1
  obtain ⟨rfl, rfl, rfl⟩ : aa1 = A1 ∧ len1 = n1 ∧ cap1 = c1 := by simpa [Value.cells] using hcs1
  clear hA0 hval0
  refine (aigHashes_walk g0 Aa0 Ab0 Ac0 ca0 cb0 cc0 aa1 len1 cap1 TL1 T1 W hat0 hfit0 hat1 hn1 hl1).mono fun e W' ⟨he, bel⟩ => ?_
  subst he
  exact ⟨_, rfl, _, _, _, [], _, [], hW', trodAll_mk1 (shut_bool Try.underlying4 _), (trodAll_cons_mk (Below.trod laidOut (by kernel_rfl) (of_decide_eq_true (by kernel_rfl)) k0 bel lt0) (trodAll_cons_mk (Below.trod laidOut (by kernel_rfl) (of_decide_eq_true (by kernel_rfl)) k1 bel lt1) trodAll_mk0)), rfl, bel.frame _, fun h => by cases h⟩

theorem over : Rows.aigHashesRow.holds Try.pinned (OpenSpec.ofChange Rows.aigHashesSpec) :=
  OpenClaim.holds_of_wide 6 Try.f6 rfl rfl rfl rfl rfl rfl rfl ⟨rfl, rfl, rfl, rfl, rfl⟩ rfl rfl rfl rfl rfl (by kernel_rfl) Try.func6 (by kernel_rfl)
    (of_decide_eq_true (by kernel_rfl)) (by unfold Func.isWrapper; first | (rw [if_pos (by decide +kernel)]; kernel_rfl) | (rw [if_neg (by decide +kernel)]; exact ⟨rfl, rfl⟩))
    (fun os started H enc _ => lifted os started H enc)

theorem proved : Rows.AigHashesSaid := over
end Go.Proofs.Ytdhgbikmaglgpaa.aigHashes
