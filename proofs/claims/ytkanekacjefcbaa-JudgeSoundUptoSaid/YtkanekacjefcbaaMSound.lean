/- JudgeSound: whatever comes in (of bulk at most what the given text says), the law returns true and each argument reads as it did. No other condition. -/
import Derived.Test.YtkanekacjefcbaaSoX
import Derived.Test.YtkanekacjefcbaaHoX
import Derived.Test.YtkanekacjefcbaaRefRun
import Derived.ShutString
import Derived.ChangeOld
import Derived.JoinedCond
import Derived.Deep.CondSized
namespace Go.Proofs.Ytkanekacjefcbaa.judgeSound
open Go.ChangeShapes Go.WideShapes Go.ChangeAt Go.RowKit
set_option linter.unusedVariables false

theorem own : ownKnob Try.prog.godebug = none := by kernel_rfl
theorem laidOut : laidOutB Try.prog = true := by kernel_rfl

set_option maxRecDepth 100000 in
theorem lifted (os : Os) (started : os.Started) (H : Type) (enc : TypeId × Value → H) (FF : Stop.Interp) :
    ReturnsInHanded {} Try.checked os 5 .any ((Rows.OpenSpec.upto Rows.judgeSoundSpec).pre6 enc Try.prog Try.f5 Rows.judgeSoundUptoRow.domain false) (((Rows.OpenSpec.upto Rows.judgeSoundSpec).at FF).post enc Try.prog Try.f5 false true false false) := by
  refine returnsInHanded_of_cond_sized (C := Try.checked) (s := Rows.OpenSpec.upto Rows.judgeSoundSpec) (k := Rows.uptoSmall) rfl own started (by kernel_rfl) Try.func5
    (OpenSpec.witness (enc := enc) (C := Try.checked) (s := Rows.OpenSpec.upto Rows.judgeSoundSpec) (k := Rows.uptoSmall) rfl false ⟨#[], #[.agg #[.int .i64 0, .slice none 0 0, .slice none 0 0, .slice none 0 0], .agg #[.int .i64 0, .slice none 0 0, .slice none 0 0, .slice none 0 0], .agg #[.slice none 0 0, .slice none 0 0, .slice none 0 0, .slice none 0 0], .slice none 0 0], []⟩ 8 (by kernel_rfl) (by kernel_rfl) (by kernel_rfl)
      (x := ([.agg [.lit (.int .i64 0), .nil, .nil, .nil], .agg [.lit (.int .i64 0), .nil, .nil, .nil], .agg [.nil, .nil, .nil, .nil], .nil], [], [])) (by kernel_rfl) rfl (by kernel_rfl)) ?_
  intro W base args ds gs before hval0 hW hcnd hk hsz _
  have hval : ∀ (j : Nat) t v, Try.f5.params[j]? = some t → args[j]? = some v → Value.okWide Try.prog W .any base t v := hval0
  have hW' := hW
  obtain ⟨p, q, hA0, hV, rfl, hfz, hnd⟩ := hW
  have hA : DataW.TrodAll enc Try.prog W 0 (fun _ => true) true Try.f5.params.toList args.toList ds p := hA0
  rw [Try.params5] at hA hval hsz
  obtain ⟨v0, vs0, d0, ds0, p0, q0, hargs, rfl, rfl, h0, r0⟩ := trodAll_cons hA
  obtain ⟨v1, vs1, d1, ds1, p1, q1, rfl, rfl, rfl, h1, r1⟩ := trodAll_cons r0
  obtain ⟨v2, vs2, d2, ds2, p2, q2, rfl, rfl, rfl, h2, r2⟩ := trodAll_cons r1
  obtain ⟨v3, vs3, d3, ds3, p3, q3, rfl, rfl, rfl, h3, r3⟩ := trodAll_cons r2
  obtain ⟨rfl, rfl, rfl⟩ := trodAll_nil r3
  obtain rfl : args = #[v0, v1, v2, v3] := by cases args; simp_all
  obtain ⟨rfl, rfl⟩ := trodVars_none hV
  have hbk := of_decide_eq_true hk
  simp only [List.cons_append, List.nil_append, Rows.uptoBulkAll] at hbk
  have k0 := h0
  have lt0 : ∀ x ∈ p0, x.block < W.heap.size := by obtain ⟨m, hm⟩ := k0; exact DataW.trod_lt m _ _ _ hm
  have good0 : Good 1048576 enc Try.prog W 30 v0.cells.toList := by
    obtain ⟨fuel, hf⟩ := h0
    exact ⟨fuel, d0, p0, hf, fun x hx => by simpa using List.all_eq_true.1 hsz x (DataW.weights_mem_each (j := 0) rfl rfl x hx), by omega⟩
  have k1 := h1
  have lt1 : ∀ x ∈ p1, x.block < W.heap.size := by obtain ⟨m, hm⟩ := k1; exact DataW.trod_lt m _ _ _ hm
  have good1 : Good 1048576 enc Try.prog W 30 v1.cells.toList := by
    obtain ⟨fuel, hf⟩ := h1
    exact ⟨fuel, d1, p1, hf, fun x hx => by simpa using List.all_eq_true.1 hsz x (DataW.weights_mem_each (j := 1) rfl rfl x hx), by omega⟩
  have k2 := h2
  have lt2 : ∀ x ∈ p2, x.block < W.heap.size := by obtain ⟨m, hm⟩ := k2; exact DataW.trod_lt m _ _ _ hm
  have good2 : Good 1048576 enc Try.prog W 32 v2.cells.toList := by
    obtain ⟨fuel, hf⟩ := h2
    exact ⟨fuel, d2, p2, hf, fun x hx => by simpa using List.all_eq_true.1 hsz x (DataW.weights_mem_each (j := 2) rfl rfl x hx), by omega⟩
  have k3 := h3
  have lt3 : ∀ x ∈ p3, x.block < W.heap.size := by obtain ⟨m, hm⟩ := k3; exact DataW.trod_lt m _ _ _ hm
  have good3 : Good 1048576 enc Try.prog W 34 v3.cells.toList := by
    obtain ⟨fuel, hf⟩ := h3
    exact ⟨fuel, d3, p3, hf, fun x hx => by simpa using List.all_eq_true.1 hsz x (DataW.weights_mem_each (j := 3) rfl rfl x hx), by omega⟩
  obtain ⟨cs0, rfl, _⟩ := okWide_struct Try.underlying30 (hval 0 _ v0 rfl rfl)
  obtain ⟨g0, Aa0, Ab0, Ac0, ca0, cb0, cc0, hcs0, hat0, hfit0⟩ := open_graph good0
  obtain rfl : cs0 = #[.int .i64 g0.ins, .slice Aa0 g0.n1 ca0, .slice Ab0 g0.n2 cb0, .slice Ac0 g0.n3 cc0] := by
    cases cs0; simpa [Value.cells] using hcs0
  obtain ⟨cs1, rfl, _⟩ := okWide_struct Try.underlying30 (hval 1 _ v1 rfl rfl)
  obtain ⟨g1, Aa1, Ab1, Ac1, ca1, cb1, cc1, hcs1, hat1, hfit1⟩ := open_graph good1
  obtain rfl : cs1 = #[.int .i64 g1.ins, .slice Aa1 g1.n1 ca1, .slice Ab1 g1.n2 cb1, .slice Ac1 g1.n3 cc1] := by
    cases cs1; simpa [Value.cells] using hcs1
  obtain ⟨cs2, rfl, _⟩ := okWide_struct Try.underlying32 (hval 2 _ v2 rfl rfl)
  obtain ⟨PA2, np2, pc2, P2, Q2, SA2, sc2, St2, vst2, hcs2, hp2, hnp2, hS2, hl2, ht2⟩ := open_cert good2
  obtain rfl : cs2 = #[.slice PA2 np2 pc2, .slice (SA2 0) (St2 0).length (sc2 0), .slice (SA2 1) (St2 1).length (sc2 1), .slice (SA2 2) (St2 2).length (sc2 2)] := by
    cases cs2; simpa [Value.cells] using hcs2
  obtain ⟨aa3, len3, cap3, rfl⟩ := okWide_slice Try.underlying34 (hval 3 _ v3 rfl rfl)
  obtain ⟨A3, n3, c3, TL3, T3, hcs3, hn3, hat3, hl3⟩ := open_mat good3
  obtain ⟨rfl, rfl, rfl⟩ : aa3 = A3 ∧ len3 = n3 ∧ cap3 = c3 := by simpa [Value.cells] using hcs3
  clear hA0 hval0
  refine (judgeSound_walk g0 Aa0 Ab0 Ac0 ca0 cb0 cc0 g1 Aa1 Ab1 Ac1 ca1 cb1 cc1 PA2 np2 pc2 P2 Q2 SA2 sc2 St2 vst2 aa3 len3 cap3 TL3 T3 W hat0 hfit0 hat1 hfit1 hp2 hnp2 hS2 hl2 ht2 hat3 hn3 hl3).mono fun e W' ⟨he, bel⟩ => ?_
  subst he
  exact ⟨_, rfl, _, _, _, [], _, [], hW', trodAll_mk1 (shut_bool Try.underlying4 _), (trodAll_cons_mk (Below.trod laidOut (by kernel_rfl) (of_decide_eq_true (by kernel_rfl)) k0 bel lt0) (trodAll_cons_mk (Below.trod laidOut (by kernel_rfl) (of_decide_eq_true (by kernel_rfl)) k1 bel lt1) (trodAll_cons_mk (Below.trod laidOut (by kernel_rfl) (of_decide_eq_true (by kernel_rfl)) k2 bel lt2) (trodAll_cons_mk (Below.trod laidOut (by kernel_rfl) (of_decide_eq_true (by kernel_rfl)) k3 bel lt3) trodAll_mk0)))), rfl, bel.frame _, fun h => by cases h⟩

theorem over : Rows.judgeSoundUptoRow.holds Try.pinned (Rows.OpenSpec.upto Rows.judgeSoundSpec) :=
  OpenClaim.holds_of_cond 5 Try.f5 rfl rfl rfl rfl rfl rfl rfl ⟨rfl, rfl, rfl, rfl, rfl⟩ rfl rfl rfl rfl rfl (by kernel_rfl) Try.func5 (by kernel_rfl)
    (of_decide_eq_true (by kernel_rfl)) (by unfold Func.isWrapper; first | (rw [if_pos (by decide +kernel)]; kernel_rfl) | (rw [if_neg (by decide +kernel)]; exact ⟨rfl, rfl⟩))
    (fun os started H enc _ F => lifted os started H enc F)

theorem proved : Rows.JudgeSoundUptoSaid := over
end Go.Proofs.Ytkanekacjefcbaa.judgeSound
