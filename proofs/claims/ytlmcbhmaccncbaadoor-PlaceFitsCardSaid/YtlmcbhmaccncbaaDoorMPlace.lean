/- PlaceFits: whatever comes in, the law returns true and each argument reads as it did; with the package-level variable that the row lists, tied to the program's text. No condition. -/
import Derived.Test.YtlmcbhmaccncbaaDoorPcO
import Derived.Test.YtlmcbhmaccncbaaDoorCards
import Derived.Test.YtlmcbhmaccncbaaDoorTie
import Derived.ShutString
import Derived.ChangeOld
import Derived.JoinedCond
import Derived.Deep.CondSized
import Derived.Deep.DeepHandedRow
import Derived.LaidHandle
import Derived.LaidLaws
namespace Go.Proofs.YtlmcbhmaccncbaaDoor.placeFits
open Go.ChangeShapes Go.WideShapes Go.ChangeAt Go.RowKit
set_option linter.unusedVariables false

theorem own : ownKnob Tryd.prog.godebug = none := by kernel_rfl
theorem laidOut : laidOutB Tryd.prog = true := by kernel_rfl

theorem et : Tryd.prog.globalNamed "errors.errorType" = some 0 := by kernel_rfl
theorem rt : (Tryd.prog.cutTypes.find? (·.1 == "internal/reflectlite.rtype")).map (·.2) = some 93 := by kernel_rfl
theorem oneRow : ((List.range 136).filter fun t => Tryd.prog.rowNamed t [101, 114, 114, 111, 114]) = [38] := by kernel_rfl
theorem size : Tryd.prog.types.size = 136 := by kernel_rfl
/-- what the row lists gives the walk: the variable is as the program lays it -/
theorem table {W : World} (h : laidMetH Tryd.prog Rows.placeFitsRow.laid W) : ErrT W := by
  have h' : laidMet Tryd.prog [] W ∧ handlesMet Tryd.prog Rows.placeFitsRow.laid W := h
  obtain ⟨name, u, ty, e1, e2, e3, e4, e5⟩ := h'.2 _ (List.mem_singleton.2 rfl)
  have en : name = [101, 114, 114, 111, 114] := (Option.some.inj e1).symm
  subst en
  obtain rfl := Option.some.inj (rt.symm.trans e2)
  have hm : ty ∈ (List.range 136).filter fun t => Tryd.prog.rowNamed t [101, 114, 114, 111, 114] := List.mem_filter.2 ⟨List.mem_range.2 (by rw [← size]; exact e3), e4⟩
  rw [oneRow] at hm
  obtain rfl := List.mem_singleton.1 hm
  have hh : typeHandle Tryd.prog 38 = .pointer (some ⟨1, 38, none⟩) := by kernel_rfl
  rw [hh] at e5
  unfold ErrT
  simpa using World.var?_cell et e5 0

/-- a world for the witness: the variable holds what its initialiser lays -/
noncomputable def laidWorld (os : Os) : World := { (World.holding Tryd.prog os ⟨#[], #[], []⟩) with heap := ((World.holding Tryd.prog os ⟨#[], #[], []⟩).heap.modify 0 fun | .cells _ t frozen => .cells #[.iface 93 (.agg #[.pointer (some ⟨1, 38, none⟩)])] t frozen | o => o) }
theorem laid_met (os : Os) : laidMetH Tryd.prog Rows.placeFitsRow.laid ((laidWorld os).forCall (fun _ _ => 0) ⟨#[], #[.agg #[.int .i64 0, .slice none 0 0, .slice none 0 0, .slice none 0 0, .slice none 0 0], .agg #[.int .i64 0, .int .i64 0, .int .i64 0, .int .i64 0, .int .i64 0], .slice none 0 0], []⟩).memory := laidMetH_of_parts (laidMet_nil _ _) (by kernel_rfl)
theorem reads (os : Os) {H : Type} (enc : TypeId × Value → H) : ∃ places, DataW.whole enc Tryd.prog ((laidWorld os).forCall (fun _ _ => 0) ⟨#[], #[.agg #[.int .i64 0, .slice none 0 0, .slice none 0 0, .slice none 0 0, .slice none 0 0], .agg #[.int .i64 0, .int .i64 0, .int .i64 0, .int .i64 0, .int .i64 0], .slice none 0 0], []⟩).memory Tryd.f3.params.toList Rows.placeFitsSpec.vars false (#[.agg #[.int .i64 0, .slice none 0 0, .slice none 0 0, .slice none 0 0, .slice none 0 0], .agg #[.int .i64 0, .int .i64 0, .int .i64 0, .int .i64 0, .int .i64 0], .slice none 0 0] : Array Value).toList 8 = some ([.agg [.lit (.int .i64 0), .nil, .nil, .nil, .nil], .agg [.lit (.int .i64 0), .lit (.int .i64 0), .lit (.int .i64 0), .lit (.int .i64 0), .lit (.int .i64 0)], .nil], [], places) := ⟨[], by kernel_rfl⟩

set_option maxRecDepth 100000 in
theorem lifted (os : Os) (started : os.Started) (H : Type) (enc : TypeId × Value → H) (FF : Stop.Interp) :
    ReturnsInHanded {} Tryd.checked os 3 .any ((OpenSpec.ofChange Rows.placeFitsSpec).preRow enc Tryd.prog Tryd.f3 Rows.placeFitsRow.domain false Rows.placeFitsRow.laid) (((OpenSpec.ofChange Rows.placeFitsSpec).at FF).post enc Tryd.prog Tryd.f3 false true false false) := by
  obtain ⟨places, hx⟩ := reads os enc
  refine returnsInHanded_of_row (C := Tryd.checked) (s := OpenSpec.ofChange Rows.placeFitsSpec) own started (by kernel_rfl) Tryd.func3
    (witness_row_at (enc := enc) (C := Tryd.checked) false (laidWorld os) #[.agg #[.int .i64 0, .slice none 0 0, .slice none 0 0, .slice none 0 0, .slice none 0 0], .agg #[.int .i64 0, .int .i64 0, .int .i64 0, .int .i64 0, .int .i64 0], .slice none 0 0] rfl (by kernel_rfl) (by kernel_rfl) (by kernel_rfl)
      (OpenSpec.preRow_of_cond 8 hx (by kernel_rfl) (fun k hk => by cases hk) (by kernel_rfl) (laid_met os))) ?_
  intro W base args ds gs before hval0 hW hcnd hcond hsz hL _ _
  have hval : ∀ (j : Nat) t v, Tryd.f3.params[j]? = some t → args[j]? = some v → Value.okWide Tryd.prog W .any base t v := hval0
  have HTB := table hL
  have hW' := hW
  obtain ⟨p, q, hA0, hV, rfl, hfz, hnd⟩ := hW
  have hA : DataW.TrodAll enc Tryd.prog W 0 (fun _ => true) true Tryd.f3.params.toList args.toList ds p := hA0
  rw [Tryd.params3] at hA hval hsz
  obtain ⟨v0, vs0, d0, ds0, p0, q0, hargs, rfl, rfl, h0, r0⟩ := trodAll_cons hA
  obtain ⟨v1, vs1, d1, ds1, p1, q1, rfl, rfl, rfl, h1, r1⟩ := trodAll_cons r0
  obtain ⟨v2, vs2, d2, ds2, p2, q2, rfl, rfl, rfl, h2, r2⟩ := trodAll_cons r1
  obtain ⟨rfl, rfl, rfl⟩ := trodAll_nil r2
  obtain rfl : args = #[v0, v1, v2] := by cases args; simp_all
  obtain ⟨rfl, rfl⟩ := trodVars_none hV
  have k0 := h0
  have lt0 : ∀ x ∈ p0, x.block < W.heap.size := by obtain ⟨m, hm⟩ := k0; exact DataW.trod_lt m _ _ _ hm
  have good0 : Good (Rows.uptoBulk d0) enc Tryd.prog W 26 v0.cells.toList := by
    obtain ⟨fuel, hf⟩ := h0
    exact ⟨fuel, d0, p0, hf, fun x hx => by simpa using List.all_eq_true.1 hsz x (DataW.weights_mem_each (j := 0) rfl rfl x hx), Nat.le_refl _⟩
  have k1 := h1
  have lt1 : ∀ x ∈ p1, x.block < W.heap.size := by obtain ⟨m, hm⟩ := k1; exact DataW.trod_lt m _ _ _ hm
  have good1 : Good (Rows.uptoBulk d1) enc Tryd.prog W 28 v1.cells.toList := by
    obtain ⟨fuel, hf⟩ := h1
    exact ⟨fuel, d1, p1, hf, fun x hx => by simpa using List.all_eq_true.1 hsz x (DataW.weights_mem_each (j := 1) rfl rfl x hx), Nat.le_refl _⟩
  have k2 := h2
  have lt2 : ∀ x ∈ p2, x.block < W.heap.size := by obtain ⟨m, hm⟩ := k2; exact DataW.trod_lt m _ _ _ hm
  have good2 : Good (Rows.uptoBulk d2) enc Tryd.prog W 29 v2.cells.toList := by
    obtain ⟨fuel, hf⟩ := h2
    exact ⟨fuel, d2, p2, hf, fun x hx => by simpa using List.all_eq_true.1 hsz x (DataW.weights_mem_each (j := 2) rfl rfl x hx), Nat.le_refl _⟩
  obtain ⟨cs0, rfl, _⟩ := okWide_struct Tryd.underlying26 (hval 0 _ v0 rfl rfl)
  obtain ⟨g0, Aa0, Ab0, Ac0, Ad0, ca0, cb0, cc0, cd0, hcs0, hat0, hfit0⟩ := open_tables good0
  obtain rfl : cs0 = #[.int .i64 g0.ins, .slice Aa0 g0.n1 ca0, .slice Ab0 g0.n2 cb0, .slice Ac0 g0.n3 cc0, .slice Ad0 g0.n4 cd0] := by
    cases cs0; simpa [Value.cells] using hcs0
  obtain ⟨cs1, rfl, _⟩ := okWide_struct Tryd.underlying28 (hval 1 _ v1 rfl rfl)
  obtain ⟨sh1, hcs1⟩ := open_shape good1
  obtain rfl : cs1 = #[.int .i64 (sh1 0), .int .i64 (sh1 1), .int .i64 (sh1 2), .int .i64 (sh1 3), .int .i64 (sh1 4)] := by
    cases cs1; simpa [Value.cells] using hcs1
  obtain ⟨aa2, len2, cap2, rfl⟩ := okWide_slice Tryd.underlying29 (hval 2 _ v2 rfl rfl)
  obtain ⟨A2, n2, c2, TL2, T2, hcs2, hn2, hat2, hl2⟩ := open_mat good2
  obtain ⟨rfl, rfl, rfl⟩ : aa2 = A2 ∧ len2 = n2 ∧ cap2 = c2 := by simpa [Value.cells] using hcs2
  clear hA0 hval0
  refine (placeFits_walk g0 Aa0 Ab0 Ac0 Ad0 ca0 cb0 cc0 cd0 sh1 aa2 len2 cap2 TL2 T2 W hat0 hfit0  hat2 hn2 hl2 HTB).mono fun e W' ⟨he, bel⟩ => ?_
  subst he
  exact ⟨_, rfl, _, _, _, [], _, [], hW', trodAll_mk1 (shut_bool Tryd.underlying4 _), (trodAll_cons_mk (Below.trod laidOut (by kernel_rfl) (of_decide_eq_true (by kernel_rfl)) k0 bel lt0) (trodAll_cons_mk (Below.trod laidOut (by kernel_rfl) (of_decide_eq_true (by kernel_rfl)) k1 bel lt1) (trodAll_cons_mk (Below.trod laidOut (by kernel_rfl) (of_decide_eq_true (by kernel_rfl)) k2 bel lt2) trodAll_mk0))), rfl, bel.frame _, fun h => by cases h⟩

theorem over : Rows.placeFitsRow.holds Tryd.pinned (OpenSpec.ofChange Rows.placeFitsSpec) :=
  OpenClaim.holds_of_cond 3 Tryd.f3 rfl rfl rfl rfl rfl rfl rfl ⟨rfl, rfl, rfl, rfl, rfl⟩ rfl rfl rfl rfl rfl (by kernel_rfl) Tryd.func3 (by kernel_rfl)
    (of_decide_eq_true (by kernel_rfl)) (by unfold Func.isWrapper; first | (rw [if_pos (by decide +kernel)]; kernel_rfl) | (rw [if_neg (by decide +kernel)]; exact ⟨rfl, rfl⟩))
    (fun os started H enc _ FF => by rw [OpenClaim.pre_eq_preRow]; exact lifted os started H enc FF)

theorem plain (f : FuncId) (fn : Func) (hf : Tryd.pinned.checked.prog.funcNamed "gatewright/gatewrightlaw.PlaceFits" = some f) (hfn : Tryd.pinned.checked.prog.funcs[f]? = some fn) :
    true = Tryd.pinned.checked.prog.looks [] ∧ ∀ (j : Nat) t, fn.params[j]? = some t → Tryd.pinned.checked.prog.wantsStandIn t = false := by
  obtain rfl : f = 3 := Option.some.inj ((show Tryd.prog.funcNamed "gatewright/gatewrightlaw.PlaceFits" = some 3 by kernel_rfl).symm.trans hf) |>.symm
  obtain rfl : fn = Tryd.f3 := (Option.some.inj (Tryd.func3.symm.trans hfn)).symm
  refine ⟨by kernel_rfl, fun j t ht => ?_⟩
  rw [Tryd.params3] at ht
  have hm : t ∈ [26, 28, 29] := by simpa using Array.mem_of_getElem? ht
  simp only [List.mem_cons, List.not_mem_nil, or_false] at hm
  rcases hm with rfl | rfl | rfl
  · exact (show Tryd.prog.wantsStandIn 26 = false by kernel_rfl)
  · exact (show Tryd.prog.wantsStandIn 28 = false by kernel_rfl)
  · exact (show Tryd.prog.wantsStandIn 29 = false by kernel_rfl)

theorem proved : Rows.PlaceFitsCardSaid :=
  Claim7.holds_tied_plain_at .later [] _ _ _ _ over (fun _ h => by cases h) (by kernel_rfl) (fun _ h => by cases h) placeFits_row_tie rfl ⟨rfl, rfl⟩ (by kernel_rfl) rfl plain (by kernel_rfl)
end Go.Proofs.YtlmcbhmaccncbaaDoor.placeFits
