/- AigerPacks: whatever comes in, the law returns true and each argument reads as it did; with the tables of Go's library that the row lists, tied to the program's text. No condition. -/
import Derived.Test.YthmjbenofpbmbaaDoorPl
import Derived.Test.YthmjbenofpbmbaaDoorCards
import Derived.Test.YthmjbenofpbmbaaDoorTie
import Derived.ShutString
import Derived.ChangeOld
import Derived.JoinedCond
import Derived.Deep.CondSized
import Derived.Deep.DeepHandedRow
import Derived.Lib.LaidTab
namespace Go.Proofs.YthmjbenofpbmbaaDoor.aigerPacks
open Go.ChangeShapes Go.WideShapes Go.ChangeAt Go.RowKit
set_option linter.unusedVariables false

theorem own : ownKnob Tryd.prog.godebug = none := by kernel_rfl
theorem laidOut : laidOutB Tryd.prog = true := by kernel_rfl

theorem gTab : Tryd.prog.globalNamed "internal/strconv.uint64pow10" = some 0 := by kernel_rfl
theorem gTabType : (Tryd.prog.globals[0]?).map (·.type) = some 73 := by kernel_rfl
theorem cellsT : Tryd.prog.cellsOf 73 = 20 := by kernel_rfl
theorem cellsE : Tryd.prog.cellsOf 52 = 1 := by kernel_rfl
theorem tab_data {H : Type} : (Rows.laid_internal_strconv_uint64pow10 : DataW H) = Lib.tabData .u64 Lib.pow10Tab := by rfl
theorem tab_vars {W : World} {rest : List (String × DataW Unit)} {ps : List MemPlace} (h : DataW.LaidVars Tryd.prog W (("internal/strconv.uint64pow10", Lib.tabData .u64 Lib.pow10Tab) :: rest) ps) : Lib.TabIs Tryd.prog W "internal/strconv.uint64pow10" .u64 Lib.pow10Tab := by
  obtain ⟨g', t', cs, fuel, p, q, hg', ht', hvar, hd, _, _⟩ := h
  obtain rfl := Option.some.inj (gTab.symm.trans hg')
  obtain rfl := Option.some.inj (gTabType.symm.trans ht')
  unfold Lib.TabIs
  rw [hvar, ← Lib.cells_of_tab Tryd.underlying73 Tryd.underlying52 cellsE cellsT hd]
theorem table {W : World} (h : laidMetH Tryd.prog Rows.aigerPacksRow.laid W) : Tab W.heap.size W := by
  obtain ⟨ps, hL, _⟩ : laidMet Tryd.prog Rows.aigerPacksRow.laid W := h
  obtain ⟨_, _, _, _, _, q0, _, _, _, _, h0, _⟩ := hL
  obtain ⟨_, _, _, _, _, q1, _, _, _, _, h1, _⟩ := h0
  have ht := tab_vars h1
  intro w' hb
  have hv : W.var? Tryd.prog "internal/strconv.uint64pow10" = some (Lib.pow10Tab.map fun z => Value.int .u64 z).toArray := ht
  show w'.var? Tryd.prog "internal/strconv.uint64pow10" = some (Lib.pow10Tab.map fun z => Value.int .u64 z).toArray
  simp only [World.var?, gTab, Option.bind_some] at hv ⊢
  have hlt : 0 < W.heap.size := by
    rcases Nat.lt_or_ge 0 W.heap.size with h1 | h1
    · exact h1
    · simp [Array.getElem?_eq_none h1] at hv
  rw [hb.block 0 hlt]
  exact hv

/-- a world for the witness: the tables hold what their initialisers lay -/
noncomputable def laidWorld (os : Os) : World := { (World.holding Tryd.prog os ⟨#[], #[], []⟩) with heap := ((((World.holding Tryd.prog os ⟨#[], #[], []⟩).heap.modify 0 fun | .cells _ t frozen => .cells #[.int .u64 1, .int .u64 10, .int .u64 100, .int .u64 1000, .int .u64 10000, .int .u64 100000, .int .u64 1000000, .int .u64 10000000, .int .u64 100000000, .int .u64 1000000000, .int .u64 10000000000, .int .u64 100000000000, .int .u64 1000000000000, .int .u64 10000000000000, .int .u64 100000000000000, .int .u64 1000000000000000, .int .u64 10000000000000000, .int .u64 100000000000000000, .int .u64 1000000000000000000, .int .u64 10000000000000000000] t frozen | o => o).modify 1 fun | .cells _ t frozen => .cells #[.int .u8 0, .int .u8 1, .int .u8 28, .int .u8 2, .int .u8 29, .int .u8 14, .int .u8 24, .int .u8 3, .int .u8 30, .int .u8 22, .int .u8 20, .int .u8 15, .int .u8 25, .int .u8 17, .int .u8 4, .int .u8 8, .int .u8 31, .int .u8 27, .int .u8 13, .int .u8 23, .int .u8 21, .int .u8 19, .int .u8 16, .int .u8 7, .int .u8 26, .int .u8 12, .int .u8 18, .int .u8 6, .int .u8 11, .int .u8 5, .int .u8 10, .int .u8 9] t frozen | o => o).modify 2 fun | .cells _ t frozen => .cells #[.int .u8 0, .int .u8 1, .int .u8 56, .int .u8 2, .int .u8 57, .int .u8 49, .int .u8 28, .int .u8 3, .int .u8 61, .int .u8 58, .int .u8 42, .int .u8 50, .int .u8 38, .int .u8 29, .int .u8 17, .int .u8 4, .int .u8 62, .int .u8 47, .int .u8 59, .int .u8 36, .int .u8 45, .int .u8 43, .int .u8 51, .int .u8 22, .int .u8 53, .int .u8 39, .int .u8 33, .int .u8 30, .int .u8 24, .int .u8 18, .int .u8 12, .int .u8 5, .int .u8 63, .int .u8 55, .int .u8 48, .int .u8 27, .int .u8 60, .int .u8 41, .int .u8 37, .int .u8 16, .int .u8 46, .int .u8 35, .int .u8 44, .int .u8 21, .int .u8 52, .int .u8 32, .int .u8 23, .int .u8 11, .int .u8 54, .int .u8 26, .int .u8 40, .int .u8 15, .int .u8 34, .int .u8 20, .int .u8 31, .int .u8 10, .int .u8 25, .int .u8 14, .int .u8 19, .int .u8 9, .int .u8 13, .int .u8 8, .int .u8 7, .int .u8 6] t frozen | o => o) }
theorem laid_met (os : Os) : laidMet Tryd.prog Rows.aigerPacksRow.laid ((laidWorld os).forCall (fun _ _ => 0) ⟨#[], #[.agg #[.int .i64 0, .slice none 0 0, .slice none 0 0, .slice none 0 0]], []⟩).memory := laidMet_of_run' 8 (by kernel_rfl) (by kernel_rfl)
theorem reads (os : Os) {H : Type} (enc : TypeId × Value → H) : ∃ places, DataW.whole enc Tryd.prog ((laidWorld os).forCall (fun _ _ => 0) ⟨#[], #[.agg #[.int .i64 0, .slice none 0 0, .slice none 0 0, .slice none 0 0]], []⟩).memory Tryd.f5.params.toList Rows.aigerPacksSpec.vars false (#[.agg #[.int .i64 0, .slice none 0 0, .slice none 0 0, .slice none 0 0]] : Array Value).toList 8 = some ([.agg [.lit (.int .i64 0), .nil, .nil, .nil]], [], places) := ⟨[], by kernel_rfl⟩

set_option maxRecDepth 100000 in
theorem lifted (os : Os) (started : os.Started) (H : Type) (enc : TypeId × Value → H) (FF : Stop.Interp) :
    ReturnsInHanded {} Tryd.checked os 5 .any ((OpenSpec.ofChange Rows.aigerPacksSpec).preRow enc Tryd.prog Tryd.f5 Rows.aigerPacksRow.domain false Rows.aigerPacksRow.laid) (((OpenSpec.ofChange Rows.aigerPacksSpec).at FF).post enc Tryd.prog Tryd.f5 false true false false) := by
  obtain ⟨places, hx⟩ := reads os enc
  refine returnsInHanded_of_row (C := Tryd.checked) (s := OpenSpec.ofChange Rows.aigerPacksSpec) own started (by kernel_rfl) Tryd.func5
    (witness_row_at (enc := enc) (C := Tryd.checked) false (laidWorld os) #[.agg #[.int .i64 0, .slice none 0 0, .slice none 0 0, .slice none 0 0]] rfl (by kernel_rfl) (by kernel_rfl) (by kernel_rfl)
      (OpenSpec.preRow_of_cond 8 hx (by kernel_rfl) (fun k hk => by cases hk) (by kernel_rfl) (laid_met os))) ?_
  intro W base args ds gs before hval0 hW hcnd hcond hsz hL _ _
  have hval : ∀ (j : Nat) t v, Tryd.f5.params[j]? = some t → args[j]? = some v → Value.okWide Tryd.prog W .any base t v := hval0
  have HTB := table hL
  have hW' := hW
  obtain ⟨p, q, hA0, hV, rfl, hfz, hnd⟩ := hW
  have hA : DataW.TrodAll enc Tryd.prog W 0 (fun _ => true) true Tryd.f5.params.toList args.toList ds p := hA0
  rw [Tryd.params5] at hA hval hsz
  obtain ⟨v0, vs0, d0, ds0, p0, q0, hargs, rfl, rfl, h0, r0⟩ := trodAll_cons hA
  obtain ⟨rfl, rfl, rfl⟩ := trodAll_nil r0
  obtain rfl : args = #[v0] := by cases args; simp_all
  obtain ⟨rfl, rfl⟩ := trodVars_none hV
  have k0 := h0
  have lt0 : ∀ x ∈ p0, x.block < W.heap.size := by obtain ⟨m, hm⟩ := k0; exact DataW.trod_lt m _ _ _ hm
  have good0 : Good (Rows.uptoBulk d0) enc Tryd.prog W 31 v0.cells.toList := by
    obtain ⟨fuel, hf⟩ := h0
    exact ⟨fuel, d0, p0, hf, fun x hx => by simpa using List.all_eq_true.1 hsz x (DataW.weights_mem_each (j := 0) rfl rfl x hx), Nat.le_refl _⟩
  obtain ⟨cs0, rfl, _⟩ := okWide_struct Tryd.underlying31 (hval 0 _ v0 rfl rfl)
  obtain ⟨g0, Aa0, Ab0, Ac0, ca0, cb0, cc0, hcs0, hat0, hfit0⟩ := open_graph good0
  obtain rfl : cs0 = #[.int .i64 g0.ins, .slice Aa0 g0.n1 ca0, .slice Ab0 g0.n2 cb0, .slice Ac0 g0.n3 cc0] := by
    cases cs0; simpa [Value.cells] using hcs0
  clear hA0 hval0
  refine (aigerPacks_walk g0 Aa0 Ab0 Ac0 ca0 cb0 cc0 W hat0 hfit0 HTB).mono fun e W' ⟨he, bel⟩ => ?_
  subst he
  exact ⟨_, rfl, _, _, _, [], _, [], hW', trodAll_mk1 (shut_bool Tryd.underlying4 _), (trodAll_cons_mk (Below.trod laidOut (by kernel_rfl) (of_decide_eq_true (by kernel_rfl)) k0 bel lt0) trodAll_mk0), rfl, bel.frame _, fun h => by cases h⟩

theorem over : Rows.aigerPacksRow.holds Tryd.pinned (OpenSpec.ofChange Rows.aigerPacksSpec) :=
  OpenClaim.holds_of_cond 5 Tryd.f5 rfl rfl rfl rfl rfl rfl rfl ⟨rfl, rfl, rfl, rfl, rfl⟩ rfl rfl rfl rfl rfl (by kernel_rfl) Tryd.func5 (by kernel_rfl)
    (of_decide_eq_true (by kernel_rfl)) (by unfold Func.isWrapper; first | (rw [if_pos (by decide +kernel)]; kernel_rfl) | (rw [if_neg (by decide +kernel)]; exact ⟨rfl, rfl⟩))
    (fun os started H enc _ FF => by rw [OpenClaim.pre_eq_preRow]; exact lifted os started H enc FF)

theorem plain (f : FuncId) (fn : Func) (hf : Tryd.pinned.checked.prog.funcNamed "gatewright/gatewrightlaw.AigerPacks" = some f) (hfn : Tryd.pinned.checked.prog.funcs[f]? = some fn) :
    false = Tryd.pinned.checked.prog.looks [] ∧ ∀ (j : Nat) t, fn.params[j]? = some t → Tryd.pinned.checked.prog.wantsStandIn t = false := by
  obtain rfl : f = 5 := Option.some.inj ((show Tryd.prog.funcNamed "gatewright/gatewrightlaw.AigerPacks" = some 5 by kernel_rfl).symm.trans hf) |>.symm
  obtain rfl : fn = Tryd.f5 := (Option.some.inj (Tryd.func5.symm.trans hfn)).symm
  refine ⟨by kernel_rfl, fun j t ht => ?_⟩
  rw [Tryd.params5] at ht
  have hm : t ∈ [31] := by simpa using Array.mem_of_getElem? ht
  simp only [List.mem_cons, List.not_mem_nil, or_false] at hm
  subst hm
  exact (show Tryd.prog.wantsStandIn 31 = false by kernel_rfl)

theorem proved : Rows.AigerPacksCardSaid :=
  Claim7.holds_tied_plain_at .later [] _ _ _ _ over (fun _ h => by cases h) (by kernel_rfl) (fun _ h => by cases h) aigerPacks_row_tie rfl ⟨rfl, rfl⟩ (by kernel_rfl) rfl plain (by kernel_rfl)
end Go.Proofs.YthmjbenofpbmbaaDoor.aigerPacks
