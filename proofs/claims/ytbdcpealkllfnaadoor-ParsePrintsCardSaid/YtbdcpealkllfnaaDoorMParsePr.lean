/- ParsePrints: whatever comes in, the law returns true and each argument reads as it did; with the tables of Go's library that the row lists, tied to the program's text. No condition. -/
import Derived.Test.YtbdcpealkllfnaaDoorPrL
import Derived.Test.YtbdcpealkllfnaaDoorCards
import Derived.Test.YtbdcpealkllfnaaDoorTie
import Derived.ShutString
import Derived.ChangeOld
import Derived.JoinedCond
import Derived.Deep.CondSized
import Derived.Deep.DeepHandedRow
import Derived.Lib.LaidTab
import Derived.LaidLaws
import Derived.Lay
namespace Go.Proofs.YtbdcpealkllfnaaDoor.parsePrints
open Go.ChangeShapes Go.WideShapes Go.ChangeAt Go.RowKit
set_option linter.unusedVariables false

theorem own : ownKnob Tryd.prog.godebug = none := by kernel_rfl
theorem laidOut : laidOutB Tryd.prog = true := by kernel_rfl

theorem gTab : Tryd.prog.globalNamed "internal/strconv.uint64pow10" = some 1 := by kernel_rfl
theorem gTabType : (Tryd.prog.globals[1]?).map (·.type) = some 136 := by kernel_rfl
theorem cellsT : Tryd.prog.cellsOf 136 = 20 := by kernel_rfl
theorem cellsE : Tryd.prog.cellsOf 31 = 1 := by kernel_rfl
theorem tab_data {H : Type} : (Rows.laid_internal_strconv_uint64pow10 : DataW H) = Lib.tabData .u64 Lib.pow10Tab := by rfl
theorem tab_vars {W : World} {rest : List (String × DataW Unit)} {ps : List MemPlace} (h : DataW.LaidVars Tryd.prog W (("internal/strconv.uint64pow10", Lib.tabData .u64 Lib.pow10Tab) :: rest) ps) : Lib.TabIs Tryd.prog W "internal/strconv.uint64pow10" .u64 Lib.pow10Tab := by
 obtain ⟨g', t', cs, fuel, p, q, hg', ht', hvar, hd, _, _⟩ := h
 obtain rfl := Option.some.inj (gTab.symm.trans hg')
 obtain rfl := Option.some.inj (gTabType.symm.trans ht')
 unfold Lib.TabIs
 rw [hvar, ← Lib.cells_of_tab Tryd.underlying136 Tryd.underlying31 cellsE cellsT hd]
theorem powT {W : World} (h : Lib.TabIs Tryd.prog W "internal/strconv.uint64pow10" .u64 Lib.pow10Tab) : ∀ w', Below W.heap.size W w' → PowT w' := by
 intro w' hb
 have hv : W.var? Tryd.prog "internal/strconv.uint64pow10" = some (Lib.pow10Tab.map fun z => Value.int .u64 z).toArray := h
 show w'.var? Tryd.prog "internal/strconv.uint64pow10" = some (Lib.pow10Tab.map fun z => Value.int .u64 z).toArray
 simp only [World.var?, gTab, Option.bind_some] at hv ⊢
 have hlt : 1 < W.heap.size := by
  rcases Nat.lt_or_ge 1 W.heap.size with h1 | h1
  ·
   exact h1
  ·
   simp [Array.getElem?_eq_none h1] at hv
 rw [hb.block 1 hlt]
 exact hv
theorem gSig : Tryd.prog.globalNamed "gatewright/parse.signs" = some 0 := by kernel_rfl
theorem gSigType : (Tryd.prog.globals[0]?).map (·.type) = some 95 := by kernel_rfl
theorem cellsSS : Tryd.prog.cellsOf 9 = 1 := by kernel_rfl
theorem sig_data {H : Type} : ∀ k, k ≤ 22 → ∃ l : List (DataW H), (Rows.laid_gatewright_parse_signs : DataW H) = .agg l ∧ l[k]? = some (.lit (.string (sgnL k))) := by
 intro k hk
 refine ⟨_, rfl, ?_⟩
 match k, hk with
 | 0, _ => rfl
 | 1, _ => rfl
 | 2, _ => rfl
 | 3, _ => rfl
 | 4, _ => rfl
 | 5, _ => rfl
 | 6, _ => rfl
 | 7, _ => rfl
 | 8, _ => rfl
 | 9, _ => rfl
 | 10, _ => rfl
 | 11, _ => rfl
 | 12, _ => rfl
 | 13, _ => rfl
 | 14, _ => rfl
 | 15, _ => rfl
 | 16, _ => rfl
 | 17, _ => rfl
 | 18, _ => rfl
 | 19, _ => rfl
 | 20, _ => rfl
 | 21, _ => rfl
 | 22, _ => rfl
 | k + 23, h => omega
theorem sig_vars {W : World} {rest : List (String × DataW Unit)} {ps : List MemPlace} (h : DataW.LaidVars Tryd.prog W (("gatewright/parse.signs", Rows.laid_gatewright_parse_signs) :: rest) ps) : ∀ k, k ≤ 22 → W.cell? ⟨0, k, none⟩ = some (.string (bstr (sgnL k))) := by
 obtain ⟨g', t', cs, fuel, p, q, hg', ht', hvar, hd, _, _⟩ := h
 obtain rfl := Option.some.inj (gSig.symm.trans hg')
 obtain rfl := Option.some.inj (gSigType.symm.trans ht')
 intro k hk
 obtain ⟨xs, m, _, he, hlen, hxl, hf⟩ := DataW.trod_array Tryd.underlying95 hd
 have hk2 := hf k (by omega)
 rw [cellsSS] at hk2
 obtain ⟨l, hl, hlk⟩ := sig_data (H := Unit) k hk
 rw [hl] at he
 have he1 := congrArg Prod.fst he
 simp only [DataW.agg.injEq] at he1
 rw [he1, List.getElem?_map] at hlk
 obtain ⟨y, hy, hy1⟩ := Option.map_eq_some_iff.1 hlk
 rw [hy] at hk2
 obtain ⟨s, hs, hx, _⟩ := DataW.trod_string Tryd.underlying9 hk2
 rw [hx] at hy1
 simp only [DataW.lit.injEq, Lit.string.injEq] at hy1
 have hc : cs.toList[k]? = some (.string s) := by
  have := congrArg (·[0]?) hs
  simpa [List.getElem?_take, List.getElem?_drop] using this
 rw [World.var?_cell gSig hvar k, ← Array.getElem?_toList, hc, ← hy1, bstr_of]
theorem table {W : World} (h : laidMetH Tryd.prog Rows.parsePrintsRow.laid W) : Tabs W.heap.size W := by
 obtain ⟨ps, hL, _⟩ : laidMet Tryd.prog Rows.parsePrintsRow.laid W := h
 obtain ⟨_, _, _, _, _, q0, _, _, _, _, h0, _⟩ := hL
 obtain ⟨_, _, _, _, _, q1, _, _, _, _, h1, _⟩ := h0
 have ht := powT (tab_vars h1)
 obtain ⟨_, _, _, _, _, q2, _, _, _, _, h2, _⟩ := h1
 have hsg := sig_vars h2
 have h0 := World.block_lt_of_cell? W _ (hsg 0 (by omega))
 exact ⟨h0, hsg, ht⟩

noncomputable def dataLaid : List (String × DataW Unit) := Rows.parsePrintsRow.laid
noncomputable def laidWorld (os : Os) : World := (World.holding Tryd.prog os ⟨#[], #[], []⟩).layVars Tryd.prog dataLaid
theorem laid_met (os : Os) : laidMet Tryd.prog Rows.parsePrintsRow.laid ((laidWorld os).forCall (fun _ _ => 0) ⟨#[], #[.string ⟨#[]⟩], []⟩).memory := by
 have e1 : (dataLaid.filter fun x => (dataLaid.map (·.1)).contains x.1) = dataLaid := List.filter_eq_self.2 fun x hx => List.contains_iff_mem.2 (List.mem_map.2 ⟨x, hx, rfl⟩)
 have e2 : (dataLaid.filter fun x => !(dataLaid.map (·.1)).contains x.1) = [] := List.filter_eq_nil_iff.2 fun x hx => by rw [List.contains_iff_mem.2 (List.mem_map.2 ⟨x, hx, rfl⟩)]; simp
 have h : laidMet Tryd.prog dataLaid (laidWorld os) := laidMet_layVars (w0 := (World.holding Tryd.prog os ⟨#[], #[], []⟩)) (dataLaid.map (·.1)) [] (by rw [e1]; rfl) (by rw [e1]; kernel_rfl) (by rw [e1]; kernel_rfl) (by rw [e2]; exact LaidIn.none)
 exact h.of_heap (by simp [World.memory, World.forCall, Input.heap])
theorem reads (os : Os) {H : Type} (enc : TypeId × Value → H) : ∃ places, DataW.whole enc Tryd.prog ((laidWorld os).forCall (fun _ _ => 0) ⟨#[], #[.string ⟨#[]⟩], []⟩).memory Tryd.f3.params.toList Rows.parsePrintsSpec.vars false (#[.string ⟨#[]⟩] : Array Value).toList 8 = some ([.lit (.string [])], [], places) := ⟨[], by kernel_rfl⟩

set_option maxRecDepth 100000 in
theorem lifted (os : Os) (started : os.Started) (H : Type) (enc : TypeId × Value → H) (FF : Stop.Interp) :
  ReturnsInHanded {} Tryd.checked os 3 .any ((OpenSpec.ofChange Rows.parsePrintsSpec).preRow enc Tryd.prog Tryd.f3 Rows.parsePrintsRow.domain false Rows.parsePrintsRow.laid) (((OpenSpec.ofChange Rows.parsePrintsSpec).at FF).post enc Tryd.prog Tryd.f3 false true false false) := by
 obtain ⟨places, hx⟩ := reads os enc
 refine returnsInHanded_of_row (C := Tryd.checked) (s := OpenSpec.ofChange Rows.parsePrintsSpec) own started (by kernel_rfl) Tryd.func3
  (witness_row_at (enc := enc) (C := Tryd.checked) false (laidWorld os) #[.string ⟨#[]⟩] (World.layVars_os _ _ _) (by kernel_rfl) (by kernel_rfl) (by kernel_rfl)
   (OpenSpec.preRow_of_cond 8 hx (by kernel_rfl) (fun k hk => by cases hk) (by kernel_rfl) (laid_met os))) ?_
 intro W base args ds gs before hval0 hW hcnd hcond hsz hL _ _
 have hval : ∀ (j : Nat) t v, Tryd.f3.params[j]? = some t → args[j]? = some v → Value.okWide Tryd.prog W .any base t v := hval0
 have HTB := table hL
 have hW' := hW
 obtain ⟨p, q, hA0, hV, rfl, hfz, hnd⟩ := hW
 have hA : DataW.TrodAll enc Tryd.prog W 0 (fun _ => true) true Tryd.f3.params.toList args.toList ds p := hA0
 rw [Tryd.params3] at hA hval hsz
 obtain ⟨v0, vs0, d0, ds0, p0, q0, hargs, rfl, rfl, h0, r0⟩ := trodAll_cons hA
 obtain ⟨rfl, rfl, rfl⟩ := trodAll_nil r0
 obtain rfl : args = #[v0] := by cases args; simp_all
 obtain ⟨rfl, rfl⟩ := trodVars_none hV
 have k0 := h0
 have lt0 : ∀ x ∈ p0, x.block < W.heap.size := by obtain ⟨m, hm⟩ := k0; exact DataW.trod_lt m _ _ _ hm
 have good0 : Good (Rows.uptoBulk d0) enc Tryd.prog W 9 v0.cells.toList := by
  obtain ⟨fuel, hf⟩ := h0
  exact ⟨fuel, d0, p0, hf, fun x hx => by simpa using List.all_eq_true.1 hsz x (DataW.weights_mem_each (j := 0) rfl rfl x hx), Nat.le_refl _⟩
 obtain ⟨s0, rfl, rfl, rfl, hs0⟩ := Go.ChangeMaps.open_string Tryd.underlying9 (hval 0 _ v0 rfl rfl) h0
 unfold maxLen at hs0
 clear hA0 hval0
 refine (parsePrints_walk s0 W (by omega) HTB).mono fun e W' ⟨he, bel⟩ => ?_
 subst he
 exact ⟨_, rfl, _, _, _, [], _, [], hW', trodAll_mk1 (shut_bool Tryd.underlying4 _), (trodAll_cons_mk (Below.trod laidOut (by kernel_rfl) (of_decide_eq_true (by kernel_rfl)) k0 bel lt0) trodAll_mk0), rfl, bel.frame _, fun h => by cases h⟩

theorem over : Rows.parsePrintsRow.holds Tryd.pinned (OpenSpec.ofChange Rows.parsePrintsSpec) :=
 OpenClaim.holds_of_cond 3 Tryd.f3 rfl rfl rfl rfl rfl rfl rfl ⟨rfl, rfl, rfl, rfl, rfl⟩ rfl rfl rfl rfl rfl (by kernel_rfl) Tryd.func3 (by kernel_rfl)
  (of_decide_eq_true (by kernel_rfl)) (by unfold Func.isWrapper; first | (rw [if_pos (by decide +kernel)]; kernel_rfl) | (rw [if_neg (by decide +kernel)]; exact ⟨rfl, rfl⟩))
  (fun os started H enc _ FF => by rw [OpenClaim.pre_eq_preRow]; exact lifted os started H enc FF)

theorem plain (f : FuncId) (fn : Func) (hf : Tryd.pinned.checked.prog.funcNamed "gatewright/gatewrightlaw.ParsePrints" = some f) (hfn : Tryd.pinned.checked.prog.funcs[f]? = some fn) :
  false = Tryd.pinned.checked.prog.looks [] ∧ ∀ (j : Nat) t, fn.params[j]? = some t → Tryd.pinned.checked.prog.wantsStandIn t = false := by
 obtain rfl : f = 3 := Option.some.inj ((show Tryd.prog.funcNamed "gatewright/gatewrightlaw.ParsePrints" = some 3 by kernel_rfl).symm.trans hf) |>.symm
 obtain rfl : fn = Tryd.f3 := (Option.some.inj (Tryd.func3.symm.trans hfn)).symm
 refine ⟨by kernel_rfl, fun j t ht => ?_⟩
 rw [Tryd.params3] at ht
 have hm : t ∈ [9] := by simpa using Array.mem_of_getElem? ht
 simp only [List.mem_cons, List.not_mem_nil, or_false] at hm
 subst hm
 exact (show Tryd.prog.wantsStandIn 9 = false by kernel_rfl)

theorem proved : Rows.ParsePrintsCardSaid :=
 Claim7.holds_tied_plain_at .later [] _ _ _ _ over (fun _ h => by cases h) (by kernel_rfl) (fun _ h => by cases h) parsePrints_row_tie rfl ⟨rfl, rfl⟩ (by kernel_rfl) rfl plain (by kernel_rfl)
end Go.Proofs.YtbdcpealkllfnaaDoor.parsePrints
