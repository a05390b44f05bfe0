/- word.shapes, walked: a new map of 22 kinds; what stands in it. No condition. -/
import Derived.Test.YtmbcfondglhiiaaNetFit
import Derived.Maps.OwnSet
namespace Go.Proofs.Ytmbcfondglhiiaa
open Go.RowKit Go.Maps

/-- how a shape reads: how many arguments, which function -/
def shapeElem : Value → Option (DataW Unit × List MemPlace)
  | .agg ⟨[.int .i64 a, .func (.func f) ⟨[]⟩ ⟨[]⟩]⟩ => some (.agg [.lit (.int .i64 a), .lit (.int .i64 f)], [])
  | .agg ⟨[.int .i64 a, .nilFunc]⟩ => some (.agg [.lit (.int .i64 a)], [])
  | _ => none
theorem shapeElem_inv {v : Value} {a : Int} {f : Nat} {ps : List MemPlace} (h : shapeElem v = some (.agg [.lit (.int .i64 a), .lit (.int .i64 f)], ps)) : v = .agg #[.int .i64 a, .func (.func f) #[] #[]] := by
  unfold shapeElem at h
  split at h
  · simp only [Option.some.injEq, Prod.mk.injEq, DataW.agg.injEq, List.cons.injEq, DataW.lit.injEq, Lit.int.injEq, true_and, and_true] at h
    obtain ⟨⟨rfl, h2⟩, _⟩ := h
    obtain rfl := Int.ofNat.inj h2
    rfl
  · simp at h
  · simp at h
theorem shapeElem_nil {v : Value} {ps : List MemPlace} (h : shapeElem v = some (.agg [.lit (.int .i64 0)], ps)) : v = .agg #[.int .i64 0, .nilFunc] := by
  unfold shapeElem at h
  split at h
  · simp at h
  · simp only [Option.some.injEq, Prod.mk.injEq, DataW.agg.injEq, List.cons.injEq, DataW.lit.injEq, Lit.int.injEq, true_and, and_true] at h
    obtain ⟨rfl, _⟩ := h
    rfl
  · simp at h
theorem zeroShape (w : World) : (zeroValue 52).run Try.prog w = .ok (.agg #[.int .i64 0, .nilFunc]) w := by kernel_rfl

def shEnc (a : Int) (f : Nat) : DataW Unit := .agg [.lit (.int .i64 a), .lit (.int .i64 f)]
def shMap : List (Int × Int × Nat) → DataW Unit
  | [] => .map []
  | x :: r => (shMap r).put (.int .i64 x.1) (shEnc x.2.1 x.2.2)
theorem shMap_map : ∀ l, Maps.IsMap (shMap l)
  | [] => Maps.isMap_empty
  | _ :: r => (shMap_map r).put _ _
theorem shMap_has (K : Int) : ∀ l, Maps.has (shMap l) (.int .i64 K) = (l.find? (fun x => x.1 == K)).isSome
  | [] => rfl
  | x :: r => by
    simp only [shMap, List.find?_cons]
    by_cases e : x.1 = K
    · subst e; simp [Maps.has_put_same (shMap_map r) (k := .int .i64 x.1) trivial]
    · rw [Maps.has_put_other (fun h => e (by simpa using h.symm)), shMap_has K r]
      have e2 : (x.1 == K) = false := by simpa using e
      rw [e2]
theorem shMap_at (K : Int) (z : DataW Unit) : ∀ l, (shMap l).atKey (.int .i64 K) z = match l.find? (fun x => x.1 == K) with | some x => shEnc x.2.1 x.2.2 | none => z
  | [] => rfl
  | x :: r => by
    simp only [shMap, List.find?_cons]
    by_cases e : x.1 = K
    · subst e; simp [Maps.atKey_put_same (shMap_map r) (k := .int .i64 x.1) trivial]
    · rw [Maps.atKey_put_other (fun h => e (by simpa using h.symm)), shMap_at K z r]
      have e2 : (x.1 == K) = false := by simpa using e
      rw [e2]
/-- the table, the last entry first -/
def shTab : List (Int × Int × Nat) := [
  (7, -1, 34), (22, 3, 33), (21, 2, 32), (20, 2, 31), (19, 2, 30), (18, 2, 29),
  (17, 2, 27), (16, 2, 27), (15, 2, 27), (14, 2, 27), (13, 2, 27), (12, 2, 27),
  (11, 1, 28), (10, 1, 28), (9, 1, 28), (8, 1, 27), (5, 1, 26), (6, 1, 25), (32, 1, 25),
  (31, 0, 25), (30, 0, 25), (1, 0, 24)]

/-- a shapes' map under way -/
structure ShAt (w0 wr : World) (b : Nat) (l : List (Int × Int × Nat)) : Prop where
  own : wr.ownsMap Try.prog 3 shapeElem b l.length (shMap l)
  bel : Below w0.heap.size w0 wr
  lo : w0.heap.size ≤ b
theorem wp_insert {P : Program} {w0 w : World} {ops : Array Oper} {rest : List Oper} {o : Oper} {a : Act} {Q : Exit → Act → World → Prop} (hP : P = Try.prog) (hg : o.guard = none) (m x v : Operand) (hop : o.op = Op.insert 54 m x v) (b : Nat) (l : List (Int × Int × Nat)) (h : ShAt w0 w b l) (hl : l.length ≤ 1000)
    (hm : a.eval m = .map (some b)) (k n : Int) (f : Nat) (hx : a.eval x = .int .i64 k) (hv : a.eval v = .agg #[.int .i64 n, .func (.func f) #[] #[]]) (hw : (Lit.int .i64 k).wf = true)
    (hK : ∀ w', ShAt w0 w' b ((k, n, f) :: l) → wpList P ops Q rest (a.put o.dst undef) w') : wpList P ops Q (o :: rest) a w := by
  subst hP
  refine wpList_plain hg fun K' hK' => ?_
  obtain ⟨w', hrun, r1, r2⟩ := h.own.update (int_keyed Try.underlying3) Try.underlying54 (by unfold maxLen; omega) (keyOf_int_mk Try.underlying3 hw) (show shapeElem (.agg #[.int .i64 n, .func (.func f) #[] #[]]) = some (shEnc n f, []) from rfl)
  unfold Oper.wp
  simp [execOp, hop, hm, hx, hv, hrun, Result.andThen]
  exact hK' _ _ (hK w' ⟨r1, h.bel.trans ⟨r2.os, r2.tape, r2.output, r2.size, fun i hi => r2.block i (by have := h.bel.size; omega) (fun e => by injection e with e; have := h.lo; omega)⟩, h.lo⟩)

set_option maxHeartbeats 4000000 in
theorem shapes_any (w : World) : Calls Try.prog 19 #[] w fun e w' => ∃ b, e = .returned (.map (some b)) ∧ ShAt w w' b shTab := by
  have hmm := @run_makeMap Try.prog
  have H : ShAt w (w.alloc (.map #[] 0)) w.heap.size [] := ⟨World.ownsMap_made w Try.prog 3 shapeElem, (Below.refl _ _).alloc (Nat.le_refl _) _, Nat.le_refl _⟩
  go_enter Try.func19, Try.ntmps19
  go_wp2_with (refine wp_insert rfl rfl _ _ _ rfl _ _ (by assumption) (by decide) rfl _ _ _ rfl rfl (by decide) ?_; intro w1 H1)
  go_ret
  exact ⟨w.heap.size, rfl, H1⟩

/-- what the table says of a kind -/
theorem shTab_of (K : Int) : (wantN K = -2 ∧ shTab.find? (fun x => x.1 == K) = none) ∨ ∃ f, wantN K ≠ -2 ∧ shTab.find? (fun x => x.1 == K) = some (K, wantN K, f) := by
  by_cases h : wantN K = -2
  · left
    refine ⟨h, ?_⟩
    have hs : ∀ x ∈ shTab, wantN x.1 ≠ -2 := by decide
    rw [List.find?_eq_none]
    intro x hx e
    have : x.1 = K := by simpa using e
    exact hs x hx (this ▸ h)
  · right
    have hs : ∀ x ∈ shTab, x.2.1 = wantN x.1 := by decide
    have hc : ∃ x ∈ shTab, x.1 = K := by
      unfold wantN at h
      simp only [shTab, List.mem_cons, List.not_mem_nil, or_false, exists_eq_or_imp, exists_eq_left]
      repeat' split at h
      all_goals first | (exact absurd rfl h) | omega
    obtain ⟨x, hx, hK⟩ := hc
    obtain ⟨y, hy⟩ : ∃ y, shTab.find? (fun x => x.1 == K) = some y := by
      cases e : shTab.find? (fun x => x.1 == K) with
      | none => rw [List.find?_eq_none] at e; exact absurd (by simpa using hK) (e x hx)
      | some y => exact ⟨y, rfl⟩
    have h1 : y.1 = K := by simpa using List.find?_some hy
    have h2 := hs y (List.mem_of_find?_eq_some hy)
    refine ⟨y.2.2, h, ?_⟩
    rw [hy, ← h1, ← h2]
/-- a shapes' map -/
def ShOwn (w : World) (b : Nat) : Prop := w.ownsMap Try.prog 3 shapeElem b shTab.length (shMap shTab)
theorem Sh.only {S : Nat → Prop} {w w1 : World} {b : Nat} (h : ShOwn w b) (k : Only S w w1) (hs : ¬ S b) : ShOwn w1 b := by
  have hl := World.ownsMap.lt h
  obtain ⟨es, clock, hb, r⟩ := h
  exact ⟨es, clock, (k.block b hl hs).trans hb, r⟩
theorem look_none {w : World} {b : Nat} (h : ShOwn w b) {K : Int} (hw : (Lit.int .i64 K).wf = true) (hk : wantN K = -2) (W : World) (hW : W.heap = w.heap) :
    (Instr.lookup 54 (.map (some b)) (.int .i64 K) true).run Try.prog W = .ok (.tuple #[.agg #[.int .i64 0, .nilFunc], .bool false]) W := by
  have hW' : W.ownsMap Try.prog 3 shapeElem b shTab.length (shMap shTab) := by unfold ShOwn World.ownsMap at *; rw [hW]; exact h
  obtain ⟨v, ps, hrun, hv⟩ := hW'.look_ok (int_keyed Try.underlying3) Try.underlying54 (zeroShape W) (show shapeElem (.agg #[.int .i64 0, .nilFunc]) = some (.agg [.lit (.int .i64 0)], []) from rfl) (keyOf_int_mk Try.underlying3 hw)
  have hf : shTab.find? (fun x => x.1 == K) = none := by
    rcases shTab_of K with h | ⟨f, h, _⟩
    · exact h.2
    · exact absurd hk h
  rw [shMap_has, hf] at hrun
  rw [shMap_at, hf] at hv
  obtain rfl := shapeElem_nil hv
  exact hrun
theorem look_some {w : World} {b : Nat} (h : ShOwn w b) {K : Int} (hw : (Lit.int .i64 K).wf = true) {f : Nat} (hf : shTab.find? (fun x => x.1 == K) = some (K, wantN K, f)) (W : World) (hW : W.heap = w.heap) :
    (Instr.lookup 54 (.map (some b)) (.int .i64 K) true).run Try.prog W = .ok (.tuple #[.agg #[.int .i64 (wantN K), .func (.func f) #[] #[]], .bool true]) W := by
  have hW' : W.ownsMap Try.prog 3 shapeElem b shTab.length (shMap shTab) := by unfold ShOwn World.ownsMap at *; rw [hW]; exact h
  obtain ⟨v, ps, hrun, hv⟩ := hW'.look_ok (int_keyed Try.underlying3) Try.underlying54 (zeroShape W) (show shapeElem (.agg #[.int .i64 0, .nilFunc]) = some (.agg [.lit (.int .i64 0)], []) from rfl) (keyOf_int_mk Try.underlying3 hw)
  rw [shMap_has, hf] at hrun
  rw [shMap_at, hf] at hv
  obtain rfl := shapeElem_inv hv
  exact hrun

theorem tab_call {K n : Int} {f : Nat} (hf : shTab.find? (fun x => x.1 == K) = some (K, n, f)) (args : Array Value) (w : World) : (callFunc f args).run Try.prog w = .ok (.enter f args) w := by
  have hm := List.mem_of_find?_eq_some hf
  simp only [shTab, List.mem_cons, List.not_mem_nil, or_false, Prod.mk.injEq] at hm
  have hfs : f = 34 ∨ f = 33 ∨ f = 32 ∨ f = 31 ∨ f = 30 ∨ f = 29 ∨ f = 27 ∨ f = 28 ∨ f = 26 ∨ f = 25 ∨ f = 24 := by omega
  rcases hfs with rfl | rfl | rfl | rfl | rfl | rfl | rfl | rfl | rfl | rfl | rfl
  all_goals rfl

/-- the table's function tells what the reference's fits tells -/
theorem shape_fit (K W U : Int) (An Aw : Option Addr) (al can n cw : Nat) (V : Nat → Int) (w : World) (h : Row1 w Aw n (fun k => .int .i64 (V k))) (hn : n ≤ 1000000000000000) (hk : KindN K n) (hw : wideB W = true) (hu : 0 ≤ U ∧ U ≤ 18446744073709551615) {f : Nat} (hf : shTab.find? (fun x => x.1 == K) = some (K, wantN K, f)) :
    Calls Try.prog f #[.agg #[.int .i64 K, .int .i64 W, .int .u64 U, .slice An al can], .slice Aw n cw] w fun e w' => e = .returned (.bool (fitB K W U V n)) ∧ Below w.heap.size w w' := by
  rcases hk.all with ⟨rfl, rfl⟩ | ⟨rfl, rfl⟩ | ⟨rfl, rfl⟩ | ⟨rfl, _⟩ | ⟨rfl, rfl⟩ | ⟨rfl, rfl⟩ | ⟨rfl, rfl⟩ | ⟨rfl, rfl⟩ | ⟨rfl, rfl⟩ | ⟨rfl, rfl⟩ | ⟨rfl, rfl⟩ | ⟨rfl, rfl⟩ | ⟨rfl, rfl⟩ | ⟨rfl, rfl⟩ | ⟨rfl, rfl⟩ | ⟨rfl, rfl⟩ | ⟨rfl, rfl⟩ | ⟨rfl, rfl⟩ | ⟨rfl, rfl⟩
  all_goals (injection hf with hf; injection hf with _ hf; injection hf with _ hf; subst hf)
  · exact num_any 1 W U An Aw al can _ cw V w hw hu h
  · exact slice_any 5 W U An Aw al can cw V w h
  · exact any_any 6 W U An Aw al can _ cw V w h
  · exact cat_any 7 W U An Aw al can n cw V w hn h
  · exact same1_any 8 W U An Aw al can cw V w h
  · exact one_any 9 W U An Aw al can _ cw V w h
  · exact one_any 10 W U An Aw al can _ cw V w h
  · exact one_any 11 W U An Aw al can _ cw V w h
  · exact same2_any 12 W U An Aw al can cw V w h
  · exact same2_any 13 W U An Aw al can cw V w h
  · exact same2_any 14 W U An Aw al can cw V w h
  · exact same2_any 15 W U An Aw al can cw V w h
  · exact same2_any 16 W U An Aw al can cw V w h
  · exact same2_any 17 W U An Aw al can cw V w h
  · exact shl_any 18 W U An Aw al can cw V w h
  · exact shr_any 19 W U An Aw al can cw V w h
  · exact eq_any 20 W U An Aw al can cw V w h
  · exact lt_any 21 W U An Aw al can cw V w h
  · exact if_any 22 W U An Aw al can cw V w h
end Go.Proofs.Ytmbcfondglhiiaa
