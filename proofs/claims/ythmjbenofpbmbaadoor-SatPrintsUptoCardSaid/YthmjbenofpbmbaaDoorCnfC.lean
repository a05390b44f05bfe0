/- Formulas as they lie in memory, how an argument is opened to them, and the reference's CnfValid, walked. Conditions: the formula lies in memory and is of the given bulk. -/
import Derived.Test.YthmjbenofpbmbaaDoorBase
import Derived.Test.YthmjbenofpbmbaaDoorDrawn2
import Derived.Deep.QuietTactic
import Derived.BigQuiet
import Derived.Deep.DeepCutAuto
namespace Go.Proofs.YthmjbenofpbmbaaDoor
open Go.RowKit

/-- a clause is one of this many variables -/
def LitsOk (vars : Int) (c : List Int) : Prop := ∀ l, l ∈ c → l ≠ 0 ∧ -vars ≤ l ∧ l ≤ vars
def ClRow (w : World) (A : Option Addr) (c : List Int) : Prop := Row1 w A c.length (fun j => .int .i64 (c.getD j 0))
theorem getD_mem {c : List Int} {k : Nat} (h : k < c.length) : c.getD k 0 ∈ c := by
  rw [List.getD_eq_getElem?_getD, List.getElem?_eq_getElem h]; exact List.getElem_mem h
theorem mem_getD {c : List Int} {x : Int} (h : x ∈ c) : ∃ k, k < c.length ∧ c.getD k 0 = x := by
  obtain ⟨k, hk, e⟩ := List.mem_iff_getElem.1 h
  exact ⟨k, hk, by rw [List.getD_eq_getElem?_getD, List.getElem?_eq_getElem hk]; exact e⟩
def LitOk1 (vars x : Int) : Prop := x ≠ 0 ∧ -vars ≤ x ∧ x ≤ vars
theorem litsOk_iff {vars : Int} {c : List Int} : LitsOk vars c ↔ ∀ k, k < c.length → LitOk1 vars (c.getD k 0) :=
  ⟨fun h k hk => h _ (getD_mem hk), fun h x hx => by obtain ⟨k, hk, rfl⟩ := mem_getD hx; exact h k hk⟩
/-- a slice of clauses -/
structure MatC (w : World) (A : Option Addr) (cs : List (List Int)) (vs : List Value) : Prop where
  len : vs.length = cs.length
  row : Row1 w A cs.length (fun i => vs.getD i undef)
  cl : ∀ (i : Nat) (v : Value) (l : List Int), vs[i]? = some v → cs[i]? = some l → ∃ (A' : Option Addr) (d : Nat), v = .slice A' l.length d ∧ ClRow w A' l
theorem MatC.keeps {w w1 : World} {A : Option Addr} {cs : List (List Int)} {vs : List Value} (h : MatC w A cs vs) (k : Keeps w w1) : MatC w1 A cs vs :=
  ⟨h.len, h.row.keeps k, fun i v l h1 h2 => let ⟨A', d, e, h3⟩ := h.cl i v l h1 h2; ⟨A', d, e, h3.keeps k⟩⟩
/-- clause k, ready for the walk -/
theorem MatC.at_ {w : World} {A : Option Addr} {cs : List (List Int)} {vs : List Value} (h : MatC w A cs vs) {k : Nat} (hk : k < cs.length) :
    ∃ (l : List Int) (A' : Option Addr) (d b o : Nat), cs[k]? = some l ∧ vs[k]? = some (.slice A' l.length d) ∧ A = some ⟨b, o, none⟩ ∧ w.cell? ⟨b, o + k, none⟩ = some (.slice A' l.length d) ∧ ClRow w A' l := by
  have hv : k < vs.length := by rw [h.len]; exact hk
  have e1 : cs[k]? = some cs[k] := List.getElem?_eq_getElem hk
  have e2 : vs[k]? = some vs[k] := List.getElem?_eq_getElem hv
  obtain ⟨A', d, e, h3⟩ := h.cl k _ _ e2 e1
  obtain ⟨b, o, eA, hc⟩ := h.row.at_ hk
  refine ⟨cs[k], A', d, b, o, e1, by rw [e2, e], eA, ?_, h3⟩
  rw [hc, List.getD_eq_getElem?_getD, e2, e]; rfl
def tot (cs : List (List Int)) : Nat := (cs.map List.length).sum
theorem tot_app (a b : List (List Int)) : tot (a ++ b) = tot a + tot b := by simp [tot]
theorem take_next {α : Type} {l : List α} {k : Nat} {x : α} (h : l[k]? = some x) : l.take (k + 1) = l.take k ++ [x] := by
  obtain ⟨hk, e⟩ := List.getElem?_eq_some_iff.1 h
  rw [List.take_succ_eq_append_getElem hk, e]
theorem tot_take {cs : List (List Int)} {k : Nat} {l : List Int} (h : cs[k]? = some l) : tot (cs.take k) + l.length ≤ tot cs := by
  have e : cs = cs.take (k + 1) ++ cs.drop (k + 1) := (List.take_append_drop _ _).symm
  rw [take_next h] at e
  have e2 := congrArg tot e
  rw [tot_app, tot_app] at e2
  have : tot [l] = l.length := by simp [tot]
  omega
theorem tot_mem {cs : List (List Int)} {l : List Int} (h : l ∈ cs) : l.length ≤ tot cs := by
  obtain ⟨k, hk, e⟩ := List.mem_iff_getElem.1 h
  have := tot_take (cs := cs) (k := k) (l := l) (by rw [List.getElem?_eq_getElem hk, e])
  omega
theorem tot_le {cs : List (List Int)} {k : Nat} : tot (cs.take k) ≤ tot cs := by
  have e2 := congrArg tot (List.take_append_drop k cs)
  rw [tot_app] at e2
  omega
set_option maxHeartbeats 1000000 in
theorem fmd_any (A : Option Addr) (d : Nat) (c : List Int) (vars : Int) (w : World) (hc : ClRow w A c) (hn : c.length ≤ 1000000000000000) (h0 : 0 ≤ vars) (h1 : vars ≤ 100000) :
    Calls Tryd.prog 15 #[.slice A c.length d, .int .i64 vars] w fun e w' => e = .returned (.bool (tf (LitsOk vars c))) ∧ w' = w := by
  have HIF : Hid (LitsOk vars c ↔ ∀ k, k < c.length → LitOk1 vars (c.getD k 0)) := Lib.hid litsOk_iff
  go_enter Tryd.func15, Tryd.ntmps15
  go_wp2
  go_loop [5] (fun ix => ∃ k : Nat, k ≤ c.length ∧ ix = .int .i64 k ∧ Hid (∀ j, j < k → LitOk1 vars (c.getD j 0))) (fun ix => c.length - (intOf ix).toNat)
  case atStart => exact ⟨0, by omega, rfl, Lib.hid (fun j hj => by omega)⟩
  case round =>
    obtain ⟨k, hk, rfl, HK⟩ := hrel
    by_cases hlt : k < c.length
    · have hki : (k : Int) < c.length := by omega
      obtain ⟨b, o, hA, x0⟩ := hc.at_ hlt
      have HNO : Hid (¬ LitOk1 vars (c.getD k 0) → tf (LitsOk vars c) = false) := Lib.hid (fun h => tf_no (fun hl => h (HIF.out.1 hl k hlt)))
      have HYE : Hid (LitOk1 vars (c.getD k 0) → ∀ j, j < k + 1 → LitOk1 vars (c.getD j 0)) := Lib.hid (fun h j hj => by
        by_cases e : j < k
        · exact HK.out j e
        · obtain rfl : j = k := by omega
          exact h)
      generalize c.getD k 0 = x at *
      subst hA
      by_cases hz : x = 0
      · have HF := Lib.hid (HNO.out (fun h => h.1 hz))
        subst hz
        go_wp2
        go_ret
        exact ⟨ret_bool HF.out.symm, rfl⟩
      · have hz' : (x == 0) = false := by simpa using hz
        by_cases hg : vars < x
        · have HF := Lib.hid (HNO.out (fun h => by have := h.2.2; omega))
          go_wp2
          go_ret
          exact ⟨ret_bool HF.out.symm, rfl⟩
        · by_cases hs : x < -vars
          · have HF := Lib.hid (HNO.out (fun h => by have := h.2.1; omega))
            go_wp2
            go_ret
            exact ⟨ret_bool HF.out.symm, rfl⟩
          · have HN := Lib.hid (HYE.out ⟨hz, by omega, by omega⟩)
            go_wp2
            go_round
            case rel => exact ⟨k + 1, by omega, by go_num, HN⟩
            case measure => simp [intOf]; omega
    · obtain rfl : k = c.length := by omega
      have HT := Lib.hid (tf_yes (HIF.out.2 HK.out))
      go_wp2
      go_ret
      exact ⟨ret_bool HT.out.symm, rfl⟩
def CnfOk (vars : Int) (F : List (List Int)) : Prop := 0 ≤ vars ∧ vars ≤ 100000 ∧ ∀ c, c ∈ F → LitsOk vars c
theorem drawn_b (w : World) (q : Nat) : Below w.heap.size w (w.drewN q) := ⟨rfl, rfl, rfl, Nat.le_refl _, fun _ _ => rfl⟩
set_option maxHeartbeats 4000000 in
set_option maxRecDepth 100000 in
theorem cnfValid_any (vars : Int) (FA : Option Addr) (fc : Nat) (F : List (List Int)) (vf : List Value) (w : World) (hF : MatC w FA F vf) (b1 : F.length ≤ 1000000000) (b2 : ∀ c, c ∈ F → c.length ≤ 1000000000) :
    Calls Tryd.prog 7 #[.agg #[.int .i64 vars, .slice FA F.length fc]] w fun e w' => e = .returned (.bool (tf (CnfOk vars F))) ∧ Below w.heap.size w w' := by
  have HFM := Lib.hid hF; have HB2 := Lib.hid b2
  clear hF b2
  have hbl : Below w.heap.size w (w.alloc (.cells #[.int .i64 vars, .slice FA F.length fc] 24)) := (Below.refl _ _).alloc (Nat.le_refl _) _
  have HB0 := Lib.hid hbl; clear hbl
  by_cases c1 : vars < 0
  · have HT := Lib.hid (tf_no (fun h : CnfOk vars F => by have := h.1; omega))
    go_enter Tryd.func7, Tryd.ntmps7
    go_wp2_with fail
    go_ret
    exact ⟨ret_bool HT.out.symm, HB0.out⟩
  · by_cases c2 : 100000 < vars
    · have HT := Lib.hid (tf_no (fun h : CnfOk vars F => by have := h.2.1; omega))
      go_enter Tryd.func7, Tryd.ntmps7
      go_wp2_with fail
      go_ret
      exact ⟨ret_bool HT.out.symm, HB0.out⟩
    · have hv0 : 0 ≤ vars := by omega
      have hv1 : vars ≤ 100000 := by omega
      go_enter Tryd.func7, Tryd.ntmps7
      go_upto_region 3 with (fail)
      have qf := BoxAt.new w [.int .i64 vars, .slice FA F.length fc] 24
      generalize w.alloc (.cells #[.int .i64 vars, .slice FA F.length fc] 24) = w1 at *
      have HQF := Lib.hid qf; clear qf
      go_wp2_with fail
      go_loopw [3] (fun ix wi => ∃ k : Nat, k ≤ F.length ∧ ix = .int .i64 k ∧ Hid (Below w1.heap.size w1 wi ∧ ∀ (j : Nat) (c : List Int), j < k → F[j]? = some c → LitsOk vars c)) (fun ix _ => F.length - (intOf ix).toNat)
      case atStart => exact ⟨0, by omega, rfl, Lib.hid ⟨Below.refl _ _, fun j c hj => by omega⟩⟩
      case round =>
        obtain ⟨k, hk, rfl, HM⟩ := hrel
        have HBL := Lib.hid HM.out.1; have HLS := Lib.hid HM.out.2
        clear HM
        have hkp := Lib.hid (Keeps.of_below HBL.out)
        have p0 := (HQF.out.keeps hkp.out) 0 _ rfl
        have p1 := (HQF.out.keeps hkp.out) 1 _ rfl
        by_cases hlt : k < F.length
        · have hki : (k : Int) < F.length := by omega
          obtain ⟨l, A', d, ba, oa, hl1, _, hFA, x0, hclw⟩ := HFM.out.at_ hlt
          have hkp2 := (Keeps.of_below HB0.out).trans hkp.out
          replace x0 := hkp2 _ _ x0
          have HCW := Lib.hid (hclw.keeps hkp2)
          have HL1 := Lib.hid hl1
          have hln := HB2.out l (List.mem_of_getElem? hl1)
          rw [hFA] at p1
          clear hFA hclw hkp2 hl1
          obtain ⟨r, hr⟩ : ∃ r : Bool, r = tf (LitsOk vars l) := ⟨_, rfl⟩
          have HC : Hid (∀ W : World, ClRow W A' l → Calls Tryd.prog 15 #[.slice A' l.length d, .int .i64 vars] W fun e w' => e = .returned (.bool r) ∧ w' = W) := Lib.hid (fun W h => by rw [hr]; exact fmd_any A' d l vars W h (by omega) hv0 hv1)
          have HR := Lib.hid hr; clear hr
          go_wp2_with fail
          go_quiet ((go_at_call 15; exact Calls.quiet_of_same (HC.out _ HCW.out)))
          have HBD := Lib.hid (Below.then_call HBL.out (drawn_b wr nq) HBL.out.size)
          clear p0 p1 x0
          generalize wr.drewN nq = wd at *
          cases r with
          | true =>
            have hlo := tf_eq_true.1 HR.out.symm
            have HN : Hid (Below w1.heap.size w1 wd ∧ ∀ (j : Nat) (c : List Int), j < k + 1 → F[j]? = some c → LitsOk vars c) := Lib.hid ⟨HBD.out, fun j q hj hq => by
              by_cases e : j < k
              · exact HLS.out j q e hq
              · obtain rfl : j = k := by omega
                rw [HL1.out] at hq
                injection hq with hq
                subst hq
                exact hlo⟩
            clear hlo
            go_wp2_with fail
            go_roundw
            case rel => exact ⟨k + 1, by omega, by go_num, HN⟩
            case measure => simp [intOf]; omega
          | false =>
            have hlo := tf_eq_false.1 HR.out.symm
            have HT := Lib.hid (tf_no (fun h : CnfOk vars F => hlo (h.2.2 l (List.mem_of_getElem? HL1.out))))
            clear hlo
            go_wp2_with fail
            go_ret
            exact ⟨ret_bool HT.out.symm, HB0.out.trans (HBD.out.mono HB0.out.size)⟩
        · obtain rfl : k = F.length := by omega
          have HT := Lib.hid (tf_yes (⟨hv0, hv1, fun c hc => by
            obtain ⟨j, hj, e⟩ := List.mem_iff_getElem.1 hc
            exact HLS.out j c hj (by rw [List.getElem?_eq_getElem hj, e])⟩ : CnfOk vars F))
          go_wp2_with fail
          go_ret
          exact ⟨ret_bool HT.out.symm, HB0.out.trans (HBL.out.mono HB0.out.size)⟩
end Go.Proofs.YthmjbenofpbmbaaDoor
namespace Go.Proofs.YthmjbenofpbmbaaDoor
open Go.RowKit Go.ChangeShapes Go.WideShapes Go.Deep

section
variable {H : Type} {enc : TypeId × Value → H} {P : Program}
theorem bulkAll_sum : ∀ (l : List (DataW H)), Rows.uptoBulkAll l = (l.map Rows.uptoBulk).sum
  | [] => by simp [Rows.uptoBulkAll]
  | d :: l => by simp [Rows.uptoBulkAll, bulkAll_sum l]
/-- a slice, its elements' bulks summed -/
theorem good_slice_sum {N : Nat} {w : World} {t e : TypeId} {cs : List Value} (s : Nat) (hpos : 0 < s) (hs : P.cellsOf e = s) (ht : P.underlying t = some (.slice e)) (h : Good N enc P w t cs) :
    ∃ (A : Option Addr) (n c : Nat) (f : Nat → Nat → Value) (B : Nat → Nat), cs = [.slice A n c] ∧ n ≤ N ∧ RowS w s A n f ∧ (∀ k, k < n → Good (B k) enc P w e ((List.range s).map (f k))) ∧ ((List.range n).map B).sum ≤ N := by
  obtain ⟨fuel, d, p, h, hx, hbk⟩ := h
  rcases open_slice ht h with ⟨rfl, _⟩ | ⟨a, len, cap, m, n, D, Pl, rfl, _, hl, hcm, hm, he, hi⟩
  · exact ⟨none, 0, 0, fun _ _ => .bool true, fun _ => 0, rfl, by omega, fun h => absurd h (by omega), fun k hk => absurd hk (by omega), by simp⟩
  · simp only [if_true] at hm
    subst hm
    simp only [Prod.mk.injEq] at he
    obtain ⟨rfl, rfl⟩ := he
    rw [hs] at hi
    have hall : ∀ k, k < len → ∃ cs' : List Value, cs'.length = s ∧ (∀ j, j < s → w.cell? ((a.add (k * s)).add j) = cs'[j]?) ∧ DataW.trod enc P w 0 (fun _ => true) true n e cs' = some (D k, Pl k) := by
      intro k hk
      obtain ⟨cs', h1, h2⟩ := hi k (by omega)
      obtain ⟨_, hlen, hat⟩ := World.cells?_some h1
      exact ⟨cs', hlen, hat, h2⟩
    obtain ⟨F, hF⟩ := choose_lt (α := List Value) hall
    have hsum : ((List.range len).map fun k => Rows.uptoBulk (D k)).sum ≤ N := by
      simp only [Rows.uptoBulk, bulkAll_sum, List.map_map] at hbk
      have e1 : ((List.range len).map fun k => Rows.uptoBulk (D k)) = List.map (Rows.uptoBulk ∘ D) (List.range len) := rfl
      rw [e1]; omega
    refine ⟨some a, len, m, fun k j => (F k).getD j (.bool true), fun k => Rows.uptoBulk (D k), rfl, ?_, ?_, ?_, hsum⟩
    · have h1 := bulkAll_len (List.map D (List.range len))
      simp only [Rows.uptoBulk, List.length_map, List.length_range] at hbk h1
      omega
    · intro hn
      obtain ⟨b, off, spot⟩ := a
      obtain ⟨h1, h2, h3⟩ := hF 0 (by omega)
      · have hz : (F 0)[0]? = some ((F 0).getD 0 (.bool true)) := by
          rw [List.getD_eq_getElem?_getD, List.getElem?_eq_getElem (by omega)]; rfl
        have hc := h2 0 (by omega)
        rw [hz] at hc
        have hspot : spot = none := by simpa [Addr.add] using World.cell?_spot hc
        subst hspot
        refine ⟨b, off, rfl, fun k hk j hj => ?_⟩
        obtain ⟨h1, h2, _⟩ := hF k hk
        have := h2 j hj
        rw [add_eq, add_eq] at this
        rw [this, List.getElem?_eq_getElem (by omega)]
        show _ = some ((F k).getD j (.bool true))
        rw [List.getD_eq_getElem?_getD, List.getElem?_eq_getElem (by omega)]
        rfl
    · intro k hk
      obtain ⟨h1, _, h3⟩ := hF k hk
      have e1 : (List.range s).map (fun j => (F k).getD j (.bool true)) = F k := by
        apply List.ext_getElem?
        intro j
        by_cases hj : j < s
        · simp [hj, List.getElem?_eq_getElem (show j < (F k).length by omega)]
        · simp [hj, List.getElem?_eq_none (show (F k).length ≤ j by omega)]
      rw [e1]
      refine ⟨n, _, _, h3, fun x hxx => hx x ?_, Nat.le_refl _⟩
      simp only [DataW.weights, ht, List.mem_cons, List.mem_append]
      exact .inr (.inl (weightsAll_mem (List.mem_map.2 ⟨k, by simpa using hk, rfl⟩) hxx))
end
theorem Tryd.cellsIntR : Tryd.prog.cellsOf 3 = 1 := by kernel_rfl
theorem Tryd.cellsRowR : Tryd.prog.cellsOf 26 = 1 := by kernel_rfl
theorem Tryd.cellsMatR : Tryd.prog.cellsOf 22 = 1 := by kernel_rfl
theorem Tryd.cellsFormR : Tryd.prog.cellsOf 24 = 2 := by kernel_rfl
theorem open_clause {N : Nat} {H : Type} {enc : TypeId × Value → H} {w : World} {cs : List Value} (h : Good N enc Tryd.prog w 26 cs) :
    ∃ (A : Option Addr) (c : Nat) (l : List Int), cs = [.slice A l.length c] ∧ l.length ≤ N ∧ ClRow w A l := by
  obtain ⟨A, n, c, f, B, rfl, hn, hr, hg, _⟩ := good_slice_sum 1 (by omega) Tryd.cellsIntR Tryd.underlying26 h
  have hx : ∀ k, k < n → ∃ x : Int, f k 0 = .int .i64 x := fun k hk => by
    obtain ⟨x, e, _⟩ := good_int Tryd.underlying3 (hg k hk)
    exact ⟨x, by simpa [List.range_succ] using e⟩
  obtain ⟨X, hX⟩ := choose_lt (α := Int) hx
  have hl : ((List.range n).map X).length = n := by simp
  refine ⟨A, c, (List.range n).map X, by rw [hl], by omega, ?_⟩
  unfold ClRow
  rw [hl]
  intro h0
  obtain ⟨b, off, e, hc⟩ := hr.one h0
  refine ⟨b, off, e, fun k hk => ?_⟩
  refine (hc k hk).trans ?_
  show some (f k 0) = _
  rw [hX k hk]
  simp [List.getD_eq_getElem?_getD, hk]
theorem sum_le {f g : Nat → Nat} : ∀ n, (∀ k, k < n → f k ≤ g k) → ((List.range n).map f).sum ≤ ((List.range n).map g).sum
  | 0, _ => by simp
  | n + 1, h => by
    rw [List.range_succ]
    simp only [List.map_append, List.sum_append, List.map_cons, List.map_nil, List.sum_cons, List.sum_nil]
    have := sum_le n (fun k hk => h k (by omega))
    have := h n (by omega)
    omega
theorem open_clauses {N : Nat} {H : Type} {enc : TypeId × Value → H} {w : World} {cs : List Value} (h : Good N enc Tryd.prog w 22 cs) :
    ∃ (A : Option Addr) (c : Nat) (F : List (List Int)) (vf : List Value), cs = [.slice A F.length c] ∧ MatC w A F vf ∧ F.length ≤ N ∧ tot F ≤ N := by
  obtain ⟨A, n, c, f, B, rfl, hn, hr, hg, hsum⟩ := good_slice_sum 1 (by omega) Tryd.cellsRowR Tryd.underlying22 h
  have hx : ∀ k, k < n → ∃ x : Option Addr × Nat × List Int, f k 0 = .slice x.1 x.2.2.length x.2.1 ∧ x.2.2.length ≤ B k ∧ ClRow w x.1 x.2.2 := fun k hk => by
    obtain ⟨A', c', l, e, h1, h2⟩ := open_clause (hg k hk)
    exact ⟨(A', c', l), by simpa [List.range_succ] using e, h1, h2⟩
  obtain ⟨X, hX⟩ := choose_lt (α := Option Addr × Nat × List Int) hx
  have hl : ((List.range n).map fun k => (X k).2.2).length = n := by simp
  refine ⟨A, c, (List.range n).map (fun k => (X k).2.2), (List.range n).map (fun k => f k 0), by rw [hl], ⟨by simp, ?_, fun i v l hv hl' => ?_⟩, by omega, ?_⟩
  · rw [hl]
    intro h0
    obtain ⟨b, off, e, hc⟩ := hr.one h0
    refine ⟨b, off, e, fun k hk => ?_⟩
    refine (hc k hk).trans ?_
    show some (f k 0) = _
    simp [List.getD_eq_getElem?_getD, hk]
  · have hi : i < n := by have := (List.getElem?_eq_some_iff.1 hv).1; simpa using this
    simp [hi] at hv hl'
    subst hv; subst hl'
    exact ⟨(X i).1, (X i).2.1, (hX i hi).1, (hX i hi).2.2⟩
  · unfold tot
    rw [List.map_map]
    exact Nat.le_trans (sum_le n (fun k hk => (hX k hk).2.1)) hsum
theorem open_formula {N : Nat} {H : Type} {enc : TypeId × Value → H} {w : World} {cs : List Value} (h : Good N enc Tryd.prog w 24 cs) :
    ∃ (vars : Int) (A : Option Addr) (c : Nat) (F : List (List Int)) (vf : List Value), cs = [.int .i64 vars, .slice A F.length c] ∧ MatC w A F vf ∧ F.length ≤ N ∧ tot F ≤ N := by
  have hlen := good_len Tryd.underlying24 h Tryd.cellsFormR
  obtain ⟨v0, v1, rfl⟩ : ∃ a b, cs = [a, b] := by
    match cs, hlen with
    | [a, b], _ => exact ⟨a, b, rfl⟩
  obtain ⟨vars, e0, _⟩ := good_int Tryd.underlying3 (good_field Tryd.underlying24 h 0 _ 1 0 rfl Tryd.cellsIntR)
  obtain ⟨A, c, F, vf, e1, h1, h2, h3⟩ := open_clauses (good_field Tryd.underlying24 h 1 _ 1 1 rfl Tryd.cellsMatR)
  simp at e0 e1
  subst e0; subst e1
  exact ⟨vars, A, c, F, vf, rfl, h1, h2, h3⟩
end Go.Proofs.YthmjbenofpbmbaaDoor
