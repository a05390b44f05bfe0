/- How a formula and steps are opened down to their clauses. No condition. -/
import Derived.Test.YtkanekacjefcbaaRfC
namespace Go.Proofs.Ytkanekacjefcbaa
open Go.RowKit Go.ChangeShapes Go.WideShapes Go.Deep

section
variable {H : Type} {enc : TypeId × Value → H} {P : Program}
theorem bulkAll_sum : ∀ (l : List (DataW H)), Rows.uptoBulkAll l = (l.map Rows.uptoBulk).sum
  | [] => by simp [Rows.uptoBulkAll]
  | d :: l => by simp [Rows.uptoBulkAll, bulkAll_sum l]
/-- a slice, its elements' bulks summed -/
theorem good_slice_sum {N : Nat} {w : World} {t e : TypeId} {cs : List Value} (s : Nat) (hpos : 0 < s) (hs : P.cellsOf e = s) (ht : P.underlying t = some (.slice e)) (h : Good N enc P w t cs) :
    ∃ (A : Option Addr) (n c : Nat) (f : Nat → Nat → Value) (B : Nat → Nat), cs = [.slice A n c] ∧ n ≤ N ∧ RowS w s A n f ∧ (∀ k, k < n → Good (B k) enc P w e ((List.range s).map (f k))) ∧ ((List.range n).map B).sum ≤ N := by
  obtain ⟨fuel, d, p, h, hx, hbk⟩ := h
  rcases open_slice ht h with ⟨rfl, _⟩ | ⟨a, len, cap, m, n, D, Pl, rfl, _, hl, hcm, hm, he, hi⟩
  · exact ⟨none, 0, 0, fun _ _ => .bool true, fun _ => 0, rfl, by omega, fun h => absurd h (by omega), fun k hk => absurd hk (by omega), by simp⟩
  · simp only [if_true] at hm
    subst hm
    simp only [Prod.mk.injEq] at he
    obtain ⟨rfl, rfl⟩ := he
    rw [hs] at hi
    have hall : ∀ k, k < len → ∃ cs' : List Value, cs'.length = s ∧ (∀ j, j < s → w.cell? ((a.add (k * s)).add j) = cs'[j]?) ∧ DataW.trod enc P w 0 (fun _ => true) true n e cs' = some (D k, Pl k) := by
      intro k hk
      obtain ⟨cs', h1, h2⟩ := hi k (by omega)
      obtain ⟨_, hlen, hat⟩ := World.cells?_some h1
      exact ⟨cs', hlen, hat, h2⟩
    obtain ⟨F, hF⟩ := choose_lt (α := List Value) hall
    have hsum : ((List.range len).map fun k => Rows.uptoBulk (D k)).sum ≤ N := by
      simp only [Rows.uptoBulk, bulkAll_sum, List.map_map] at hbk
      have e1 : ((List.range len).map fun k => Rows.uptoBulk (D k)) = List.map (Rows.uptoBulk ∘ D) (List.range len) := rfl
      rw [e1]; omega
    refine ⟨some a, len, m, fun k j => (F k).getD j (.bool true), fun k => Rows.uptoBulk (D k), rfl, ?_, ?_, ?_, hsum⟩
    · have h1 := bulkAll_len (List.map D (List.range len))
      simp only [Rows.uptoBulk, List.length_map, List.length_range] at hbk h1
      omega
    · intro hn
      obtain ⟨b, off, spot⟩ := a
      obtain ⟨h1, h2, h3⟩ := hF 0 (by omega)
      · have hz : (F 0)[0]? = some ((F 0).getD 0 (.bool true)) := by
          rw [List.getD_eq_getElem?_getD, List.getElem?_eq_getElem (by omega)]; rfl
        have hc := h2 0 (by omega)
        rw [hz] at hc
        have hspot : spot = none := by simpa [Addr.add] using World.cell?_spot hc
        subst hspot
        refine ⟨b, off, rfl, fun k hk j hj => ?_⟩
        obtain ⟨h1, h2, _⟩ := hF k hk
        have := h2 j hj
        rw [add_eq, add_eq] at this
        rw [this, List.getElem?_eq_getElem (by omega)]
        show _ = some ((F k).getD j (.bool true))
        rw [List.getD_eq_getElem?_getD, List.getElem?_eq_getElem (by omega)]
        rfl
    · intro k hk
      obtain ⟨h1, _, h3⟩ := hF k hk
      have e1 : (List.range s).map (fun j => (F k).getD j (.bool true)) = F k := by
        apply List.ext_getElem?
        intro j
        by_cases hj : j < s
        · simp [hj, List.getElem?_eq_getElem (show j < (F k).length by omega)]
        · simp [hj, List.getElem?_eq_none (show (F k).length ≤ j by omega)]
      rw [e1]
      refine ⟨n, _, _, h3, fun x hxx => hx x ?_, Nat.le_refl _⟩
      simp only [DataW.weights, ht, List.mem_cons, List.mem_append]
      exact .inr (.inl (weightsAll_mem (List.mem_map.2 ⟨k, by simpa using hk, rfl⟩) hxx))
end
theorem Try.cellsIntR : Try.prog.cellsOf 3 = 1 := by kernel_rfl
theorem Try.cellsRowR : Try.prog.cellsOf 26 = 1 := by kernel_rfl
theorem Try.cellsMatR : Try.prog.cellsOf 22 = 1 := by kernel_rfl
theorem Try.cellsFormR : Try.prog.cellsOf 24 = 2 := by kernel_rfl
theorem open_clause {N : Nat} {H : Type} {enc : TypeId × Value → H} {w : World} {cs : List Value} (h : Good N enc Try.prog w 26 cs) :
    ∃ (A : Option Addr) (c : Nat) (l : List Int), cs = [.slice A l.length c] ∧ l.length ≤ N ∧ ClRow w A l := by
  obtain ⟨A, n, c, f, B, rfl, hn, hr, hg, _⟩ := good_slice_sum 1 (by omega) Try.cellsIntR Try.underlying26 h
  have hx : ∀ k, k < n → ∃ x : Int, f k 0 = .int .i64 x := fun k hk => by
    obtain ⟨x, e, _⟩ := good_int Try.underlying3 (hg k hk)
    exact ⟨x, by simpa [List.range_succ] using e⟩
  obtain ⟨X, hX⟩ := choose_lt (α := Int) hx
  have hl : ((List.range n).map X).length = n := by simp
  refine ⟨A, c, (List.range n).map X, by rw [hl], by omega, ?_⟩
  unfold ClRow
  rw [hl]
  intro h0
  obtain ⟨b, off, e, hc⟩ := hr.one h0
  refine ⟨b, off, e, fun k hk => ?_⟩
  refine (hc k hk).trans ?_
  show some (f k 0) = _
  rw [hX k hk]
  simp [List.getD_eq_getElem?_getD, hk]
theorem sum_le {f g : Nat → Nat} : ∀ n, (∀ k, k < n → f k ≤ g k) → ((List.range n).map f).sum ≤ ((List.range n).map g).sum
  | 0, _ => by simp
  | n + 1, h => by
    rw [List.range_succ]
    simp only [List.map_append, List.sum_append, List.map_cons, List.map_nil, List.sum_cons, List.sum_nil]
    have := sum_le n (fun k hk => h k (by omega))
    have := h n (by omega)
    omega
theorem open_clauses {N : Nat} {H : Type} {enc : TypeId × Value → H} {w : World} {cs : List Value} (h : Good N enc Try.prog w 22 cs) :
    ∃ (A : Option Addr) (c : Nat) (F : List (List Int)) (vf : List Value), cs = [.slice A F.length c] ∧ MatC w A F vf ∧ F.length ≤ N ∧ tot F ≤ N := by
  obtain ⟨A, n, c, f, B, rfl, hn, hr, hg, hsum⟩ := good_slice_sum 1 (by omega) Try.cellsRowR Try.underlying22 h
  have hx : ∀ k, k < n → ∃ x : Option Addr × Nat × List Int, f k 0 = .slice x.1 x.2.2.length x.2.1 ∧ x.2.2.length ≤ B k ∧ ClRow w x.1 x.2.2 := fun k hk => by
    obtain ⟨A', c', l, e, h1, h2⟩ := open_clause (hg k hk)
    exact ⟨(A', c', l), by simpa [List.range_succ] using e, h1, h2⟩
  obtain ⟨X, hX⟩ := choose_lt (α := Option Addr × Nat × List Int) hx
  have hl : ((List.range n).map fun k => (X k).2.2).length = n := by simp
  refine ⟨A, c, (List.range n).map (fun k => (X k).2.2), (List.range n).map (fun k => f k 0), by rw [hl], ⟨by simp, ?_, fun i v l hv hl' => ?_⟩, by omega, ?_⟩
  · rw [hl]
    intro h0
    obtain ⟨b, off, e, hc⟩ := hr.one h0
    refine ⟨b, off, e, fun k hk => ?_⟩
    refine (hc k hk).trans ?_
    show some (f k 0) = _
    simp [List.getD_eq_getElem?_getD, hk]
  · have hi : i < n := by have := (List.getElem?_eq_some_iff.1 hv).1; simpa using this
    simp [hi] at hv hl'
    subst hv; subst hl'
    exact ⟨(X i).1, (X i).2.1, (hX i hi).1, (hX i hi).2.2⟩
  · unfold tot
    rw [List.map_map]
    exact Nat.le_trans (sum_le n (fun k hk => (hX k hk).2.1)) hsum
theorem open_formula {N : Nat} {H : Type} {enc : TypeId × Value → H} {w : World} {cs : List Value} (h : Good N enc Try.prog w 24 cs) :
    ∃ (vars : Int) (A : Option Addr) (c : Nat) (F : List (List Int)) (vf : List Value), cs = [.int .i64 vars, .slice A F.length c] ∧ MatC w A F vf ∧ F.length ≤ N ∧ tot F ≤ N := by
  have hlen := good_len Try.underlying24 h Try.cellsFormR
  obtain ⟨v0, v1, rfl⟩ : ∃ a b, cs = [a, b] := by
    match cs, hlen with
    | [a, b], _ => exact ⟨a, b, rfl⟩
  obtain ⟨vars, e0, _⟩ := good_int Try.underlying3 (good_field Try.underlying24 h 0 _ 1 0 rfl Try.cellsIntR)
  obtain ⟨A, c, F, vf, e1, h1, h2, h3⟩ := open_clauses (good_field Try.underlying24 h 1 _ 1 1 rfl Try.cellsMatR)
  simp at e0 e1
  subst e0; subst e1
  exact ⟨vars, A, c, F, vf, rfl, h1, h2, h3⟩
end Go.Proofs.Ytkanekacjefcbaa
