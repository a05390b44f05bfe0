/- refute's follows, walked: does a clause follow by unit propagation. Conditions: the holder and the clause lie in memory, the clauses' numbers are literals. -/
import Derived.Test.YtkanekacjefcbaaRfL
namespace Go.Proofs.Ytkanekacjefcbaa
open Go.RowKit Go.Maps Go.ChangeShapes

theorem neg0_step {l : List Int} {k : Nat} (hk : k < l.length) : put1 (neg0 (l.take k)) (-(l.getD k 0)) = neg0 (l.take (k + 1)) := by
  have e : l.take (k + 1) = l.take k ++ [l.getD k 0] := by
    rw [List.take_succ_eq_append_getElem hk, List.getD_eq_getElem?_getD, List.getElem?_eq_getElem hk]; rfl
  funext y
  rw [e, Bool.eq_iff_iff]
  simp only [put1, neg0, Bool.or_eq_true, List.contains_iff_mem, List.mem_append, List.mem_singleton, beq_iff_eq]
  constructor
  · rintro (h | h)
    · exact .inl h
    · right; omega
  · rintro (h | h)
    · exact .inl h
    · right; omega
theorem taut_take {l : List Int} {k : Nat} (h : Taut (l.take k)) : Taut l := by
  obtain ⟨x, h1, h2⟩ := h
  exact ⟨x, List.mem_of_mem_take h1, List.mem_of_mem_take h2⟩
theorem taut_step {l : List Int} {k : Nat} (hk : k < l.length) (hz : l.getD k 0 ≠ 0) (h : ¬ Taut (l.take k)) (hn : ¬ neg0 (l.take k) (l.getD k 0) = true) : ¬ Taut (l.take (k + 1)) := by
  have e : l.take (k + 1) = l.take k ++ [l.getD k 0] := by
    rw [List.take_succ_eq_append_getElem hk, List.getD_eq_getElem?_getD, List.getElem?_eq_getElem hk]; rfl
  rw [neg0_iff] at hn
  rintro ⟨x, h1, h2⟩
  rw [e] at h1 h2
  rcases List.mem_append.1 h1 with h1 | h1 <;> rcases List.mem_append.1 h2 with h2 | h2
  · exact h ⟨x, h1, h2⟩
  · have h3 : -x = l.getD k 0 := by simpa using h2
    exact hn (by rw [← h3]; simpa using h1)
  · have h3 : x = l.getD k 0 := by simpa using h1
    subst h3
    exact hn h2
  · have h3 : x = l.getD k 0 := by simpa using h1
    have h4 : -x = l.getD k 0 := by simpa using h2
    omega
/-- a clause has been looked at -/
theorem Pending.look {cs : List (List Int)} {S S' : Int → Bool} {todo todo' : List Int} {U U' : Nat → Prop} {i : Nat} {l : List Int} (h : Pending cs S todo U) (hi : cs[i]? = some l) (hc : Calm S' l)
    (hs : (S' = S ∧ todo' = todo) ∨ ∃ x, S' = put1 S x ∧ todo' = todo ++ [x]) (hU : ∀ j, U j → j = i ∨ U' j) : Pending cs S' todo' U' := fun j c hj => by
  by_cases e : j = i
  · subst e
    rw [hi] at hj
    injection hj with hj
    subst hj
    exact .inl hc
  · have h2 : Pending cs S' todo' U := by
      rcases hs with ⟨rfl, rfl⟩ | ⟨x, rfl, rfl⟩
      · exact h
      · exact h.put x
    exact (h2 j c hj).imp id (fun h => h.imp id (fun h => (hU j h).resolve_left e))
theorem Arr.one1 {w : World} {b : Nat} {e : TypeId} {v : Value} (h : Arr w b e #[v].size (fun j => #[v].getD j undef)) : Arr w b e 1 (fun _ => v) := h.congr (fun j hj => by
  have hj' : j < 1 := hj
  obtain rfl : j = 0 := by omega
  rfl)
theorem FSt.start (w : World) (b : Nat) (t1 t2 t3 t4 : TypeId) (h1 : t1 = 38) (h2 : t2 = 40) (h3 : t3 = 26) (h4 : t4 = 62) : FSt w (((((w.alloc (.cells #[.pointer (some ⟨b, 0, none⟩)] t1)).alloc (.map #[] 0)).alloc (.cells #[.map (some (w.heap.size + 1))] t2)).alloc (.cells #[.slice none 0 0] t3)).alloc (.cells #[.func (.func 28) #[] #[.pointer (some ⟨w.heap.size + 1 + 1, 0, none⟩), .pointer (some ⟨w.heap.size + 1 + 1 + 1, 0, none⟩)]] t4)) w.heap.size b (fun _ => false) none 0 0 [] := by
  subst h1; subst h2; subst h3; subst h4
  have c0 : cnt 100000 (fun _ => false) = 0 := by simp [cnt]
  have a0 := Arr.new w #[.pointer (some ⟨b, 0, none⟩)] 38
  have a1 := HeldM.made (w.alloc (.cells #[.pointer (some ⟨b, 0, none⟩)] 38))
  have b0 := a0.alloc (.map #[] 0)
  have hbl : Below w.heap.size w (w.alloc (.cells #[.pointer (some ⟨b, 0, none⟩)] 38)) := (Below.refl _ _).alloc (Nat.le_refl _) _
  have s1 : (w.alloc (.cells #[.pointer (some ⟨b, 0, none⟩)] 38)).heap.size = w.heap.size + 1 := by simp
  replace hbl := hbl.alloc (by omega) (.map #[] 0)
  have s2 : ((w.alloc (.cells #[.pointer (some ⟨b, 0, none⟩)] 38)).alloc (.map #[] 0)).heap.size = w.heap.size + 2 := by simp
  rw [s1] at a1
  generalize (w.alloc (.cells #[.pointer (some ⟨b, 0, none⟩)] 38)).alloc (.map #[] 0) = w2 at *
  have a2 := Arr.new w2 #[.map (some (w.heap.size + 1))] 40
  rw [s2] at a2
  have al : ∀ (W : World) (o : Obj), Below W.heap.size W (W.alloc o) := fun W o => (Below.refl _ _).alloc (Nat.le_refl _) _
  have e1 := b0.alloc (.cells #[.map (some (w.heap.size + 1))] 40)
  have e2 := a1.below (al w2 (.cells #[.map (some (w.heap.size + 1))] 40))
  replace hbl := hbl.alloc (by omega) (.cells #[.map (some (w.heap.size + 1))] 40)
  have s3 : (w2.alloc (.cells #[.map (some (w.heap.size + 1))] 40)).heap.size = w.heap.size + 3 := by simp [s2]
  generalize w2.alloc (.cells #[.map (some (w.heap.size + 1))] 40) = w3 at *
  have a3 := Arr.new w3 #[.slice none 0 0] 26
  rw [s3] at a3
  have g1 := e1.alloc (.cells #[.slice none 0 0] 26)
  have g2 := e2.below (al w3 (.cells #[.slice none 0 0] 26))
  have g3 := a2.alloc (.cells #[.slice none 0 0] 26)
  replace hbl := hbl.alloc (by omega) (.cells #[.slice none 0 0] 26)
  have s4 : (w3.alloc (.cells #[.slice none 0 0] 26)).heap.size = w.heap.size + 4 := by simp [s3]
  generalize w3.alloc (.cells #[.slice none 0 0] 26) = w4 at *
  have a4 := Arr.new w4 #[.func (.func 28) #[] #[.pointer (some ⟨w.heap.size + 1 + 1, 0, none⟩), .pointer (some ⟨w.heap.size + 1 + 1 + 1, 0, none⟩)]] 62
  rw [s4] at a4
  refine ⟨hbl.alloc (by omega) _, rfl, Arr.one1 (g1.alloc _), ?_, Arr.one1 (g3.alloc _), Arr.one1 (a3.alloc _), Arr.one1 a4, Tail.nil _ _, by simp, by omega⟩
  rw [c0]
  exact g2.below (al w4 _)
end Go.Proofs.Ytkanekacjefcbaa
