/- More on statements that draw their order: two that may come up, reads in the middle. No condition. -/
import Derived.Test.YtkanekacjefcbaaDrawnW
namespace Go.Proofs.Ytkanekacjefcbaa
open Go.RowKit Go.Deep

section
variable {P : Program} {md : Region.Mode} {ops : Array Oper} {Q : Exit → Act → World → Prop} {S S' : World → Prop} {X X' : Nat → Bool}
@[go_sem] theorem run_store_nilFunc {w : World} {a : Addr} {m : Mode} : (store a .nilFunc m).run P w = stored P w a .nilFunc m := run_store P w a _ m rfl
@[go_sem] theorem run_store_func {w : World} {a : Addr} {m : Mode} (f : Fn) (x y : Array Value) : (store a (.func f x y) m).run P w = stored P w a (.func f x y) m := run_store P w a _ m rfl
/-- a stricter condition on the world from here on -/
theorem AnyZ.weaken (h : ∀ w, S' w → S w) (hx : ∀ i, X i = false → X' i = false) : ∀ (f : Nat) (listed : Array Bool) (a : Act) (w : World), AnyZ P md ops Q S' X' f listed a w → AnyZ P md ops Q S X f listed a w
  | 0, _, _, _, h0 => h0
  | f + 1, _, _, _, h0 => ⟨h0.1, fun i hi => wpOp_mono (fun a' w' h' => ⟨fun hxi => h w' (h'.1 (hx i hxi)), AnyZ.weaken h hx f _ a' w' h'.2⟩) (h0.2 i hi)⟩
theorem AnyZ.two {i j f : Nat} {o oj : Oper} {listed : Array Bool} {a : Act} {w : World} (hr : Region.ready md ops listed = [i, j]) (ho : ops[i]? = some o) (hoj : ops[j]? = some oj)
    (h : ∀ K : Act → World → Prop, (∀ a' w', (X i = false → S w') → AnyZ P md ops Q S X f (listed.setIfInBounds i true) a' w' → K a' w') → if Region.wanted o (yielded ops a.tmps) = true then Oper.wp P o a w K Q else K (a.put o.dst undef) w)
    (h' : ∀ K : Act → World → Prop, (∀ a' w', (X j = false → S w') → AnyZ P md ops Q S X f (listed.setIfInBounds j true) a' w' → K a' w') → if Region.wanted oj (yielded ops a.tmps) = true then Oper.wp P oj a w K Q else K (a.put oj.dst undef) w) :
    AnyZ P md ops Q S X (f + 1) listed a w := by
  refine ⟨fun h0 => (by rw [hr] at h0; cases h0), fun k hk => ?_⟩
  rw [hr] at hk
  have hk2 : k = i ∨ k = j := by simpa using hk
  rcases hk2 with rfl | rfl
  · have h1 := h (fun a' w' => (X k = false → S w') ∧ AnyZ P md ops Q S X f (listed.setIfInBounds k true) a' w') (fun a' w' h1 h2 => ⟨h1, h2⟩)
    unfold wpOp
    simp only [ho]
    by_cases hw : Region.wanted o (yielded ops a.tmps) = true
    · rw [if_pos hw] at h1 ⊢
      exact .inl h1
    · rw [if_neg hw] at h1 ⊢
      exact h1
  · have h1 := h' (fun a' w' => (X k = false → S w') ∧ AnyZ P md ops Q S X f (listed.setIfInBounds k true) a' w') (fun a' w' h1 h2 => ⟨h1, h2⟩)
    unfold wpOp
    simp only [hoj]
    by_cases hw : Region.wanted oj (yielded ops a.tmps) = true
    · rw [if_pos hw] at h1 ⊢
      exact .inl h1
    · rw [if_neg hw] at h1 ⊢
      exact h1
def shutB (md : Region.Mode) (ops : Array Oper) (listed : Array Bool) : Bool :=
  (List.range ops.size).all fun j => !listed.getD j false || (match ops[j]? with | some o => o.after.toList.all (fun e => !Region.binds md e || listed.getD e.on false) | none => true)
theorem shut_of {listed : Array Bool} (h : shutB md ops listed = true) : Shut md ops listed := by
  intro j oj hj hl e he hb
  have hlt : j < ops.size := (Array.getElem?_eq_some_iff.1 hj).1
  have h1 := List.all_eq_true.1 h j (by simpa using hlt)
  rw [hl, hj] at h1
  simp only [Bool.not_true, Bool.false_or, List.all_eq_true] at h1
  have h2 := h1 e (by simpa using he)
  rw [hb] at h2
  simpa using h2
/-- reads in the middle -/
theorem AnyZ.mid {f : Nat} {w : World} {listed : Array Bool} {a : Act} (is xs : List Nat) (g : Nat) (hf : f = is.length + g) (hsel : Region.noSelect ops = true) (hsh : shutB md ops listed = true) (hB : mayB md ops xs is listed = true)
    (hQ : ∀ c a a' w, a'.defers = a.defers → Q (.panic c) a' w → Q (.panic c) a w) (hS : S w)
    (h : Heads P ops S (fun a' => AnyZ P md ops Q S (fun x => xs.contains x) g (setAll is listed) a' w) is a) : AnyZ P md ops Q S (fun x => xs.contains x) f listed a w := by
  subst hf
  exact AnyZ.heads hsel hQ hS is listed a (shut_of hsh) hB h
end
end Go.Proofs.Ytkanekacjefcbaa
