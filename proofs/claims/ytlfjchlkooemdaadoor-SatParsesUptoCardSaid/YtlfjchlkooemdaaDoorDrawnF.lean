/- The law for statements that draw their order, in a fence that lets every function in (in a round of a loop over a function, or where one is made): after the law of the text Drawn2. No condition. -/
import Derived.Test.YtlfjchlkooemdaaDoorDrawn2
import Derived.OrdersIn
namespace Go.Proofs.YtlfjchlkooemdaaDoor
open Go.RowKit Go.Deep

/-- no operation defers -/
def noDefer (ops : Array Oper) : Bool := ops.toList.all fun o => match o.op with | .defer _ => false | _ => true
theorem noDefer_at {ops : Array Oper} (h : noDefer ops = true) {i : Nat} {o : Oper} (hi : ops[i]? = some o) : ∀ c, o.op ≠ .defer c := fun c e => by
  have hm : o ∈ ops.toList := by simpa using Array.mem_of_getElem? hi
  have := List.all_eq_true.1 h o hm
  rw [e] at this; cases this

section
variable {F : Fence} {n : Nat} {P : Program} {md : Region.Mode} {ops : Array Oper} {Q : Exit → Act → World → Prop} {S : World → Prop} {X : Nat → Bool}

theorem yieldsIf_in {i : Nat} {o : Oper} {v : Value} {a : Act} (hF : ∀ f, F.fn f) (hd : ∀ c, o.op ≠ .defer c) (hi : ops[i]? = some o) (hy : YieldsIf P ops S o v a) {K : Act → World → Prop} {w : World} (hS : S w) (h : K (a.put o.dst v) w) : wpOpIn F n P ops Q i K a w := by
  unfold Go.wpOpIn
  simp only [hi]
  rcases hy with ⟨hw, hv⟩ | ⟨hw, rfl⟩
  · simp only [hw, if_true, Oper.wpIn, Oper.semAt_eq F.round _ o hd, hv w hS, Oper.uponIn]; exact ⟨fun f _ => hF f, h⟩
  · simp only [hw, Bool.false_eq_true, if_false]; exact ⟨fun f _ => hF f, h⟩

theorem putIf_in {j : Nat} {oi oj : Oper} {v : Value} (hF : ∀ f, F.fn f) (hdj : ∀ c, oj.op ≠ .defer c) (hj : ops[j]? = some oj) (hap : oi.apart ops oj = true)
    (hsi : ∀ cs b, oi.op ≠ .select cs b) (hsj : ∀ cs b, oj.op ≠ .select cs b)
    (hQ : ∀ c a w, Q (.panic c) (a.put oi.dst v) w → Q (.panic c) a w) {K : Act → World → Prop} {a : Act} {w : World}
    (hy : YieldsIf P ops S oi v a) (h : wpOpIn F n P ops Q j K (a.put oi.dst v) w) :
    wpOpIn F n P ops Q j (fun a' w' => YieldsIf P ops S oi v a' ∧ K (a'.put oi.dst v) w') a w := by
  obtain ⟨h1, h2, h3⟩ := Oper.apart_spec hap
  have keep : ∀ (a : Act), YieldsIf P ops S oi v a → ∀ u, YieldsIf P ops S oi v (a.put oj.dst u) := fun a hy u =>
    hy.of_same (execOp_put oi hsi a oj.dst u h3) (wanted_put oi a oj.dst u h3)
  unfold wpOpIn at *
  simp only [hj] at *
  rw [wanted_put oj a oi.dst v h1] at h
  by_cases hw : Region.wanted oj (yielded ops a.tmps) = true
  · rw [if_pos hw] at h ⊢
    unfold Oper.wpIn at *
    refine ⟨fun f _ => hF f, ?_⟩
    have h := h.2
    rw [Oper.semAt_eq F.round _ oj hdj, execOp_put oj hsj a oi.dst v h1] at h
    rw [Oper.semAt_eq F.round _ oj hdj]
    generalize (execOp a.eval oj).run P w = r at *
    cases r with
    | ok x w' =>
      cases x with
      | value u => exact ⟨keep a hy u, by rw [← Act.put_comm a v u h2]; exact h⟩
      | skip => exact ⟨keep a hy _, by rw [← Act.put_comm a v undef h2]; exact h⟩
      | defer d =>
        simp only [Oper.uponIn] at h ⊢
        refine ⟨keep { a with defers := d :: a.defers } (hy.of_same rfl rfl) _, ?_⟩
        rw [← Act.put_comm _ v undef h2, ← Act.put_defers]
        exact h
      | enter f args =>
        refine ⟨h.1, CallsIn.mono h.2 fun e w'' he => ?_⟩
        cases e with
        | returned u => exact ⟨keep a hy u, by rw [← Act.put_comm a v u h2]; exact he⟩
        | panicked c => exact hQ _ _ _ he
        | outgrown => exact he
      | row row args => exact ⟨h.1, RowsIn.mono h.2 fun u w'' he => ⟨keep a hy u, by rw [← Act.put_comm a v u h2]; exact he⟩⟩
      | round l f tmps assign body =>
        refine ⟨h.1, RoundIn.mono h.2 fun e w'' he => ?_⟩
        cases e with
        | returned u => exact ⟨keep a hy u, by rw [← Act.put_comm a v u h2]; exact he⟩
        | panicked c => exact hQ _ _ _ he
        | outgrown => exact he
      | _ => first | exact h | (simp only [Oper.uponIn] at h)
    | halt x w' =>
      cases x with
      | panic u => exact hQ _ _ _ h
      | _ => first | exact h | (simp only [Oper.uponIn] at h)
  · rw [if_neg hw] at h ⊢
    exact ⟨fun f _ => hF f, keep a hy _, by rw [← Act.put_comm a v undef h2]; exact h.2⟩

def AnyY (F : Fence) (n : Nat) (P : Program) (md : Region.Mode) (ops : Array Oper) (Q : Exit → Act → World → Prop) (S : World → Prop) (X : Nat → Bool) : Nat → Array Bool → Act → World → Prop
  | 0, listed, a, w => Region.ready md ops listed = [] ∧ Q .normal a w
  | f + 1, listed, a, w => (Region.ready md ops listed = [] → Q .normal a w) ∧
    ∀ i ∈ Region.ready md ops listed, wpOpIn F n P ops Q i (fun a' w' => (X i = false → S w') ∧ AnyY F n P md ops Q S X f (listed.setIfInBounds i true) a' w') a w

theorem AnyY.any : ∀ (f : Nat) (listed : Array Bool) (a : Act) (w : World), AnyY F n P md ops Q S X f listed a w → wpAnyIn F n P md ops Q f listed a w
  | 0, _, _, _, h => h
  | f + 1, _, _, _, h => ⟨h.1, fun i hi => wpOpIn_mono (fun a' w' h' => AnyY.any f _ a' w' h'.2) (h.2 i hi)⟩

theorem AnyY.first {i : Nat} {oi : Oper} {v : Value} (hF : ∀ f, F.fn f) (hnd : noDefer ops = true) (hi : ops[i]? = some oi) (hsel : ∀ (j : Nat) (o : Oper) cs b, ops[j]? = some o → o.op ≠ .select cs b)
    (hQ : ∀ c a w, Q (.panic c) (a.put oi.dst v) w → Q (.panic c) a w) (hX : ∀ x, x < ops.size → X x = true → behind md ops ops.size x i = true) :
    ∀ (f : Nat) (listed : Array Bool) (a : Act) (w : World), Shut md ops listed →
      (∀ j oj, ops[j]? = some oj → j ≠ i → listed.getD j true = false → (∀ e ∈ oj.after, Region.binds md e = true → e.on ≠ i) → oi.apart ops oj = true) →
      i ∈ Region.ready md ops listed → YieldsIf P ops S oi v a → S w →
      AnyY F n P md ops Q S X f (listed.setIfInBounds i true) (a.put oi.dst v) w → AnyY F n P md ops Q S X (f + 1) listed a w := by
  intro f
  induction f with
  | zero =>
    intro listed a w _ _ hr hy hS H
    refine ⟨fun h => (by rw [h] at hr; cases hr), fun j hj => ?_⟩
    by_cases hji : j = i
    · subst hji; exact yieldsIf_in hF (noDefer_at hnd hi) hi hy hS ⟨fun _ => hS, H⟩
    · have := ready_mono hj hji
      rw [H.1] at this
      cases this
  | succ f ih =>
    intro listed a w hsh hfree hr hy hS H
    refine ⟨fun h => (by rw [h] at hr; cases hr), fun j hj => ?_⟩
    by_cases hji : j = i
    · subst hji; exact yieldsIf_in hF (noDefer_at hnd hi) hi hy hS ⟨fun _ => hS, H⟩
    have h1 := H.2 j (ready_mono hj hji)
    obtain ⟨hjun, oj, hoj, hall⟩ := mem_ready.1 hj
    have hiun := (mem_ready.1 hr).1
    have hXj : X j = false := by
      cases hx : X j with
      | false => rfl
      | true =>
        have hl := hsh.behind _ j i oj hoj hall (hX j (Array.getElem?_eq_some_iff.1 hoj).1 hx)
        rw [getD_both hiun] at hl; cases hl
    have hnot : ∀ e ∈ oj.after, Region.binds md e = true → e.on ≠ i := fun e he hb heq => by
      have hl := hall e he hb
      rw [heq, getD_both hiun] at hl; cases hl
    have h2 := putIf_in hF (noDefer_at hnd hoj) hoj (hfree j oj hoj hji hjun hnot) (fun cs b => hsel i oi cs b hi) (fun cs b => hsel j oj cs b hoj) hQ hy h1
    have hfree' : ∀ k ok, ops[k]? = some ok → k ≠ i → (listed.setIfInBounds j true).getD k true = false →
        (∀ e ∈ ok.after, Region.binds md e = true → e.on ≠ i) → oi.apart ops ok = true := fun k ok hk hki hun hno => by
      refine hfree k ok hk hki ?_ hno
      by_cases hjk : j = k
      · subst hjk; exact hjun
      · rwa [getD_set_ne true hjk] at hun
    refine wpOpIn_mono (fun a' w' h3 => ⟨h3.2.1, ih _ a' w' (hsh.more hj) hfree' (ready_mono hr (Ne.symm hji)) h3.1 (h3.2.1 hXj) ?_⟩) h2
    rw [Array.setIfInBounds_comm _ _ hji]
    exact h3.2.2

theorem AnyY.heads {xs : List Nat} (hF : ∀ f, F.fn f) (hnd : noDefer ops = true) (hsel : Region.noSelect ops = true) (hQ : ∀ c a a' w, a'.defers = a.defers → Q (.panic c) a' w → Q (.panic c) a w) {g : Nat} {w : World} (hS : S w) :
    ∀ (is : List Nat) (listed : Array Bool) (a : Act), Shut md ops listed → mayB md ops xs is listed = true → Heads P ops S (fun a' => AnyY F n P md ops Q S (fun x => xs.contains x) g (setAll is listed) a' w) is a →
      AnyY F n P md ops Q S (fun x => xs.contains x) (is.length + g) listed a w
  | [], _, _, _, _, h => by rw [List.length_nil, Nat.zero_add]; exact h
  | i :: is, listed, a, hsh, hB, ⟨o, v, ho, hy, h⟩ => by
    simp only [mayB, Bool.and_eq_true, List.all_eq_true] at hB
    obtain ⟨⟨⟨hr, hf⟩, hx⟩, hB'⟩ := hB
    have hr' : i ∈ Region.ready md ops listed := by simpa using hr
    rw [List.length_cons, show is.length + 1 + g = (is.length + g) + 1 by omega]
    exact AnyY.first hF hnd ho (Region.noSelect_spec hsel) (fun c a w => hQ c a _ w (put_defers a _ _)) (fun x _ hxx => hx x (by simpa using hxx)) _ _ _ _ hsh (Region.free_spec ho hf) hr' hy hS
      (AnyY.heads hF hnd hsel hQ hS is _ _ (hsh.more hr') hB' h)

/-- the one that may come up now -/
theorem AnyY.one {i f : Nat} {o : Oper} {listed : Array Bool} {a : Act} {w : World} (hF : ∀ f, F.fn f) (hr : Region.ready md ops listed = [i]) (ho : ops[i]? = some o)
    (h : ∀ K : Act → World → Prop, (∀ a' w', (X i = false → S w') → AnyY F n P md ops Q S X f (listed.setIfInBounds i true) a' w' → K a' w') → if Region.wanted o (yielded ops a.tmps) = true then Oper.wpIn F n P o a w K Q else K (a.put o.dst undef) w) :
    AnyY F n P md ops Q S X (f + 1) listed a w := by
  refine ⟨fun h0 => (by rw [hr] at h0; cases h0), fun j hj => ?_⟩
  rw [hr] at hj
  obtain rfl : j = i := by simpa using hj
  have h1 := h (fun a' w' => (X j = false → S w') ∧ AnyY F n P md ops Q S X f (listed.setIfInBounds j true) a' w') (fun a' w' h1 h2 => ⟨h1, h2⟩)
  unfold wpOpIn
  simp only [ho]
  by_cases hw : Region.wanted o (yielded ops a.tmps) = true
  · rw [if_pos hw] at h1 ⊢
    exact h1
  · rw [if_neg hw] at h1 ⊢
    exact ⟨fun f _ => hF f, h1⟩
theorem AnyY.done {f : Nat} {listed : Array Bool} {a : Act} {w : World} (hr : Region.ready md ops listed = []) (h : Q .normal a w) : AnyY F n P md ops Q S X f listed a w := by
  cases f with
  | zero => exact ⟨hr, h⟩
  | succ f => exact ⟨fun _ => h, fun i hi => by rw [hr] at hi; cases hi⟩
theorem AnyY.mid {f : Nat} {w : World} {listed : Array Bool} {a : Act} (is xs : List Nat) (g : Nat) (hf : f = is.length + g) (hF : ∀ f, F.fn f) (hnd : noDefer ops = true) (hsel : Region.noSelect ops = true) (hsh : shutB md ops listed = true) (hB : mayB md ops xs is listed = true)
    (hQ : ∀ c a a' w, a'.defers = a.defers → Q (.panic c) a' w → Q (.panic c) a w) (hS : S w)
    (h : Heads P ops S (fun a' => AnyY F n P md ops Q S (fun x => xs.contains x) g (setAll is listed) a' w) is a) : AnyY F n P md ops Q S (fun x => xs.contains x) f listed a w := by
  subst hf
  exact AnyY.heads hF hnd hsel hQ hS is listed a (shut_of hsh) hB h
/-- the beginning -/
theorem wpIn_region_z {id : Nat} {a : Act} {w : World} {ops : Array Oper} (S : World → Prop) (is xs : List Nat) (hF : ∀ f, F.fn f) (hm : P.follows .mixedOrders = true) (hnd : noDefer ops = true) (hsel : Region.noSelect ops = true) (hB : mayB .any ops xs is (Array.replicate ops.size false) = true)
    (hsz : ops.size = is.length + (ops.size - is.length))
    (hQ : ∀ c a a' w, a'.defers = a.defers → Q (.panic c) a' w → Q (.panic c) a w) (hS : S w.drew)
    (h : Heads P ops S (fun a' => AnyY F n P .any ops Q S (fun x => xs.contains x) (ops.size - is.length) (setAll is (Array.replicate ops.size false)) a' w.drew) is a) : (Code.region id ops true).wpIn F n P Q a w := by
  refine wpIn_region_any hm (AnyY.any (S := S) (X := fun x => xs.contains x) _ _ _ _ ?_)
  have := AnyY.heads (md := .any) (Q := Q) (xs := xs) hF hnd hsel hQ (g := ops.size - is.length) hS is _ a Shut.start hB h
  rw [← hsz] at this
  exact this
end
end Go.Proofs.YtlfjchlkooemdaaDoor
