/- A law for statements that draw their order: the reads first, under a condition on the world that must hold behind each operation but those that X names; what X names comes up only behind all the reads. No condition. More on statements that draw their order: two that may come up, reads in the middle. No condition. -/
import Derived.Test.YtbdcpealkllfnaaDoorStep
import Derived.StillTail
import Derived.OrdersHeld
namespace Go.Proofs.YtbdcpealkllfnaaDoor
open Go.RowKit Go.Deep

section
variable {P : Program} {md : Region.Mode} {ops : Array Oper} {Q : Exit → Act → World → Prop} {S : World → Prop} {X : Nat → Bool}

/-- operation x comes up behind operation i -/
def behind (md : Region.Mode) (ops : Array Oper) : Nat → Nat → Nat → Bool
 | 0, x, i => Region.waitsFor md ops x i
 | f + 1, x, i => Region.waitsFor md ops x i || (List.range ops.size).any fun j => Region.waitsFor md ops x j && behind md ops f j i

/-- whatever has come up, so has what it waited for -/
def Shut (md : Region.Mode) (ops : Array Oper) (listed : Array Bool) : Prop :=
 ∀ j oj, ops[j]? = some oj → listed.getD j false = true → ∀ e ∈ oj.after, Region.binds md e = true → listed.getD e.on false = true
theorem Shut.start : Shut md ops (Array.replicate ops.size false) := fun j _ _ h => by rw [getD_replicate_false] at h; cases h
theorem Shut.more {listed : Array Bool} (h : Shut md ops listed) {i : Nat} (hi : i ∈ Region.ready md ops listed) : Shut md ops (listed.setIfInBounds i true) := by
 intro j oj hj hl e he hb
 obtain ⟨_, oi, hoi, hall⟩ := mem_ready.1 hi
 by_cases hij : i = j
 ·
  subst hij
  obtain rfl : oj = oi := Option.some.inj (hj.symm.trans hoi)
  exact getD_set_true (hall e he hb)
 ·
  rw [getD_set_ne false hij] at hl
  exact getD_set_true (h j oj hj hl e he hb)
theorem Shut.behind {listed : Array Bool} (h : Shut md ops listed) : ∀ (f x i : Nat) (ox : Oper), ops[x]? = some ox → (∀ e ∈ ox.after, Region.binds md e = true → listed.getD e.on false = true) → behind md ops f x i = true → listed.getD i false = true := by
 have one : ∀ (x i : Nat) (ox : Oper), ops[x]? = some ox → (∀ e ∈ ox.after, Region.binds md e = true → listed.getD e.on false = true) → Region.waitsFor md ops x i = true → listed.getD i false = true := fun x i ox hx ha hw => by
  obtain ⟨o', ho', e, he, hb, hon⟩ := Region.waitsFor_spec hw
  obtain rfl : o' = ox := Option.some.inj (ho'.symm.trans hx)
  rw [← hon]; exact ha e he hb
 intro f
 induction f with
 | zero => exact one
 | succ f ih =>
  intro x i ox hx ha hl
  simp only [Proofs.YtbdcpealkllfnaaDoor.behind, Bool.or_eq_true] at hl
  rcases hl with hl | hl
  ·
   exact one x i ox hx ha hl
  ·
   obtain ⟨j, _, hj⟩ := List.any_eq_true.1 hl
   simp only [Bool.and_eq_true] at hj
   have h1 := one x j ox hx ha hj.1
   cases hoj : ops[j]? with
   | none =>
    have h2 := hj.2
    exfalso
    cases f with
    | zero => obtain ⟨o', ho', _⟩ := Region.waitsFor_spec h2; rw [hoj] at ho'; cases ho'
    | succ f =>
     simp only [Proofs.YtbdcpealkllfnaaDoor.behind, Bool.or_eq_true, List.any_eq_true, Bool.and_eq_true] at h2
     rcases h2 with h2 | ⟨_, _, h2, _⟩ <;> (obtain ⟨o', ho', _⟩ := Region.waitsFor_spec h2; rw [hoj] at ho'; cases ho')
   | some oj => exact ih j i oj hoj (fun e he hb => h j oj hoj h1 e he hb) hj.2

/-- whatever order is picked from here on, S holding behind each operation but those of X -/
def AnyZ (P : Program) (md : Region.Mode) (ops : Array Oper) (Q : Exit → Act → World → Prop) (S : World → Prop) (X : Nat → Bool) : Nat → Array Bool → Act → World → Prop
 | 0, listed, a, w => Region.ready md ops listed = [] ∧ Q .normal a w
 | f + 1, listed, a, w => (Region.ready md ops listed = [] → Q .normal a w) ∧
  ∀ i ∈ Region.ready md ops listed, wpOp P ops Q i (fun a' w' => (X i = false → S w') ∧ AnyZ P md ops Q S X f (listed.setIfInBounds i true) a' w') a w

theorem AnyZ.any : ∀ (f : Nat) (listed : Array Bool) (a : Act) (w : World), AnyZ P md ops Q S X f listed a w → wpAny P md ops Q f listed a w
 | 0, _, _, _, h => h
 | f + 1, _, _, _, h => ⟨h.1, fun i hi => wpOp_mono (fun a' w' h' => AnyZ.any f _ a' w' h'.2) (h.2 i hi)⟩

theorem AnyZ.first {i : Nat} {oi : Oper} {v : Value} (hi : ops[i]? = some oi) (hsel : ∀ (j : Nat) (o : Oper) cs b, ops[j]? = some o → o.op ≠ .select cs b)
  (hQ : ∀ c a w, Q (.panic c) (a.put oi.dst v) w → Q (.panic c) a w) (hX : ∀ x, x < ops.size → X x = true → behind md ops ops.size x i = true) :
  ∀ (f : Nat) (listed : Array Bool) (a : Act) (w : World), Shut md ops listed →
   (∀ j oj, ops[j]? = some oj → j ≠ i → listed.getD j true = false → (∀ e ∈ oj.after, Region.binds md e = true → e.on ≠ i) → oi.apart ops oj = true) →
   i ∈ Region.ready md ops listed → YieldsIf P ops S oi v a → S w →
   AnyZ P md ops Q S X f (listed.setIfInBounds i true) (a.put oi.dst v) w → AnyZ P md ops Q S X (f + 1) listed a w := by
 intro f
 induction f with
 | zero =>
  intro listed a w _ _ hr hy hS H
  refine ⟨fun h => (by rw [h] at hr; cases hr), fun j hj => ?_⟩
  by_cases hji : j = i
  ·
   subst hji; exact hy.wpOp hi hS ⟨fun _ => hS, H⟩
  ·
   have := ready_mono hj hji
   rw [H.1] at this
   cases this
 | succ f ih =>
  intro listed a w hsh hfree hr hy hS H
  refine ⟨fun h => (by rw [h] at hr; cases hr), fun j hj => ?_⟩
  by_cases hji : j = i
  ·
   subst hji; exact hy.wpOp hi hS ⟨fun _ => hS, H⟩
  have h1 := H.2 j (ready_mono hj hji)
  obtain ⟨hjun, oj, hoj, hall⟩ := mem_ready.1 hj
  have hiun := (mem_ready.1 hr).1
  have hXj : X j = false := by
   cases hx : X j with
   | false => rfl
   | true =>
    have hl := hsh.behind _ j i oj hoj hall (hX j (Array.getElem?_eq_some_iff.1 hoj).1 hx)
    rw [getD_both hiun] at hl; cases hl
  have hnot : ∀ e ∈ oj.after, Region.binds md e = true → e.on ≠ i := fun e he hb heq => by
   have hl := hall e he hb
   rw [heq, getD_both hiun] at hl; cases hl
  have h2 := wpOp_putIf hoj (hfree j oj hoj hji hjun hnot) (fun cs b => hsel i oi cs b hi) (fun cs b => hsel j oj cs b hoj) hQ hy h1
  have hfree' : ∀ k ok, ops[k]? = some ok → k ≠ i → (listed.setIfInBounds j true).getD k true = false →
    (∀ e ∈ ok.after, Region.binds md e = true → e.on ≠ i) → oi.apart ops ok = true := fun k ok hk hki hun hno => by
   refine hfree k ok hk hki ?_ hno
   by_cases hjk : j = k
   ·
    subst hjk; exact hjun
   ·
    rwa [getD_set_ne true hjk] at hun
  refine wpOp_mono (fun a' w' h3 => ⟨h3.2.1, ih _ a' w' (hsh.more hj) hfree' (ready_mono hr (Ne.symm hji)) h3.1 (h3.2.1 hXj) ?_⟩) h2
  rw [Array.setIfInBounds_comm _ _ hji]
  exact h3.2.2

theorem put_defers (a : Act) (d : Option Tmp) (v : Value) : (a.put d v).defers = a.defers := by cases d <;> rfl

/-- these come up first, in this order -/
def setAll : List Nat → Array Bool → Array Bool
 | [], l => l
 | i :: is, l => setAll is (l.setIfInBounds i true)
def mayB (md : Region.Mode) (ops : Array Oper) (xs : List Nat) : List Nat → Array Bool → Bool
 | [], _ => true
 | i :: is, l => (Region.ready md ops l).contains i && Region.free md ops l i && (xs.all fun x => behind md ops ops.size x i) && mayB md ops xs is (l.setIfInBounds i true)
def Heads (P : Program) (ops : Array Oper) (S : World → Prop) (R : Act → Prop) : List Nat → Act → Prop
 | [], a => R a
 | i :: is, a => ∃ o v, ops[i]? = some o ∧ YieldsIf P ops S o v a ∧ Heads P ops S R is (a.put o.dst v)
theorem Heads.step {i : Nat} {is : List Nat} {o : Oper} {v : Value} {R : Act → Prop} {a : Act} (ho : ops[i]? = some o) (hw : Region.wanted o (yielded ops a.tmps) = true) (hv : ∀ w, S w → (execOp a.eval o).run P w = .ok (.value v) w)
  (h : Heads P ops S R is (a.put o.dst v)) : Heads P ops S R (i :: is) a := ⟨o, v, ho, .inl ⟨hw, hv⟩, h⟩
theorem Heads.skip {i : Nat} {is : List Nat} {o : Oper} {R : Act → Prop} {a : Act} (ho : ops[i]? = some o) (hw : Region.wanted o (yielded ops a.tmps) = false)
  (h : Heads P ops S R is (a.put o.dst undef)) : Heads P ops S R (i :: is) a := ⟨o, undef, ho, .inr ⟨hw, rfl⟩, h⟩

theorem AnyZ.heads {xs : List Nat} (hsel : Region.noSelect ops = true) (hQ : ∀ c a a' w, a'.defers = a.defers → Q (.panic c) a' w → Q (.panic c) a w) {g : Nat} {w : World} (hS : S w) :
  ∀ (is : List Nat) (listed : Array Bool) (a : Act), Shut md ops listed → mayB md ops xs is listed = true → Heads P ops S (fun a' => AnyZ P md ops Q S (fun x => xs.contains x) g (setAll is listed) a' w) is a →
   AnyZ P md ops Q S (fun x => xs.contains x) (is.length + g) listed a w
 | [], _, _, _, _, h => by rw [List.length_nil, Nat.zero_add]; exact h
 | i :: is, listed, a, hsh, hB, ⟨o, v, ho, hy, h⟩ => by
  simp only [mayB, Bool.and_eq_true, List.all_eq_true] at hB
  obtain ⟨⟨⟨hr, hf⟩, hx⟩, hB'⟩ := hB
  have hr' : i ∈ Region.ready md ops listed := by simpa using hr
  rw [List.length_cons, show is.length + 1 + g = (is.length + g) + 1 by omega]
  exact AnyZ.first ho (Region.noSelect_spec hsel) (fun c a w => hQ c a _ w (put_defers a _ _)) (fun x _ hxx => hx x (by simpa using hxx)) _ _ _ _ hsh (Region.free_spec ho hf) hr' hy hS
   (AnyZ.heads hsel hQ hS is _ _ (hsh.more hr') hB' h)

/-- the one that may come up now -/
theorem AnyZ.one {i f : Nat} {o : Oper} {listed : Array Bool} {a : Act} {w : World} (hr : Region.ready md ops listed = [i]) (ho : ops[i]? = some o)
  (h : ∀ K : Act → World → Prop, (∀ a' w', (X i = false → S w') → AnyZ P md ops Q S X f (listed.setIfInBounds i true) a' w' → K a' w') → if Region.wanted o (yielded ops a.tmps) = true then Oper.wp P o a w K Q else K (a.put o.dst undef) w) :
  AnyZ P md ops Q S X (f + 1) listed a w := by
 refine ⟨fun h0 => (by rw [hr] at h0; cases h0), fun j hj => ?_⟩
 rw [hr] at hj
 obtain rfl : j = i := by simpa using hj
 have h1 := h (fun a' w' => (X j = false → S w') ∧ AnyZ P md ops Q S X f (listed.setIfInBounds j true) a' w') (fun a' w' h1 h2 => ⟨h1, h2⟩)
 unfold wpOp
 simp only [ho]
 by_cases hw : Region.wanted o (yielded ops a.tmps) = true
 ·
  rw [if_pos hw] at h1 ⊢
  exact .inl h1
 ·
  rw [if_neg hw] at h1 ⊢
  exact h1
theorem AnyZ.done {f : Nat} {listed : Array Bool} {a : Act} {w : World} (hr : Region.ready md ops listed = []) (h : Q .normal a w) : AnyZ P md ops Q S X f listed a w := by
 cases f with
 | zero => exact ⟨hr, h⟩
 | succ f => exact ⟨fun _ => h, fun i hi => by rw [hr] at hi; cases hi⟩

/-- the beginning -/
theorem wp_region_z {id : Nat} {a : Act} {w : World} {ops : Array Oper} (S : World → Prop) (is xs : List Nat) (hm : P.follows .mixedOrders = true) (hsel : Region.noSelect ops = true) (hB : mayB .any ops xs is (Array.replicate ops.size false) = true)
  (hsz : ops.size = is.length + (ops.size - is.length))
  (hQ : ∀ c a a' w, a'.defers = a.defers → Q (.panic c) a' w → Q (.panic c) a w) (hS : S w.drew)
  (h : Heads P ops S (fun a' => AnyZ P .any ops Q S (fun x => xs.contains x) (ops.size - is.length) (setAll is (Array.replicate ops.size false)) a' w.drew) is a) : (Code.region id ops true).wp P Q a w := by
 refine wp_region_any hm (AnyZ.any (S := S) (X := fun x => xs.contains x) _ _ _ _ ?_)
 have := AnyZ.heads (md := .any) (Q := Q) (xs := xs) hsel hQ (g := ops.size - is.length) hS is _ a Shut.start hB h
 rw [← hsz] at this
 exact this
end
end Go.Proofs.YtbdcpealkllfnaaDoor
namespace Go.Proofs.YtbdcpealkllfnaaDoor
open Go.RowKit Go.Deep

section
variable {P : Program} {md : Region.Mode} {ops : Array Oper} {Q : Exit → Act → World → Prop} {S S' : World → Prop} {X X' : Nat → Bool}
@[go_sem] theorem run_store_nilFunc {w : World} {a : Addr} {m : Mode} : (store a .nilFunc m).run P w = stored P w a .nilFunc m := run_store P w a _ m rfl
@[go_sem] theorem run_store_func {w : World} {a : Addr} {m : Mode} (f : Fn) (x y : Array Value) : (store a (.func f x y) m).run P w = stored P w a (.func f x y) m := run_store P w a _ m rfl
/-- a stricter condition on the world from here on -/
theorem AnyZ.weaken (h : ∀ w, S' w → S w) (hx : ∀ i, X i = false → X' i = false) : ∀ (f : Nat) (listed : Array Bool) (a : Act) (w : World), AnyZ P md ops Q S' X' f listed a w → AnyZ P md ops Q S X f listed a w
 | 0, _, _, _, h0 => h0
 | f + 1, _, _, _, h0 => ⟨h0.1, fun i hi => wpOp_mono (fun a' w' h' => ⟨fun hxi => h w' (h'.1 (hx i hxi)), AnyZ.weaken h hx f _ a' w' h'.2⟩) (h0.2 i hi)⟩
theorem AnyZ.two {i j f : Nat} {o oj : Oper} {listed : Array Bool} {a : Act} {w : World} (hr : Region.ready md ops listed = [i, j]) (ho : ops[i]? = some o) (hoj : ops[j]? = some oj)
  (h : ∀ K : Act → World → Prop, (∀ a' w', (X i = false → S w') → AnyZ P md ops Q S X f (listed.setIfInBounds i true) a' w' → K a' w') → if Region.wanted o (yielded ops a.tmps) = true then Oper.wp P o a w K Q else K (a.put o.dst undef) w)
  (h' : ∀ K : Act → World → Prop, (∀ a' w', (X j = false → S w') → AnyZ P md ops Q S X f (listed.setIfInBounds j true) a' w' → K a' w') → if Region.wanted oj (yielded ops a.tmps) = true then Oper.wp P oj a w K Q else K (a.put oj.dst undef) w) :
  AnyZ P md ops Q S X (f + 1) listed a w := by
 refine ⟨fun h0 => (by rw [hr] at h0; cases h0), fun k hk => ?_⟩
 rw [hr] at hk
 have hk2 : k = i ∨ k = j := by simpa using hk
 rcases hk2 with rfl | rfl
 ·
  have h1 := h (fun a' w' => (X k = false → S w') ∧ AnyZ P md ops Q S X f (listed.setIfInBounds k true) a' w') (fun a' w' h1 h2 => ⟨h1, h2⟩)
  unfold wpOp
  simp only [ho]
  by_cases hw : Region.wanted o (yielded ops a.tmps) = true
  ·
   rw [if_pos hw] at h1 ⊢
   exact .inl h1
  ·
   rw [if_neg hw] at h1 ⊢
   exact h1
 ·
  have h1 := h' (fun a' w' => (X k = false → S w') ∧ AnyZ P md ops Q S X f (listed.setIfInBounds k true) a' w') (fun a' w' h1 h2 => ⟨h1, h2⟩)
  unfold wpOp
  simp only [hoj]
  by_cases hw : Region.wanted oj (yielded ops a.tmps) = true
  ·
   rw [if_pos hw] at h1 ⊢
   exact .inl h1
  ·
   rw [if_neg hw] at h1 ⊢
   exact h1
def shutB (md : Region.Mode) (ops : Array Oper) (listed : Array Bool) : Bool :=
 (List.range ops.size).all fun j => !listed.getD j false || (match ops[j]? with | some o => o.after.toList.all (fun e => !Region.binds md e || listed.getD e.on false) | none => true)
theorem shut_of {listed : Array Bool} (h : shutB md ops listed = true) : Shut md ops listed := by
 intro j oj hj hl e he hb
 have hlt : j < ops.size := (Array.getElem?_eq_some_iff.1 hj).1
 have h1 := List.all_eq_true.1 h j (by simpa using hlt)
 rw [hl, hj] at h1
 simp only [Bool.not_true, Bool.false_or, List.all_eq_true] at h1
 have h2 := h1 e (by simpa using he)
 rw [hb] at h2
 simpa using h2
/-- reads in the middle -/
theorem AnyZ.mid {f : Nat} {w : World} {listed : Array Bool} {a : Act} (is xs : List Nat) (g : Nat) (hf : f = is.length + g) (hsel : Region.noSelect ops = true) (hsh : shutB md ops listed = true) (hB : mayB md ops xs is listed = true)
  (hQ : ∀ c a a' w, a'.defers = a.defers → Q (.panic c) a' w → Q (.panic c) a w) (hS : S w)
  (h : Heads P ops S (fun a' => AnyZ P md ops Q S (fun x => xs.contains x) g (setAll is listed) a' w) is a) : AnyZ P md ops Q S (fun x => xs.contains x) f listed a w := by
 subst hf
 exact AnyZ.heads hsel hQ hS is listed a (shut_of hsh) hB h
end
end Go.Proofs.YtbdcpealkllfnaaDoor
