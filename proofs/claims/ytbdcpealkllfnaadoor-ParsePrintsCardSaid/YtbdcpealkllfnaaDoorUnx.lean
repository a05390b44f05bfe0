/- A law for statements that draw their order and only read, reckon and make memory: each operation leaves the same value in every world that meets S, and S stands behind it; then one order serves for all. No condition. Steps over the list of what the temporaries hold: the laws of text Unf in a shorter form. No condition. -/
import Derived.Test.YtbdcpealkllfnaaDoorBst
import Derived.Deep.MidRow
namespace Go.Proofs.YtbdcpealkllfnaaDoor
open Go.RowKit Go.Deep

section
variable {P : Program} {md : Region.Mode} {ops : Array Oper} {Q : Exit → Act → World → Prop} {S S' : World → Prop}

/-- run in a world that meets S, it leaves v, and S stands -/
def UniX (P : Program) (S : World → Prop) (v : Value) : Result Next → Prop
 | .ok (.value u) w => u = v ∧ S w
 | .ok .skip w => v = undef ∧ S w
 | .ok (.enter f args) w => Calls P f args w (fun e w' => e = .returned v ∧ S w')
 | _ => False
/-- .. operation o in state a; S' stands behind it -/
def Uni (P : Program) (ops : Array Oper) (S S' : World → Prop) (o : Oper) (v : Value) (a : Act) : Prop :=
 (Region.wanted o (yielded ops a.tmps) = true ∧ ∀ w, S w → UniX P S' v ((execOp a.eval o).run P w)) ∨ (Region.wanted o (yielded ops a.tmps) = false ∧ v = undef ∧ ∀ w, S w → S' w)
theorem Uni.same {o : Oper} {v : Value} {a a' : Act} (h : Uni P ops S S' o v a) (he : execOp a'.eval o = execOp a.eval o) (hw : Region.wanted o (yielded ops a'.tmps) = Region.wanted o (yielded ops a.tmps)) : Uni P ops S S' o v a' := by
 unfold Uni at *
 rw [he, hw]; exact h
theorem Uni.upon {o : Oper} {v : Value} {a : Act} {K : Act → World → Prop} {w : World} (hv : ∀ w, S w → UniX P S' v ((execOp a.eval o).run P w)) (hS : S w) (hK : ∀ w', S' w' → K (a.put o.dst v) w') : o.wp P a w K Q := by
 have h1 := hv w hS
 unfold Oper.wp
 generalize (execOp a.eval o).run P w = r at h1
 match r, h1 with
 | .ok (.value u) w', h1 => obtain ⟨rfl, h2⟩ := h1; exact hK _ h2
 | .ok .skip w', h1 => obtain ⟨rfl, h2⟩ := h1; exact hK _ h2
 | .ok (.enter f args) w', h1 =>
  refine Calls.mono h1 fun e w'' he => ?_
  obtain ⟨rfl, h2⟩ := he
  exact hK _ h2
theorem Uni.op {i : Nat} {o : Oper} {v : Value} {a : Act} (hi : ops[i]? = some o) (h : Uni P ops S S' o v a) {K : Act → World → Prop} {w : World} (hS : S w) (hK : ∀ w', S' w' → K (a.put o.dst v) w') : wpOp P ops Q i K a w := by
 unfold wpOp
 simp only [hi]
 rcases h with ⟨hw, hv⟩ | ⟨hw, rfl, hSS⟩
 ·
  simp only [hw, if_true]
  exact .inl (Uni.upon hv hS hK)
 ·
  simp only [hw, Bool.false_eq_true, if_false]; exact hK _ (hSS w hS)

/-- whatever order is picked from here on -/
def UAny (P : Program) (md : Region.Mode) (ops : Array Oper) (Q : Exit → Act → World → Prop) (S : World → Prop) : Nat → Array Bool → Act → Prop
 | 0, listed, a => Region.ready md ops listed = [] ∧ ∀ w, S w → Q .normal a w
 | f + 1, listed, a => (Region.ready md ops listed = [] → ∀ w, S w → Q .normal a w) ∧
  ∀ i ∈ Region.ready md ops listed, ∃ o v, ops[i]? = some o ∧ Uni P ops S S o v a ∧ UAny P md ops Q S f (listed.setIfInBounds i true) (a.put o.dst v)
theorem UAny.any : ∀ (f : Nat) (listed : Array Bool) (a : Act) (w : World), S w → UAny P md ops Q S f listed a → wpAny P md ops Q f listed a w
 | 0, _, _, _, hS, h => ⟨h.1, h.2 _ hS⟩
 | f + 1, _, _, _, hS, h => ⟨fun h0 => h.1 h0 _ hS, fun i hi => by
  obtain ⟨o, v, ho, hy, hr⟩ := h.2 i hi
  exact hy.op ho hS (fun w' hS' => UAny.any f _ _ w' hS' hr)⟩
theorem UAny.first {i : Nat} {oi : Oper} {v : Value} (hi : ops[i]? = some oi) (hsel : ∀ (j : Nat) (o : Oper) cs b, ops[j]? = some o → o.op ≠ .select cs b) :
  ∀ (f : Nat) (listed : Array Bool) (a : Act),
   (∀ j oj, ops[j]? = some oj → j ≠ i → listed.getD j true = false → (∀ e ∈ oj.after, Region.binds md e = true → e.on ≠ i) → oi.apart ops oj = true) →
   i ∈ Region.ready md ops listed → Uni P ops S S oi v a → UAny P md ops Q S f (listed.setIfInBounds i true) (a.put oi.dst v) → UAny P md ops Q S (f + 1) listed a := by
 intro f
 induction f with
 | zero =>
  intro listed a _ hr hy H
  refine ⟨fun h => (by rw [h] at hr; cases hr), fun j hj => ?_⟩
  by_cases hji : j = i
  ·
   subst hji; exact ⟨oi, v, hi, hy, H⟩
  ·
   have := ready_mono hj hji
   rw [H.1] at this
   cases this
 | succ f ih =>
  intro listed a hfree hr hy H
  refine ⟨fun h => (by rw [h] at hr; cases hr), fun j hj => ?_⟩
  by_cases hji : j = i
  ·
   subst hji; exact ⟨oi, v, hi, hy, H⟩
  obtain ⟨oj, u, hoj, hyj, H2⟩ := H.2 j (ready_mono hj hji)
  obtain ⟨hjun, oj', hoj', hall⟩ := mem_ready.1 hj
  obtain rfl : oj = oj' := Option.some.inj (hoj.symm.trans hoj')
  have hiun := (mem_ready.1 hr).1
  have hnot : ∀ e ∈ oj.after, Region.binds md e = true → e.on ≠ i := fun e he hb heq => by
   have hl := hall e he hb
   rw [heq, getD_both hiun] at hl; cases hl
  obtain ⟨h1, h2, h3⟩ := Oper.apart_spec (hfree j oj hoj hji hjun hnot)
  have hyj' : Uni P ops S S oj u a := hyj.same (execOp_put oj (fun cs b => hsel j oj cs b hoj) a oi.dst v h1).symm (wanted_put oj a oi.dst v h1).symm
  have hyi' : Uni P ops S S oi v (a.put oj.dst u) := hy.same (execOp_put oi (fun cs b => hsel i oi cs b hi) a oj.dst u h3) (wanted_put oi a oj.dst u h3)
  have hfree' : ∀ k ok, ops[k]? = some ok → k ≠ i → (listed.setIfInBounds j true).getD k true = false →
    (∀ e ∈ ok.after, Region.binds md e = true → e.on ≠ i) → oi.apart ops ok = true := fun k ok hk hki hun hno => by
   refine hfree k ok hk hki ?_ hno
   by_cases hjk : j = k
   ·
    subst hjk; exact hjun
   ·
    rwa [getD_set_ne true hjk] at hun
  refine ⟨oj, u, hoj, hyj', ih _ _ hfree' (ready_mono hr (Ne.symm hji)) hyi' ?_⟩
  rw [Array.setIfInBounds_comm _ _ hji, ← Act.put_comm a v u h2]
  exact H2

/-- all of them, in this order -/
def mayU (md : Region.Mode) (ops : Array Oper) : List Nat → Array Bool → Bool
 | [], l => (Region.ready md ops l).isEmpty
 | i :: is, l => (Region.ready md ops l).contains i && Region.free md ops l i && mayU md ops is (l.setIfInBounds i true)
def Chain (P : Program) (ops : Array Oper) (S : World → Prop) (R : Act → Prop) : List Nat → Act → Prop
 | [], a => R a
 | i :: is, a => ∃ o v, ops[i]? = some o ∧ Uni P ops S S o v a ∧ Chain P ops S R is (a.put o.dst v)
theorem Chain.uany (hsel : Region.noSelect ops = true) : ∀ (is : List Nat) (listed : Array Bool) (a : Act), mayU md ops is listed = true → Chain P ops S (fun a' => ∀ w, S w → Q .normal a' w) is a → UAny P md ops Q S is.length listed a
 | [], listed, a, hB, h => ⟨by simpa [mayU] using hB, h⟩
 | i :: is, listed, a, hB, ⟨o, v, ho, hy, h⟩ => by
  simp only [mayU, Bool.and_eq_true] at hB
  obtain ⟨⟨hr, hf⟩, hB'⟩ := hB
  have hr' : i ∈ Region.ready md ops listed := by simpa using hr
  exact UAny.first ho (Region.noSelect_spec hsel) _ _ _ (Region.free_spec ho hf) hr' hy (Chain.uany hsel is _ _ hB' h)
/-- one operation after the other; the condition stands still -/
def ChO (P : Program) (ops : Array Oper) (S : World → Prop) (R : Act → Prop) : List Oper → Act → Prop
 | [], a => R a
 | o :: os, a => ∃ v, Uni P ops S S o v a ∧ ChO P ops S R os (a.put o.dst v)
theorem ChO.chain {R : Act → Prop} : ∀ (l : List Oper) (k : Nat) (a : Act), (∀ j, j < l.length → l[j]? = ops[k + j]?) → ChO P ops S R l a → Chain P ops S R (List.range' k l.length) a
 | [], _, _, _, h => h
 | o :: os, k, a, hj, ⟨v, hy, h⟩ => by
  rw [List.length_cons, List.range'_succ]
  refine ⟨o, v, by simpa using (hj 0 (by simp)).symm, hy, ChO.chain os (k + 1) _ (fun j hlt => ?_) h⟩
  have := hj (j + 1) (by simpa using hlt)
  simpa [Nat.add_assoc, Nat.add_comm 1 j] using this
/-- a statement that draws its order -/
theorem wp_region_u {id : Nat} {a : Act} {w : World} {l : List Oper} (S : World → Prop) (hm : P.follows .mixedOrders = true) (hsel : Region.noSelect l.toArray = true) (hB : mayU .any l.toArray (List.range' 0 l.length) (Array.replicate l.toArray.size false) = true)
  (hS : S w.drew) (h : ChO P l.toArray S (fun a' => ∀ w', S w' → Q .normal a' w') l a) : (Code.region id l.toArray true).wp P Q a w := by
 refine wp_region_any hm (UAny.any (S := S) _ _ _ _ hS ?_)
 have := Chain.uany (md := .any) (Q := Q) hsel (List.range' 0 l.length) (Array.replicate l.toArray.size false) a hB (ChO.chain l 0 a (fun j _ => by simp) h)
 rw [List.length_range'] at this
 rw [List.size_toArray] at this ⊢
 exact this
/-- from here on, in every world that meets S -/
def ChS (P : Program) (ops : Array Oper) (Q : Exit → Act → World → Prop) (S : World → Prop) (l : List Oper) (a : Act) : Prop := ∀ w, S w → wpList P ops Q l a w
theorem ChS.start {l : List Oper} {a : Act} {w : World} (hS : S w) (h : ChS P ops Q S l a) : wpList P ops Q l a w := h w hS
theorem ChS.done {a : Act} (h : ∀ w, S w → Q .normal a w) : ChS P ops Q S [] a := h
theorem ChS.step {o : Oper} {os : List Oper} {v : Value} {a : Act} (hy : Uni P ops S S' o v a) (h : ChS P ops Q S' os (a.put o.dst v)) : ChS P ops Q S (o :: os) a := fun w hS => by
 unfold wpList
 rcases hy with ⟨hw, hv⟩ | ⟨hw, rfl, hSS⟩
 ·
  simp only [hw, if_true]
  exact .inl (Uni.upon hv hS h)
 ·
  simp only [hw, Bool.false_eq_true, if_false]; exact h w (hSS w hS)
theorem ChO.step {o : Oper} {os : List Oper} {v : Value} {a : Act} {R : Act → Prop} (hy : Uni P ops S S o v a) (h : ChO P ops S R os (a.put o.dst v)) : ChO P ops S R (o :: os) a := ⟨v, hy, h⟩
theorem ChO.done {a : Act} {R : Act → Prop} (h : R a) : ChO P ops S R [] a := h

/-! ### What an operation leaves -/
section
variable {o : Oper} {a : Act}
theorem Uni.run {v : Value} (hg : Region.wanted o (yielded ops a.tmps) = true) (hv : ∀ w, S w → (execOp a.eval o).run P w = .ok (.value v) w) : Uni P ops S S o v a := .inl ⟨hg, fun w hS => by rw [hv w hS]; exact ⟨rfl, hS⟩⟩
theorem Uni.skip (hg : Region.wanted o (yielded ops a.tmps) = false) : Uni P ops S S o undef a := .inr ⟨hg, rfl, fun _ h => h⟩
theorem Uni.move {x : Operand} {v : Value} (hg : Region.wanted o (yielded ops a.tmps) = true) (hop : o.op = .move x) (hx : a.eval x = v) : Uni P ops S S o v a :=
 .run hg fun w _ => by simp only [execOp, hop, hx, Sem.run_pure]
theorem Uni.assign {x : Operand} {v : Value} (hg : Region.wanted o (yielded ops a.tmps) = true) (hop : o.op = .assign x) (hx : a.eval x = v) : Uni P ops S S o v a :=
 .run hg fun w _ => by simp only [execOp, hop, hx, Sem.run_pure]
/-- field f of struct s lies k cells from its beginning -/
def FieldAt (P : Program) (s f k : Nat) : Prop := ∀ (b off : Nat) (w : World), (Instr.fieldAt s (.pointer (some ⟨b, off, none⟩)) f).run P w = .ok (.pointer (some ⟨b, off + k, none⟩)) w
theorem Uni.field {s : TypeId} {x : Operand} {f b off k m : Nat} (hg : Region.wanted o (yielded ops a.tmps) = true) (hop : o.op = .fieldAddr s x f) (hx : a.eval x = .pointer (some ⟨b, off, none⟩)) (hf : FieldAt P s f k) (hm : off + k = m) : Uni P ops S S o (.pointer (some ⟨b, m, none⟩)) a :=
 .run hg fun w _ => by subst hm; simp only [execOp, hop, hx, Sem.run_bind, hf b off w, Result.andThen_ok, Sem.run_pure]
/-- element i of a slice whose elements have z cells -/
theorem Uni.index {t : TypeId} {x ix : Operand} {b off n c z m : Nat} {i : Int} {k : Nat} {kk : IntKind} (hg : Region.wanted o (yielded ops a.tmps) = true) (hop : o.op = .indexAddr t x ix) (hx : a.eval x = .slice (some ⟨b, off, none⟩) n c) (hix : a.eval ix = .int kk i) (hk : i = (k : Int)) (hlt : k < n)
  (ht : P.underlying t = some (.slice (P.elem t))) (hz : ∀ w, (sizeOf (P.elem t)).run P w = .ok z w) (hm : off + k * z = m) : Uni P ops S S o (.pointer (some ⟨b, m, none⟩)) a :=
 .run hg fun w _ => by
  subst hm; subst hk
  simp only [execOp, hop, hx, hix, Sem.run_bind, run_indexAt_slice w t ⟨b, off, none⟩ n c kk (k : Int) ht, hz w, Result.andThen_ok, Int.toNat_natCast, add_eq]
  rw [if_pos ⟨by omega, by omega⟩]
  simp only [Result.andThen_ok, Sem.run_pure]
/-- element i of an array that a pointer leads to -/
theorem Uni.indexA {t : TypeId} {x ix : Operand} {b off z m : Nat} {i : Int} {k : Nat} {kk : IntKind} (hg : Region.wanted o (yielded ops a.tmps) = true) (hop : o.op = .indexAddr t x ix) (hx : a.eval x = .pointer (some ⟨b, off, none⟩)) (hix : a.eval ix = .int kk i) (hk : i = (k : Int)) (hlt : k < P.arrayLen t)
  (ht : P.underlying t = some (.array (P.arrayLen t) (P.elem t))) (hz : ∀ w, (sizeOf (P.elem t)).run P w = .ok z w) (hm : off + k * z = m) : Uni P ops S S o (.pointer (some ⟨b, m, none⟩)) a :=
 .run hg fun w _ => by
  subst hm; subst hk
  simp only [execOp, hop, hx, hix, Sem.run_bind, run_indexAt_array w t ⟨b, off, none⟩ kk (k : Int) ht, hz w, Result.andThen_ok, Int.toNat_natCast, add_eq]
  rw [if_pos ⟨by omega, by omega⟩]
  simp only [Result.andThen_ok, Sem.run_pure]
/-- variables of type ty are read as one cell -/
def CellT (P : Program) (ty : TypeId) : Prop := ∀ (p : Addr) (v : Value) (w : World), w.cell? p = some v → (Instr.loadAt ty (.pointer (some p))).run P w = .ok v w
theorem Uni.cell {ty : TypeId} {x : Operand} {b m : Nat} {v : Value} (hg : Region.wanted o (yielded ops a.tmps) = true) (hop : o.op = .load ty x) (hx : a.eval x = .pointer (some ⟨b, m, none⟩)) (hT : CellT P ty) (hS : ∀ w, S w → w.cell? ⟨b, m, none⟩ = some v) : Uni P ops S S o v a :=
 .run hg fun w hw => by simp only [execOp, hop, hx, Sem.run_bind, hT _ _ w (hS w hw), Result.andThen_ok, Sem.run_pure]
/-- a struct that is loaded whole -/
theorem Uni.whole {ty : TypeId} {x : Operand} {b m : Nat} {cs : List Value} {sz : Nat} (hg : Region.wanted o (yielded ops a.tmps) = true) (hop : o.op = .load ty x) (hx : a.eval x = .pointer (some ⟨b, m, none⟩)) (hT : ∃ fs, P.underlying ty = some (.struct fs) ∧ (P.info? ty).map (·.size) = some sz) (hl : cs.length = sz) (hS : ∀ w, S w → w.rangeAt b m cs) : Uni P ops S S o (.agg cs.toArray) a := by
 obtain ⟨fs, hu, hi⟩ := hT
 exact .run hg fun w hw => by simp only [execOp, hop, hx, Instr.loadAt, Instr.sureAddr, Sem.run_bind, Sem.run_pure, Result.andThen_ok, run_loadVar_mid w b m ty cs _ (hS w hw) hu rfl (by rw [hi, hl])]
/-- strings one behind the other -/
theorem Uni.cat {ty : TypeId} {x y : Operand} {t2 : TypeId} {p q z : List UInt8} (hg : Region.wanted o (yielded ops a.tmps) = true) (hop : o.op = .binOp .add ty x y t2) (hx : a.eval x = .string (bstr p)) (hy : a.eval y = .string (bstr q)) (hz : z = p ++ q) (hlen : z.length ≤ 140737488355328) : Uni P ops S S o (.string (bstr z)) a :=
 .run hg fun w _ => by
  have h1 : bstr p ++ bstr q = bstr z := by rw [hz]; exact ByteArray.mk_append_mk p q
  have h2 : (bstr p).size + (bstr q).size ≤ 140737488355328 := by rw [bstr_size, bstr_size, ← List.length_append, ← hz]; exact hlen
  have h3 : (binOp .add ty (.string (bstr p)) (.string (bstr q))).run P w = .ok (.string (bstr z)) w := by
   show (Op.stringOp .add (bstr p) (bstr q)).run P w = _
   rw [run_string_add_sum w _ _ (by omega), h1]
  have h4 : eqGuard .add ty x y (.string (bstr p)) (.string (bstr q)) = pure () := rfl
  simp only [execOp, hop, hx, hy, Sem.run_bind, h4, h3, Sem.run_pure, Result.andThen_ok]
/-- a comparison -/
theorem Uni.gtr {ty : TypeId} {x y : Operand} {t2 : TypeId} {k : IntKind} {p q : Int} {r : Bool} (hg : Region.wanted o (yielded ops a.tmps) = true) (hop : o.op = .binOp .gtr ty x y t2) (hx : a.eval x = .int k p) (hy : a.eval y = .int k q) (hr : decide (q < p) = r) : Uni P ops S S o (.bool r) a :=
 .run hg fun w _ => by
  have h4 : eqGuard .gtr ty x y (.int k p) (.int k q) = pure () := rfl
  have h5 : (p > q) = (q < p) := rfl
  simp only [execOp, hop, hx, hy, h4, binOp_gtr, Sem.run_bind, Sem.run_pure, Result.andThen_ok, h5, hr]
theorem Uni.eql {ty : TypeId} {x y : Operand} {t2 : TypeId} {k : IntKind} {p q : Int} {r : Bool} (hg : Region.wanted o (yielded ops a.tmps) = true) (hop : o.op = .binOp .eql ty x y t2) (hx : a.eval x = .int k p) (hy : a.eval y = .int k q) (hr : (p == q) = r) : Uni P ops S S o (.bool r) a :=
 .run hg fun w _ => by
  have h4 : eqGuard .eql ty x y (.int k p) (.int k q) = pure () := rfl
  simp only [execOp, hop, hx, hy, h4, binOp_eql, Sem.run_bind, Sem.run_pure, Result.andThen_ok, hr]
/-- a slice's length -/
theorem Uni.len {x : Operand} {t : TypeId} {A : Option Addr} {n cap : Nat} (hg : Region.wanted o (yielded ops a.tmps) = true) (hop : o.op = .call { callee := .builtin .len, args := #[x], argTypes := #[t] }) (hx : a.eval x = .slice A n cap) (ht : P.underlying t = some (.slice (P.elem t))) : Uni P ops S S o (.int .i64 n) a :=
 .run hg fun w _ => by
  have := run_len_slice (P := P) w t o.type A n cap ht
  have h1 : (#[x] : Array Operand).map a.eval = #[.slice A n cap] := by simp only [List.map_toArray, List.map_cons, List.map_nil, hx]
  simp only [execOp, hop, resolve, h1, Sem.run_bind, Sem.run_pure, Result.andThen_ok, invoke, builtin, this]
  rfl
/-- a call -/
theorem Uni.call {f : FuncId} {l : List Operand} {ats : Array TypeId} {args : List Value} {v : Value} (hg : Region.wanted o (yielded ops a.tmps) = true) (hop : o.op = .call { callee := .value (.func f), args := l.toArray, argTypes := ats }) (hargs : l.map a.eval = args) (hrun : ∀ w, (callFunc f args.toArray).run P w = .ok (.enter f args.toArray) w)
  (hv : ∀ w, S w → Calls P f args.toArray w (fun e w' => e = .returned v ∧ S' w')) : Uni P ops S S' o v a := .inl ⟨hg, fun w hS => by
 have h1 : (execOp a.eval o).run P w = .ok (.enter f args.toArray) w := by
  have h2 : l.toArray.map a.eval = args.toArray := by rw [List.map_toArray, hargs]
  simp [execOp, hop, resolve, h2, invoke, go_sem, Deferred.ofValue, hrun w]
 rw [h1]; exact hv w hS⟩
end
end
end Go.Proofs.YtbdcpealkllfnaaDoor
namespace Go.Proofs.YtbdcpealkllfnaaDoor
open Go.RowKit Go.Deep
section
/-- what is written -/
def setT (ts : List Value) : Option Tmp → Value → List Value
 | none, _ => ts
 | some d, v => ts.set d v
def evT (ts : List Value) : Operand → Value
 | .tmp t => ts.getD t undef
 | .const v => v
 | .global g => .pointer (some ⟨g, 0, none⟩)
 | .func f => .func (.func f) #[] #[]
variable {P : Program} {ops : Array Oper} {Q : Exit → Act → World → Prop} {S S' : World → Prop} {ts : List Value} {df : List Deferred} {o : Oper} {os : List Oper} {v : Value}
theorem evT_eq (x : Operand) : (⟨ts.toArray, df⟩ : Act).eval x = evT ts x := by
 cases x <;> simp [Act.eval, evT, List.getD_eq_getElem?_getD]
theorem put_setT (d : Option Tmp) : (⟨ts.toArray, df⟩ : Act).put d v = ⟨(setT ts d v).toArray, df⟩ := by
 cases d <;> simp [Act.put, setT]
def UT (P : Program) (ops : Array Oper) (S S' : World → Prop) (o : Oper) (v : Value) (ts : List Value) : Prop := ∀ df, Uni P ops S S' o v ⟨ts.toArray, df⟩
def ChT (P : Program) (ops : Array Oper) (Q : Exit → Act → World → Prop) (S : World → Prop) (l : List Oper) (ts : List Value) (df : List Deferred) : Prop := ChS P ops Q S l ⟨ts.toArray, df⟩
def ChU (P : Program) (ops : Array Oper) (Q : Exit → Act → World → Prop) (S : World → Prop) (l : List Oper) (ts : List Value) (df : List Deferred) : Prop := ChO P ops S (fun a' => ∀ w', S w' → Q .normal a' w') l ⟨ts.toArray, df⟩
theorem qs (hy : UT P ops S S' o v ts) (h : ChT P ops Q S' os (setT ts o.dst v) df) : ChT P ops Q S (o :: os) ts df := ChS.step (hy df) (by rw [put_setT]; exact h)
theorem qo (hy : UT P ops S S o v ts) (h : ChU P ops Q S os (setT ts o.dst v) df) : ChU P ops Q S (o :: os) ts df := ChO.step (hy df) (by rw [put_setT]; exact h)
theorem ds (h : ∀ w, S w → Q .normal ⟨ts.toArray, df⟩ w) : ChT P ops Q S [] ts df := h
theorem dO (h : ∀ w, S w → Q .normal ⟨ts.toArray, df⟩ w) : ChU P ops Q S [] ts df := h
theorem rs {id : Nat} {l : List Oper} {w : World} (hS : S w) (h : ChT P l.toArray Q S l ts df) : (Code.region id l.toArray false).wp P Q ⟨ts.toArray, df⟩ w := wp_region_lit (h w hS)
theorem ro {id : Nat} {l : List Oper} {w : World} (hS : S w.drew) (hm : P.follows .mixedOrders = true) (hsel : Region.noSelect l.toArray = true) (hB : mayU .any l.toArray (List.range' 0 l.length) (Array.replicate l.toArray.size false) = true) (h : ChU P l.toArray Q S l ts df) : (Code.region id l.toArray true).wp P Q ⟨ts.toArray, df⟩ w := wp_region_u S hm hsel hB hS h
theorem sC {a v : Value} {l : List Value} {i : Nat} : (a :: l).set (i + 1) v = a :: l.set i v := List.set_cons_succ
theorem sZ {a v : Value} {l : List Value} : (a :: l).set 0 v = v :: l := List.set_cons_zero
theorem wan (hg : o.guard = none) (a : Act) : Region.wanted o (yielded ops a.tmps) = true := by unfold Region.wanted; rw [hg]
theorem uM {x : Operand} (hx : evT ts x = v) (hop : o.op = .move x := by rfl) (hg : o.guard = none := by rfl) : UT P ops S S o v ts := fun _ => Uni.move (wan hg _) hop ((evT_eq x).trans hx)
theorem uMp {x : Operand} {b off : Nat} (hop : o.op = .move x := by rfl) (hx : evT ts x = .pointer (some ⟨b, off, none⟩) := by rfl) (hg : o.guard = none := by rfl) : UT P ops S S o (.pointer (some ⟨b, off, none⟩)) ts := uM hx hop hg
theorem uMi {x : Operand} {k : IntKind} {i : Int} (hop : o.op = .move x := by rfl) (hx : evT ts x = .int k i := by rfl) (hg : o.guard = none := by rfl) : UT P ops S S o (.int k i) ts := uM hx hop hg
theorem uMs {x : Operand} {A : Option Addr} {n c : Nat} (hop : o.op = .move x := by rfl) (hx : evT ts x = .slice A n c := by rfl) (hg : o.guard = none := by rfl) : UT P ops S S o (.slice A n c) ts := uM hx hop hg
theorem uMt {x : Operand} {s : ByteArray} (hop : o.op = .move x := by rfl) (hx : evT ts x = .string s := by rfl) (hg : o.guard = none := by rfl) : UT P ops S S o (.string s) ts := uM hx hop hg
theorem uMb {x : Operand} {r : Bool} (hop : o.op = .move x := by rfl) (hx : evT ts x = .bool r := by rfl) (hg : o.guard = none := by rfl) : UT P ops S S o (.bool r) ts := uM hx hop hg
theorem uMm {x : Operand} {r : Nat} (hop : o.op = .move x := by rfl) (hx : evT ts x = .map (some r) := by rfl) (hg : o.guard = none := by rfl) : UT P ops S S o (.map (some r)) ts := uM hx hop hg
theorem uA {x : Operand} (v : Value) (hop : o.op = .assign x := by rfl) (hx : evT ts x = v := by rfl) (hg : o.guard = none := by rfl) : UT P ops S S o v ts := fun _ => Uni.assign (wan hg _) hop ((evT_eq x).trans hx)
theorem uF {s : TypeId} {x : Operand} {f b off k : Nat} (hf : FieldAt P s f k) (hop : o.op = .fieldAddr s x f := by rfl) (hx : evT ts x = .pointer (some ⟨b, off, none⟩) := by rfl) (hg : o.guard = none := by rfl) : UT P ops S S o (.pointer (some ⟨b, off + k, none⟩)) ts := fun _ => Uni.field (wan hg _) hop ((evT_eq x).trans hx) hf rfl
theorem uI {t : TypeId} {x ix : Operand} {b off n c z : Nat} {i : Int} {kk : IntKind} (k : Nat) (ht : P.underlying t = some (.slice (P.elem t))) (hz : ∀ w, (sizeOf (P.elem t)).run P w = .ok z w) (hop : o.op = .indexAddr t x ix := by rfl) (hx : evT ts x = .slice (some ⟨b, off, none⟩) n c := by rfl) (hix : evT ts ix = .int kk i := by rfl) (hk : i = (k : Int) := by rfl) (hg : o.guard = none := by rfl) (hlt : k < n := by omega) : UT P ops S S o (.pointer (some ⟨b, off + k * z, none⟩)) ts := fun _ => Uni.index (wan hg _) hop ((evT_eq x).trans hx) ((evT_eq ix).trans hix) hk hlt ht hz rfl
theorem uG {t : TypeId} {x ix : Operand} {b off z m : Nat} {i : Int} {kk : IntKind} (k : Nat) (ht : P.underlying t = some (.array (P.arrayLen t) (P.elem t))) (hz : ∀ w, (sizeOf (P.elem t)).run P w = .ok z w) (hlt : k < P.arrayLen t) (hop : o.op = .indexAddr t x ix := by rfl) (hx : evT ts x = .pointer (some ⟨b, off, none⟩) := by rfl) (hix : evT ts ix = .int kk i := by rfl) (hk : i = (k : Int) := by rfl) (hg : o.guard = none := by rfl) (hm : off + k * z = m := by simp) : UT P ops S S o (.pointer (some ⟨b, m, none⟩)) ts := fun _ => Uni.indexA (wan hg _) hop ((evT_eq x).trans hx) ((evT_eq ix).trans hix) hk hlt ht hz hm
theorem uC {ty : TypeId} {x : Operand} {b m : Nat} (hT : CellT P ty) (hS : ∀ w, S w → w.cell? ⟨b, m, none⟩ = some v) (hop : o.op = .load ty x := by rfl) (hx : evT ts x = .pointer (some ⟨b, m, none⟩) := by rfl) (hg : o.guard = none := by rfl) : UT P ops S S o v ts := fun _ => Uni.cell (wan hg _) hop ((evT_eq x).trans hx) hT hS
theorem uW {ty : TypeId} {x : Operand} {b m : Nat} {cs : List Value} {sz : Nat} (hT : ∃ fs, P.underlying ty = some (.struct fs) ∧ (P.info? ty).map (·.size) = some sz) (hl : cs.length = sz) (hS : ∀ w, S w → w.rangeAt b m cs) (hop : o.op = .load ty x := by rfl) (hx : evT ts x = .pointer (some ⟨b, m, none⟩) := by rfl) (hg : o.guard = none := by rfl) : UT P ops S S o (.agg cs.toArray) ts := fun _ => Uni.whole (wan hg _) hop ((evT_eq x).trans hx) hT hl hS
theorem uS {ty : TypeId} {x y : Operand} {t2 : TypeId} {p q : List UInt8} (hop : o.op = .binOp .add ty x y t2 := by rfl) (hx : evT ts x = .string (bstr p) := by rfl) (hy : evT ts y = .string (bstr q) := by rfl) (hg : o.guard = none := by rfl) (hlen : (p ++ q).length ≤ 140737488355328 := by simp; omega) : UT P ops S S o (.string (bstr (p ++ q))) ts := fun _ => Uni.cat (wan hg _) hop ((evT_eq x).trans hx) ((evT_eq y).trans hy) rfl hlen
theorem uSn {ty : TypeId} {x y : Operand} {t2 : TypeId} {p q z : List UInt8} (hz : z = p ++ q) (hop : o.op = .binOp .add ty x y t2 := by rfl) (hx : evT ts x = .string (bstr p) := by rfl) (hy : evT ts y = .string (bstr q) := by rfl) (hg : o.guard = none := by rfl) (hlen : z.length ≤ 140737488355328 := by omega) : UT P ops S S o (.string (bstr z)) ts := fun _ => Uni.cat (wan hg _) hop ((evT_eq x).trans hx) ((evT_eq y).trans hy) hz hlen
theorem uL {x : Operand} {t : TypeId} {A : Option Addr} {n cap : Nat} (ht : P.underlying t = some (.slice (P.elem t))) (hop : o.op = .call { callee := .builtin .len, args := #[x], argTypes := #[t] } := by rfl) (hx : evT ts x = .slice A n cap := by rfl) (hg : o.guard = none := by rfl) : UT P ops S S o (.int .i64 n) ts := fun _ => Uni.len (wan hg _) hop ((evT_eq x).trans hx) ht
theorem uQ {ty : TypeId} {x y : Operand} {t2 : TypeId} {k : IntKind} {p q : Int} {r : Bool} (hop : o.op = .binOp .gtr ty x y t2 := by rfl) (hx : evT ts x = .int k p := by rfl) (hy : evT ts y = .int k q := by rfl) (hg : o.guard = none := by rfl) (hr : decide (q < p) = r := by decide) : UT P ops S S o (.bool r) ts := fun _ => Uni.gtr (wan hg _) hop ((evT_eq x).trans hx) ((evT_eq y).trans hy) hr
theorem uE {ty : TypeId} {x y : Operand} {t2 : TypeId} {k : IntKind} {p q : Int} {r : Bool} (hop : o.op = .binOp .eql ty x y t2 := by rfl) (hx : evT ts x = .int k p := by rfl) (hy : evT ts y = .int k q := by rfl) (hg : o.guard = none := by rfl) (hr : (p == q) = r := by decide) : UT P ops S S o (.bool r) ts := fun _ => Uni.eql (wan hg _) hop ((evT_eq x).trans hx) ((evT_eq y).trans hy) hr
theorem uK {f : FuncId} {l : List Operand} {ats : Array TypeId} {args : List Value} (hrun : ∀ w, (callFunc f args.toArray).run P w = .ok (.enter f args.toArray) w) (hv : ∀ w, S w → Calls P f args.toArray w (fun e w' => e = .returned v ∧ S' w')) (hop : o.op = .call { callee := .value (.func f), args := l.toArray, argTypes := ats } := by rfl) (hargs : l.map (evT ts) = args := by rfl) (hg : o.guard = none := by rfl) : UT P ops S S' o v ts := fun df => Uni.call (wan hg _) hop (by rw [← hargs]; exact List.map_congr_left (fun x _ => evT_eq x)) hrun hv
theorem toT {w : World} {d : Tmp} (hS : S w) (h : ChT P ops Q S os (setT ts (some d) v) df) : wpList P ops Q os ((⟨ts.toArray, df⟩ : Act).put (some d) v) w := by rw [put_setT]; exact h w hS
theorem uR (hv : ∀ df w, S w → (execOp (⟨ts.toArray, df⟩ : Act).eval o).run P w = .ok (.value v) w) (hg : o.guard = none := by rfl) : UT P ops S S o v ts := fun df => Uni.run (wan hg _) (hv df)
end
end Go.Proofs.YtbdcpealkllfnaaDoor
