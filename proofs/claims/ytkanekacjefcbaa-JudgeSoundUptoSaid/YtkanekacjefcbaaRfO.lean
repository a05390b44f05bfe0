/- A queue: a slice that may begin in the midst of its block; append at its end, its head struck. No condition. Maps of literals: which are held; which clauses have a literal. No condition. refute's right and open, the reference's formed, walked. Conditions: the clause lies in memory; its numbers are literals. -/
import Derived.Test.YtkanekacjefcbaaRfP
import Derived.Test.YtkanekacjefcbaaArr
import Derived.ArgAppend
import Derived.Maps.OwnSet
import Derived.Maps.OwnOps
import Derived.Maps.OwnRows
import Derived.Maps.GroupsBeside
import Derived.Deep.QuietTactic
import Derived.BigQuiet
namespace Go.Proofs.Ytkanekacjefcbaa
open Go.RowKit Go.Deep

/-- a slice of ints from somewhere in a block of the call's own on -/
def Tail (w : World) (base : Nat) (A : Option Addr) (n c : Nat) (xs : List Int) : Prop :=
  xs.length = n ∧ n ≤ c ∧ ((A = none ∧ c = 0) ∨ ∃ (g off : Nat) (cur : Array Value), A = some ⟨g, off, none⟩ ∧ base ≤ g ∧ w.heap[g]? = some (.cells cur 3 (0, 0)) ∧ off + c ≤ cur.size ∧ ∀ (k : Nat) (x : Int), xs[k]? = some x → cur[off + k]? = some (.int .i64 x))
theorem Tail.nil (w : World) (base : Nat) : Tail w base none 0 0 [] := ⟨rfl, Nat.le_refl _, .inl ⟨rfl, rfl⟩⟩
section
variable {w w1 : World} {base n c : Nat} {A : Option Addr} {xs : List Int}
theorem Tail.only {S : Nat → Prop} (h : Tail w base A n c xs) (k : Only S w w1) (hs : ∀ b, blockOf A b → ¬ S b) : Tail w1 base A n c xs := by
  refine ⟨h.1, h.2.1, h.2.2.imp id ?_⟩
  rintro ⟨g, off, cur, rfl, hb, hh, r⟩
  exact ⟨g, off, cur, rfl, hb, (k.block g (Array.getElem?_eq_some_iff.1 hh).1 (hs g ⟨_, rfl, rfl⟩)).trans hh, r⟩
theorem Tail.below (h : Tail w base A n c xs) (k : Below w.heap.size w w1) : Tail w1 base A n c xs := by
  refine ⟨h.1, h.2.1, h.2.2.imp id ?_⟩
  rintro ⟨g, off, cur, rfl, hb, hh, r⟩
  exact ⟨g, off, cur, rfl, hb, (k.block g (Array.getElem?_eq_some_iff.1 hh).1).trans hh, r⟩
theorem Tail.lt (h : Tail w base A n c xs) : ∀ b, blockOf A b → base ≤ b ∧ b < w.heap.size := by
  rintro b ⟨a, rfl, rfl⟩
  rcases h.2.2 with ⟨h, _⟩ | ⟨g, off, cur, e, hb, hh, _⟩
  · cases h
  · injection e with e
    subst e
    exact ⟨hb, (Array.getElem?_eq_some_iff.1 hh).1⟩
theorem Tail.typ (h : Tail w base A n c xs) : ∀ b o, w.heap[b]? = some o → (∀ cur, o ≠ .cells cur 3 (0, 0)) → ¬ blockOf A b := by
  rintro b o ho hne ⟨a, rfl, rfl⟩
  rcases h.2.2 with ⟨h, _⟩ | ⟨g, off, cur, e, hb, hh, _⟩
  · cases h
  · injection e with e
    subst e
    rw [hh] at ho
    injection ho with ho
    exact hne cur ho.symm
/-- the head's cell -/
theorem Tail.head {x : Int} (h : Tail w base A n c (x :: xs)) : ∃ g off, A = some ⟨g, off, none⟩ ∧ w.cell? ⟨g, off, none⟩ = some (.int .i64 x) := by
  rcases h.2.2 with ⟨_, h0⟩ | ⟨g, off, cur, e, hb, hh, _, hc⟩
  · have e1 : xs.length + 1 = n := h.1
    have := h.2.1
    omega
  · refine ⟨g, off, e, ?_⟩
    rw [cell_of_row w g off cur _ _ hh]
    exact hc 0 x rfl
/-- without its head; where there is no capacity left the address may stay -/
theorem Tail.tail {x : Int} {g off : Nat} (h : Tail w base (some ⟨g, off, none⟩) n c (x :: xs)) : Tail w base (some ⟨g, off + 1, none⟩) (n - 1) (c - 1) xs ∧ (c = 1 → Tail w base (some ⟨g, off, none⟩) (n - 1) (c - 1) xs) := by
  have h1 := h.1
  have h2 := h.2.1
  simp at h1
  rcases h.2.2 with ⟨h0, _⟩ | ⟨g', off', cur, e, hb, hh, hsz, hc⟩
  · cases h0
  · injection e with e
    injection e with e1 e2
    subst e1; subst e2
    refine ⟨⟨by omega, by omega, .inr ⟨g, off + 1, cur, rfl, hb, hh, by omega, fun k y hk => ?_⟩⟩, fun hc1 => ⟨by omega, by omega, .inr ⟨g, off, cur, rfl, hb, hh, by omega, fun k y hk => ?_⟩⟩⟩
    · have := hc (k + 1) y (by simpa using hk)
      rwa [show off + (k + 1) = off + 1 + k by omega] at this
    · have := (List.getElem?_eq_some_iff.1 hk).1
      omega
/-- a row of the call's own is such a slice -/
theorem Tail.of_own {v : Value} (h : w.ownsRow base 3 1 v n (xs.map (Value.int .i64))) : ∃ A c, v = .slice A n c ∧ Tail w base A n c xs := by
  have hl : xs.length = n := by simpa using h.1
  rcases h.2 with ⟨rfl, h0⟩ | ⟨g, cap, cur, rfl, hb, hh, hle, _, hsz, ht⟩
  · have h0' : n = 0 := by omega
    subst h0'
    exact ⟨none, 0, rfl, hl, Nat.le_refl _, .inl ⟨rfl, rfl⟩⟩
  · refine ⟨_, _, rfl, hl, hle, .inr ⟨g, 0, cur, rfl, hb, hh, by omega, fun k x hk => ?_⟩⟩
    have hlt : k < n := by have := (List.getElem?_eq_some_iff.1 hk).1; omega
    have h1 : (cur.toList.take (n * 1))[k]? = some (.int .i64 x) := by rw [ht, List.getElem?_map, hk]; rfl
    rw [List.getElem?_take, if_pos (by omega)] at h1
    rw [Nat.zero_add]
    simpa using h1
end
theorem elIntT : Elem Try.prog 26 3 1 8 := elem_mk Try.underlying26 (z := .int .i64 0) (by kernel_rfl) rfl (by omega) (by omega)

theorem run_append_tail {w : World} {base n c : Nat} {A : Option Addr} {xs : List Int} (ty : TypeId) (h : Tail w base A n c xs) (hb : base ≤ w.heap.size) (ad : Addr) (d : Nat) (x : Int) (hx : w.cell? ad = some (.int .i64 x)) (hbytes : n ≤ 1000000000000) :
    ∃ A' c' w', (Builtin.append_ #[26, 26] ty #[.slice A n c, .slice (some ad) 1 d]).run Try.prog w = .ok (.slice A' (n + 1) c') w' ∧ Tail w' base A' (n + 1) c' (xs ++ [x]) ∧ Only (blockOf A) w w' ∧ (∀ k, blockOf A' k → blockOf A k ∨ w.heap.size ≤ k) := by
  obtain ⟨i, z, ht, hi, hz, hsz, hby, hzs, hpos, hbpos⟩ := elIntT
  have hnews : ∀ j u, [Value.int .i64 x][j]? = some u → w.cell? (ad.add j) = some u := fun j u hu => by
    rcases j with _ | j
    · simp at hu; subst hu; simpa [Addr.add] using hx
    · simp at hu
  have hl0 := h.1
  have hsome : ∀ (g off : Nat), A = some ⟨g, off, none⟩ → c < n + 1 → (∀ j u, (xs.map (Value.int .i64))[j]? = some u → w.cell? ((⟨g, off, none⟩ : Addr).add j) = some u) → ∃ A' c' w', (Builtin.append_ #[26, 26] ty #[.slice A n c, .slice (some ad) 1 d]).run Try.prog w = .ok (.slice A' (n + 1) c') w' ∧ Tail w' base A' (n + 1) c' (xs ++ [x]) ∧ Only (blockOf A) w w' ∧ (∀ k, blockOf A' k → blockOf A k ∨ w.heap.size ≤ k) := by
    intro g off hA hc holds
    subst hA
    obtain ⟨v', w', hrun, ho, hg⟩ := run_append_arg_grows (P := Try.prog) w 26 ty 3 i z 1 8 ht hi hz hsz hby hzs (by omega) ⟨g, off, none⟩ n c (xs.map (Value.int .i64)) (by simpa using hl0) holds ad 1 d [.int .i64 x] (by simp) hnews hc (by unfold maxLen; omega) (by omega)
    obtain ⟨A', c', rfl, hT⟩ := Tail.of_own (xs := xs ++ [x]) (by simpa using ho)
    refine ⟨A', c', w', hrun, ⟨hT.1, hT.2.1, hT.2.2.imp id ?_⟩, ⟨hg.os, hg.tape, hg.output, hg.size, fun k hk _ => hg.block k hk (by simp)⟩, fun k hk => .inr (hT.lt k hk).1⟩
    rintro ⟨g', off', cur, e, hbg, r⟩
    exact ⟨g', off', cur, e, by omega, r⟩
  rcases h.2.2 with ⟨rfl, rfl⟩ | ⟨g, off, cur, rfl, hbg, hh, hsize, hc⟩
  · have hn : n = 0 := by have := h.2.1; omega
    subst hn
    obtain rfl : xs = [] := List.eq_nil_of_length_eq_zero hl0
    obtain ⟨v', w', hrun, ho, hg, _⟩ := run_append_own (P := Try.prog) w w.heap.size 26 ty 3 i z 1 8 ht hi hz hsz hby hzs (by omega) (.slice none 0 0) 0 [] (World.ownsRow_nil w _ _ _) ad 1 d [.int .i64 x] (by simp) hnews (by simp [Value.oneCell']) (by unfold maxLen; omega) (by omega) (Nat.le_refl _)
    obtain ⟨A', c', rfl, hT⟩ := Tail.of_own (xs := [x]) (by simpa using ho)
    refine ⟨A', c', w', by simpa using hrun, ⟨hT.1, hT.2.1, hT.2.2.imp id ?_⟩, ⟨hg.os, hg.tape, hg.output, hg.size, fun k hk _ => hg.block k hk (by simp [Value.ownBlock])⟩, fun k hk => .inr (hT.lt k hk).1⟩
    rintro ⟨g', off', cur, e, hbg, r⟩
    exact ⟨g', off', cur, e, by omega, r⟩
  · by_cases hroom : n + 1 ≤ c
    · have hcell : w.cell? ⟨g, off + n, none⟩ = some (cur[off + n]'(by omega)) := by
        rw [cell_of_row w g _ cur _ _ hh, Array.getElem?_eq_getElem (by omega)]
      have hfr : w.frozen? ⟨g, off + n, none⟩ = false := by simp [World.frozen?, hh]
      have hrun := run_append_room_cells (P := Try.prog) w 26 ty 3 i ht hi g off n c ad 1 d [.int .i64 x] (by simp [hsz]) hnews (by simp [Value.oneCell']) hroom
        (fun j hj => by
          obtain rfl : j = 0 := by simpa using hj
          rw [hsz, Nat.mul_one, Nat.add_zero, hcell]; rfl)
        (fun j hj => by
          obtain rfl : j = 0 := by simpa using hj
          rw [hsz, Nat.mul_one, Nat.add_zero]; exact hfr)
      rw [hsz, Nat.mul_one] at hrun
      have hset : w.setCells g (off + n) [.int .i64 x] = w.setCell ⟨g, off + n, none⟩ (.int .i64 x) := rfl
      rw [hset] at hrun
      refine ⟨_, _, _, hrun, ⟨by simp [hl0], hroom, .inr ⟨g, off, cur.setIfInBounds (off + n) (.int .i64 x), rfl, hbg, by simp [World.setCell, Array.getElem?_modify, hh], by simpa using hsize, fun k y hk => ?_⟩⟩, (Only.refl _ w).setCell (p := ⟨g, off + n, none⟩) (fun _ => ⟨_, rfl, rfl⟩) _, fun k hk => .inl hk⟩
      rw [Array.getElem?_setIfInBounds]
      by_cases e : k = n
      · subst e
        rw [List.getElem?_append_right (by omega), hl0] at hk
        simp at hk
        subst hk
        rw [if_pos rfl, if_pos (by omega)]
      · have hk' : k < xs.length := by
          have := (List.getElem?_eq_some_iff.1 hk).1
          simp at this; omega
        rw [if_neg (by omega)]
        rw [List.getElem?_append_left hk'] at hk
        exact hc k y hk
    · refine hsome g off rfl (by omega) (fun j u hu => ?_)
      rw [List.getElem?_map] at hu
      cases hx2 : xs[j]? with
      | none => rw [hx2] at hu; cases hu
      | some y =>
        rw [hx2] at hu
        simp at hu
        subst hu
        rw [add_eq, cell_of_row w g _ cur _ _ hh]
        exact hc j y hx2
/-- 'append(todo, x)' in a walk -/
theorem wp_append_tail {w : World} {ops : Array Oper} {rest : List Oper} {o : Oper} {a : Act} {Q : Exit → Act → World → Prop} (hgd : o.guard = none) (s x : Operand)
    (ho : o.op = .call { callee := .builtin .append, args := #[s, x], argTypes := #[26, 26] }) {base n c : Nat} {A : Option Addr} {xs : List Int} (hs : a.eval s = .slice A n c) (h : Tail w base A n c xs) (hb : base ≤ w.heap.size)
    (ad : Addr) (d : Nat) (y : Int) (hx : a.eval x = .slice (some ad) 1 d) (hy : w.cell? ad = some (.int .i64 y)) (hbytes : n ≤ 1000000000000)
    (hK : ∀ A' c' w', Tail w' base A' (n + 1) c' (xs ++ [y]) → Only (blockOf A) w w' → (∀ k, blockOf A' k → blockOf A k ∨ w.heap.size ≤ k) → wpList Try.prog ops Q rest (a.put o.dst (.slice A' (n + 1) c')) w') :
    wpList Try.prog ops Q (o :: rest) a w := by
  obtain ⟨A', c', w', hr, h1, h2, h3⟩ := run_append_tail o.type h hb ad d y hy hbytes
  refine wpList_plain hgd fun K hK' => ?_
  unfold Oper.wp execOp
  simp only [ho, resolve, invoke, builtin, Sem.run_bind, Sem.run_pure, Result.andThen_ok, List.map_toArray, List.map_cons, List.map_nil, hs, hx, hr]
  exact hK' _ _ (hK A' c' w' h1 h2 h3)
end Go.Proofs.Ytkanekacjefcbaa
namespace Go.Proofs.Ytkanekacjefcbaa
open Go.RowKit Go.Maps Go.ChangeShapes

theorem lawInt : Keyed Try.prog 3 := int_keyed Try.underlying3
theorem zeroIntR (w : World) : (zeroValue 3).run Try.prog w = .ok (.int .i64 0) w := by kernel_rfl
theorem zeroRowR (w : World) : (zeroValue 26).run Try.prog w = .ok (.slice none 0 0) w := by kernel_rfl
theorem wf_lit {l : Int} (h0 : -9223372036854775808 ≤ l) (h1 : l ≤ 9223372036854775807) : (Lit.int .i64 l).wf = true := by
  simp [Lit.wf, IntKind.min, IntKind.max, IntKind.signed, IntKind.bits]; omega
def kl (l : Int) : Lit := .int .i64 l
theorem kl_inj {a b : Int} (h : kl a = kl b) : a = b := by injection h
theorem key_lit {l : Int} (h : (Lit.int .i64 l).wf = true) : keyOf Try.prog 3 (.int .i64 l) = some (kl l) := keyOf_int_mk Try.underlying3 h
theorem keyLit {l : Int} (h : (Lit.int .i64 l).wf = true) : WideAt.IsKeyLit (kl l) := lawInt.key (key_lit h)

/-! ### How many literals are held -/
def cnt (V : Nat) (S : Int → Bool) : Nat := (List.range (2 * V + 1)).countP (fun i : Nat => S ((i : Int) - V))
theorem countP_one {p q : Nat → Bool} {k : Nat} (hp : p k = false) (hq : ∀ i, q i = (p i || i == k)) : ∀ n, (List.range n).countP q = (List.range n).countP p + if k < n then 1 else 0
  | 0 => by simp
  | n + 1 => by
    rw [List.range_succ, List.countP_append, List.countP_append, countP_one hp hq n]
    simp only [List.countP_singleton, hq n]
    by_cases e : n = k
    · subst e
      simp [hp]
    · by_cases h : k < n
      · have : k < n + 1 := by omega
        simp [e, h, this]; omega
      · have : ¬ k < n + 1 := by omega
        simp [e, h, this]
theorem cnt_put {V : Nat} {S : Int → Bool} {x : Int} (h0 : -(V : Int) ≤ x) (h1 : x ≤ V) (hx : S x = false) : cnt V (put1 S x) = cnt V S + 1 := by
  unfold cnt
  rw [countP_one (p := fun i : Nat => S ((i : Int) - V)) (k := (x + V).toNat) (by
    show S ((((x + V).toNat : Nat) : Int) - V) = false
    rw [show (((x + V).toNat : Nat) : Int) - V = x by omega]; exact hx) (fun i => by
    simp only [put1]
    congr 1
    rw [Bool.eq_iff_iff]
    simp; omega), if_pos (by omega)]
theorem cnt_le (V : Nat) (S : Int → Bool) : cnt V S ≤ 2 * V + 1 := by
  unfold cnt
  exact Nat.le_trans List.countP_le_length (by simp)

/-! ### The map of what is held -/
def HeldM (w : World) (b n : Nat) (S : Int → Bool) : Prop :=
  ∃ D : DataW Unit, w.ownsMap Try.prog 3 (plainElem Try.prog 3) b n D ∧ IsMap D ∧ ∀ l : Int, (Lit.int .i64 l).wf = true → D.atKey (kl l) (.lit (.int .i64 0)) = .lit (.int .i64 (if S l = true then 1 else 0))
theorem HeldM.made (w : World) : HeldM (w.alloc (.map #[] 0)) w.heap.size 0 (fun _ => false) := ⟨.map [], World.ownsMap_made _ _ _ _, isMap_empty, fun l _ => by simp [DataW.atKey]⟩
section
variable {w w1 : World} {b n : Nat} {S : Int → Bool}
theorem HeldM.lt (h : HeldM w b n S) : b < w.heap.size := by obtain ⟨D, h, _⟩ := h; exact h.lt
theorem HeldM.only {X : Nat → Prop} (h : HeldM w b n S) (k : Only X w w1) (hx : ¬ X b) : HeldM w1 b n S := by
  obtain ⟨D, ho, r⟩ := h
  have hlt := ho.lt
  obtain ⟨es, clock, hb, F⟩ := ho
  exact ⟨D, ⟨es, clock, (k.block b hlt hx).trans hb, F⟩, r⟩
theorem HeldM.below (h : HeldM w b n S) (k : Below w.heap.size w w1) : HeldM w1 b n S := by
  obtain ⟨D, ho, r⟩ := h
  have hlt := ho.lt
  obtain ⟨es, clock, hb, F⟩ := ho
  exact ⟨D, ⟨es, clock, (k.block b hlt).trans hb, F⟩, r⟩
theorem HeldM.isMap (h : HeldM w b n S) : ∀ cur e, w.heap[b]? ≠ some (.cells cur e (0, 0)) := by
  obtain ⟨D, ⟨es, clock, hb, _⟩, _⟩ := h
  intro cur e hc
  rw [hb] at hc
  injection hc with hc
  cases hc
theorem HeldM.look (h : HeldM w b n S) {l : Int} (hl : (Lit.int .i64 l).wf = true) : (Instr.lookup 40 (.map (some b)) (.int .i64 l) false).run Try.prog w = .ok (.int .i64 (if S l = true then 1 else 0)) w := by
  obtain ⟨D, ho, _, hat⟩ := h
  obtain ⟨c, hrun, h1, _⟩ := ho.lookup_int lawInt Try.underlying40 Try.underlying3 (zeroIntR w) (key_lit hl)
  rw [hat l hl] at h1
  injection h1 with h1
  injection h1 with _ h1
  rw [hrun, h1]
theorem HeldM.put {x : Int} (h : HeldM w b n S) (hn : n < maxLen) (hx : (Lit.int .i64 x).wf = true) : ∃ w', (Instr.mapUpdate 40 (.map (some b)) (.int .i64 x) (.int .i64 1)).run Try.prog w = .ok () w' ∧ HeldM w' b (n + 1) (put1 S x) ∧ Only (fun k => k = b) w w' := by
  obtain ⟨D, ho, hm, hat⟩ := h
  obtain ⟨w', hrun, h1, h2⟩ := ho.update (key := .int .i64 x) (val := .int .i64 1) (kl := kl x) (d := .lit (.int .i64 1)) (ps := []) lawInt Try.underlying40 hn (key_lit hx) (plainElem_int Try.underlying3 (by decide))
  refine ⟨w', hrun, ⟨_, h1, hm.put _ _, fun l hl => ?_⟩, ⟨h2.os, h2.tape, h2.output, h2.size, fun k hk hne => h2.block k hk (fun e => hne (by injection e))⟩⟩
  by_cases e : l = x
  · subst e
    rw [atKey_put_same hm (keyLit hl), put1_self]; rfl
  · rw [atKey_put_other (fun c => e (kl_inj c)), hat l hl]
    have : (l == x) = false := by simpa using e
    simp [put1, this]
end
/-- 'held[x] = 1' in a walk -/
theorem wp_held_put {w : World} {ops : Array Oper} {rest : List Oper} {o : Oper} {a : Act} {Q : Exit → Act → World → Prop} (hgd : o.guard = none) (m x v : Operand) (ho : o.op = Op.mapUpdate 40 m x v)
    {b n : Nat} {S : Int → Bool} {y : Int} (hm : a.eval m = .map (some b)) (h : HeldM w b n S) (hn : n < maxLen) (hx : a.eval x = .int .i64 y) (hv : a.eval v = .int .i64 1) (hy : (Lit.int .i64 y).wf = true)
    (hK : ∀ w', HeldM w' b (n + 1) (put1 S y) → Only (fun k => k = b) w w' → wpList Try.prog ops Q rest (a.put o.dst undef) w') : wpList Try.prog ops Q (o :: rest) a w := by
  obtain ⟨w', hrun, h1, h2⟩ := h.put hn hy
  refine wpList_plain hgd fun K' hK' => ?_
  unfold Oper.wp
  simp [execOp, ho, hm, hx, hv, hrun, Result.andThen]
  exact hK' _ _ (hK w' h1 h2)

/-! ### The map of which clauses have a literal -/
def RowIs (D : DataW Unit) (l : Int) (zs : List Int) : Prop := (D.atKey (kl l) .nil = .nil ∧ zs = []) ∨ D.atKey (kl l) .nil = .slice (lits .i64 zs) []
theorem lits_inj : ∀ {a b : List Int}, (lits .i64 a : List (DataW Unit)) = lits .i64 b → a = b
  | [], [], _ => rfl
  | [], _ :: _, h => by simp [lits] at h
  | _ :: _, [], h => by simp [lits] at h
  | x :: a, y :: b, h => by
    simp only [lits, List.map_cons, List.cons.injEq] at h
    obtain ⟨h1, h2⟩ := h
    injection h1 with h1
    injection h1 with _ h1
    rw [h1, lits_inj (a := a) (b := b) h2]
theorem RowIs.unique {D : DataW Unit} {l : Int} {a b : List Int} (h : RowIs D l a) (k : RowIs D l b) : a = b := by
  rcases h with ⟨h1, rfl⟩ | h1 <;> rcases k with ⟨k1, rfl⟩ | k1
  · rfl
  · rw [h1] at k1; cases k1
  · rw [h1] at k1; cases k1
  · rw [h1] at k1
    injection k1 with k1
    exact lits_inj k1
/-- which clauses have a literal: of the first n at least those that G says -/
def Into (D : DataW Unit) (n : Nat) (G : Nat → Int → Prop) : Prop := IsMap D ∧ ∀ l : Int, (Lit.int .i64 l).wf = true → ∃ zs : List Int, RowIs D l zs ∧ (∀ z, z ∈ zs → 0 ≤ z ∧ z < n) ∧ ∀ i : Nat, G i l → (i : Int) ∈ zs
theorem Into.start : Into (.map []) 0 (fun _ _ => False) := ⟨isMap_empty, fun l _ => ⟨[], .inl ⟨by simp [DataW.atKey], rfl⟩, by simp, fun i h => h.elim⟩⟩
theorem Into.mono {D : DataW Unit} {n n' : Nat} {G G' : Nat → Int → Prop} (h : Into D n G) (hn : n ≤ n') (hG : ∀ i l, G' i l → G i l) : Into D n' G' :=
  ⟨h.1, fun l hl => let ⟨zs, h1, h2, h3⟩ := h.2 l hl; ⟨zs, h1, fun z hz => by have := h2 z hz; omega, fun i hi => h3 i (hG i l hi)⟩⟩
/-- clause i booked for literal x -/
theorem Into.push {D : DataW Unit} {n i : Nat} {G : Nat → Int → Prop} {x : Int} {zs : List Int} (h : Into D n G) (hx : (Lit.int .i64 x).wf = true) (hi : i < n) (hz : RowIs D x zs) : Into (D.put (kl x) (.slice (lits .i64 (zs ++ [(i : Int)])) [])) n (fun j l => G j l ∨ (j = i ∧ l = x)) := by
  refine ⟨h.1.put _ _, fun l hl => ?_⟩
  by_cases e : l = x
  · subst e
    obtain ⟨zs', h1, h2, h3⟩ := h.2 l hl
    obtain rfl := hz.unique h1
    refine ⟨zs ++ [(i : Int)], .inr (by rw [atKey_put_same h.1 (keyLit hl)]), fun z hzz => ?_, fun j hj => ?_⟩
    · rcases List.mem_append.1 hzz with hzz | hzz
      · exact h2 z hzz
      · simp at hzz; omega
    · rcases hj with hj | ⟨rfl, _⟩
      · exact List.mem_append_left _ (h3 j hj)
      · simp
  · obtain ⟨zs', h1, h2, h3⟩ := h.2 l hl
    refine ⟨zs', ?_, h2, fun j hj => hj.elim (h3 j) (fun c => absurd c.2 e)⟩
    unfold RowIs
    rw [atKey_put_other (fun c => e (kl_inj c))]
    exact h1
end Go.Proofs.Ytkanekacjefcbaa
namespace Go.Proofs.Ytkanekacjefcbaa
open Go.RowKit

def ClRow (w : World) (A : Option Addr) (c : List Int) : Prop := Row1 w A c.length (fun j => .int .i64 (c.getD j 0))
theorem getD_mem {c : List Int} {k : Nat} (h : k < c.length) : c.getD k 0 ∈ c := by
  rw [List.getD_eq_getElem?_getD, List.getElem?_eq_getElem h]; exact List.getElem_mem h
theorem mem_getD {c : List Int} {x : Int} (h : x ∈ c) : ∃ k, k < c.length ∧ c.getD k 0 = x := by
  obtain ⟨k, hk, e⟩ := List.mem_iff_getElem.1 h
  exact ⟨k, hk, by rw [List.getD_eq_getElem?_getD, List.getElem?_eq_getElem hk]; exact e⟩
def LitOk1 (vars x : Int) : Prop := x ≠ 0 ∧ -vars ≤ x ∧ x ≤ vars
theorem litsOk_iff {vars : Int} {c : List Int} : LitsOk vars c ↔ ∀ k, k < c.length → LitOk1 vars (c.getD k 0) :=
  ⟨fun h k hk => h _ (getD_mem hk), fun h x hx => by obtain ⟨k, hk, rfl⟩ := mem_getD hx; exact h k hk⟩

set_option maxHeartbeats 1000000 in
theorem right_any (A : Option Addr) (d : Nat) (c : List Int) (vars : Int) (w : World) (hc : ClRow w A c) (hn : c.length ≤ 1000000000000000) (h0 : 0 ≤ vars) (h1 : vars ≤ 100000) :
    Calls Try.prog 12 #[.slice A c.length d, .int .i64 vars] w fun e w' => e = .returned (.bool (tf (LitsOk vars c))) ∧ w = w' := by
  have HIF : Hid (LitsOk vars c ↔ ∀ k, k < c.length → LitOk1 vars (c.getD k 0)) := Lib.hid litsOk_iff
  go_enter Try.func12, Try.ntmps12
  go_wp2
  go_loop [9] (fun ix => ∃ k : Nat, k ≤ c.length ∧ ix = .int .i64 k ∧ Hid (∀ j, j < k → LitOk1 vars (c.getD j 0))) (fun ix => c.length - (intOf ix).toNat)
  case atStart => exact ⟨0, by omega, rfl, Lib.hid (fun j hj => by omega)⟩
  case round =>
    obtain ⟨k, hk, rfl, HK⟩ := hrel
    by_cases hlt : k < c.length
    · have hki : (k : Int) < c.length := by omega
      obtain ⟨b, o, hA, x0⟩ := hc.at_ hlt
      have HNO : Hid (¬ LitOk1 vars (c.getD k 0) → tf (LitsOk vars c) = false) := Lib.hid (fun h => tf_no (fun hl => h (HIF.out.1 hl k hlt)))
      have HYE : Hid (LitOk1 vars (c.getD k 0) → ∀ j, j < k + 1 → LitOk1 vars (c.getD j 0)) := Lib.hid (fun h j hj => by
        by_cases e : j < k
        · exact HK.out j e
        · obtain rfl : j = k := by omega
          exact h)
      generalize c.getD k 0 = x at *
      subst hA
      by_cases hz : x = 0
      · have HF := Lib.hid (HNO.out (fun h => h.1 hz))
        subst hz
        go_wp2
        go_ret
        exact ⟨ret_bool HF.out.symm, rfl⟩
      · have hz' : (x == 0) = false := by simpa using hz
        by_cases hg : vars < x
        · have HF := Lib.hid (HNO.out (fun h => by have := h.2.2; omega))
          go_wp2
          go_ret
          exact ⟨ret_bool HF.out.symm, rfl⟩
        · by_cases hs : x < -vars
          · have HF := Lib.hid (HNO.out (fun h => by have := h.2.1; omega))
            go_wp2
            go_ret
            exact ⟨ret_bool HF.out.symm, rfl⟩
          · have HN := Lib.hid (HYE.out ⟨hz, by omega, by omega⟩)
            go_wp2
            go_round
            case rel => exact ⟨k + 1, by omega, by go_num, HN⟩
            case measure => simp [intOf]; omega
    · obtain rfl : k = c.length := by omega
      have HT := Lib.hid (tf_yes (HIF.out.2 HK.out))
      go_wp2
      go_ret
      exact ⟨ret_bool HT.out.symm, rfl⟩

/-- what refute's open tells -/
def openF (S : Int → Bool) : List Int → Int → Int × Int
  | [], x => if x = 0 then (0, 0) else (x, 1)
  | l :: r, x => if S (-l) = true ∨ l = x then openF S r x else if x = 0 then openF S r l else (x, 2)
theorem openF_some (S : Int → Bool) : ∀ (c : List Int) (x : Int), x ≠ 0 → (∀ l, l ∈ c → l ≠ 0) →
    ((openF S c x = (x, 1) ∧ ∀ l, l ∈ c → S (-l) = true ∨ l = x) ∨ (openF S c x = (x, 2) ∧ ∃ l, l ∈ c ∧ S (-l) = false ∧ l ≠ x))
  | [], x, hx, _ => .inl ⟨by simp [openF, hx], by simp⟩
  | l :: r, x, hx, hz => by
    unfold openF
    by_cases h : S (-l) = true ∨ l = x
    · rw [if_pos h]
      rcases openF_some S r x hx (fun m hm => hz m (List.mem_cons_of_mem _ hm)) with ⟨h1, h2⟩ | ⟨h1, m, hm, h2⟩
      · exact .inl ⟨h1, fun m hm => (List.mem_cons.1 hm).elim (fun e => by subst e; exact h) (h2 m)⟩
      · exact .inr ⟨h1, m, List.mem_cons_of_mem _ hm, h2⟩
    · rw [if_neg h, if_neg hx]
      have h' := not_or.1 h
      exact .inr ⟨rfl, l, List.mem_cons_self .., by simpa using h'.1, h'.2⟩
theorem openF_is (S : Int → Bool) : ∀ (c : List Int), (∀ l, l ∈ c → l ≠ 0) → OpenIs S c (openF S c 0).1 (openF S c 0).2 ∧ (0 ≤ (openF S c 0).2 ∧ (openF S c 0).2 ≤ 2) ∧ ((openF S c 0).1 = 0 ∨ (openF S c 0).1 ∈ c)
  | [], _ => by simp [openF, OpenIs]
  | l :: r, hz => by
    have hl := hz l (List.mem_cons_self ..)
    have hr : ∀ m, m ∈ r → m ≠ 0 := fun m hm => hz m (List.mem_cons_of_mem _ hm)
    unfold openF
    by_cases h : S (-l) = true
    · rw [if_pos (.inl h)]
      obtain ⟨h1, h2, h3⟩ := openF_is S r hr
      refine ⟨?_, h2, h3.imp id (List.mem_cons_of_mem _)⟩
      rcases h1 with ⟨a, b⟩ | ⟨a, b, c, d⟩ | ⟨a, x, y, b, c, d⟩
      · exact .inl ⟨a, fun m hm => (List.mem_cons.1 hm).elim (fun e => by subst e; exact h) (b m)⟩
      · exact .inr (.inl ⟨a, List.mem_cons_of_mem _ b, c, fun m hm => (List.mem_cons.1 hm).elim (fun e => by subst e; exact .inl h) (d m)⟩)
      · exact .inr (.inr ⟨a, x, y, List.mem_cons_of_mem _ b, List.mem_cons_of_mem _ c, d⟩)
    · rw [if_neg (by simp [h, hl]), if_pos rfl]
      have hf : S (-l) = false := by simpa using h
      rcases openF_some S r l hl hr with ⟨h1, h2⟩ | ⟨h1, m, hm, h2, h3⟩
      · rw [h1]
        exact ⟨.inr (.inl ⟨rfl, List.mem_cons_self .., hf, fun m hm => (List.mem_cons.1 hm).elim (fun e => .inr e) (h2 m)⟩), ⟨by simp, by simp⟩, .inr (List.mem_cons_self ..)⟩
      · rw [h1]
        exact ⟨.inr (.inr ⟨by simp, l, m, List.mem_cons_self .., List.mem_cons_of_mem _ hm, fun e => h3 e.symm, hf, h2⟩), ⟨by simp, by simp⟩, .inr (List.mem_cons_self ..)⟩
theorem drop_getD {c : List Int} {k : Nat} (h : k < c.length) : c.drop k = c.getD k 0 :: c.drop (k + 1) := by
  rw [List.drop_eq_getElem_cons h, List.getD_eq_getElem?_getD, List.getElem?_eq_getElem h]; rfl

set_option maxHeartbeats 1000000 in
theorem open_any (p : Value) (A : Option Addr) (d : Nat) (c : List Int) (b n : Nat) (S : Int → Bool) (w : World) (hc : ClRow w A c) (hn : c.length ≤ 1000000000000000) (hl : LitsOk 100000 c) (hm : HeldM w b n S) :
    Calls Try.prog 27 #[p, .slice A c.length d, .map (some b)] w fun e w' => e = .returned (.tuple #[.int .i64 (openF S c 0).1, .int .i64 (openF S c 0).2]) ∧ w = w' := by
  have HM := Lib.hid hm; clear hm
  have HL := Lib.hid (litsOk_iff.1 hl); clear hl
  go_enter Try.func27, Try.ntmps27
  go_wp2
  go_loop [8, 13] (fun xv ix => ∃ (k : Nat) (x : Int), k ≤ c.length ∧ ix = .int .i64 k ∧ xv = .int .i64 x ∧ Hid (openF S c 0 = openF S (c.drop k) x)) (fun _ ix => c.length - (intOf ix).toNat)
  case atStart => exact ⟨0, 0, by omega, rfl, rfl, Lib.hid rfl⟩
  case round =>
    obtain ⟨k, x, hk, rfl, rfl, HK⟩ := hrel
    by_cases hlt : k < c.length
    · have hki : (k : Int) < c.length := by omega
      obtain ⟨ba, oa, hA, x0⟩ := hc.at_ hlt
      obtain ⟨hy0, hy1, hy2⟩ := HL.out k hlt
      have HD : Hid (openF S (c.drop k) x = if S (-(c.getD k 0)) = true ∨ c.getD k 0 = x then openF S (c.drop (k + 1)) x else if x = 0 then openF S (c.drop (k + 1)) (c.getD k 0) else (x, 2)) := Lib.hid (by rw [drop_getD hlt]; rfl)
      generalize c.getD k 0 = y at *
      have hrun := HM.out.look (l := -y) (wf_lit (by omega) (by omega))
      subst hA
      by_cases hS : S (-y) = true
      · rw [if_pos hS] at hrun
        have HN : Hid (openF S c 0 = openF S (c.drop (k + 1)) x) := Lib.hid (by rw [HK.out, HD.out, if_pos (.inl hS)])
        clear hS
        go_wp2
        go_round
        case rel => exact ⟨k + 1, x, by omega, by go_num, rfl, HN⟩
        case measure => simp [intOf]; omega
      · rw [if_neg hS] at hrun
        by_cases hyx : y = x
        · subst hyx
          have HN : Hid (openF S c 0 = openF S (c.drop (k + 1)) y) := Lib.hid (by rw [HK.out, HD.out, if_pos (.inr rfl)])
          have hq : (y == y) = true := by simp
          clear hS
          go_wp2
          go_round
          case rel => exact ⟨k + 1, y, by omega, by go_num, rfl, HN⟩
          case measure => simp [intOf]; omega
        · have hq : (y == x) = false := by simpa using hyx
          have HC : Hid (¬ (S (-y) = true ∨ y = x)) := Lib.hid (by simp [hS, hyx])
          by_cases hx0 : x = 0
          · have HN : Hid (openF S c 0 = openF S (c.drop (k + 1)) y) := Lib.hid (by rw [HK.out, HD.out, if_neg HC.out, if_pos hx0])
            clear hS
            subst hx0
            go_wp2
            go_round
            case rel => exact ⟨k + 1, y, by omega, by go_num, rfl, HN⟩
            case measure => simp [intOf]; omega
          · have HN : Hid (openF S c 0 = (x, 2)) := Lib.hid (by rw [HK.out, HD.out, if_neg HC.out, if_neg hx0])
            have hq2 : (x != 0) = true := by simpa using hx0
            clear hS
            go_wp2
            go_ret2
            exact ⟨by rw [HN.out]; rfl, rfl⟩
    · obtain rfl : k = c.length := by omega
      have HN : Hid (openF S c 0 = if x = 0 then (0, 0) else (x, 1)) := Lib.hid (by rw [HK.out, List.drop_length]; rfl)
      by_cases hx0 : x = 0
      · subst hx0
        go_wp2
        go_ret2
        exact ⟨by rw [HN.out]; simp, rfl⟩
      · have hq : (x == 0) = false := by simpa using hx0
        go_wp2
        go_ret2
        exact ⟨by rw [HN.out, if_neg hx0]; rfl, rfl⟩
end Go.Proofs.Ytkanekacjefcbaa
