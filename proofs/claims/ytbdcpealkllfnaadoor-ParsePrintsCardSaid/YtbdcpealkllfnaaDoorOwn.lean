/- Words for memory of the call's own: what may have changed between two worlds, rows that an append has made, one law for append from any source, one for make. No condition. -/
import Derived.Test.YtbdcpealkllfnaaDoorBase
import Derived.Maps.AppendAt
import Derived.Laws.MakeOwn
import Derived.Laws.CopyOwn
import Derived.OwnWalk
namespace Go.Proofs.YtbdcpealkllfnaaDoor
open Go.RowKit Go.Deep

/-- of what was there in w nothing has changed but blocks of S -/
structure Only (S : Nat → Prop) (w w1 : World) : Prop where
 os : w1.os = w.os
 tape : w1.tape = w.tape
 output : w1.output = w.output
 size : w.heap.size ≤ w1.heap.size
 block : ∀ k, k < w.heap.size → ¬ S k → w1.heap[k]? = w.heap[k]?

section
variable {S S' : Nat → Prop} {w w1 w2 : World}
theorem Only.refl (S : Nat → Prop) (w : World) : Only S w w := ⟨rfl, rfl, rfl, Nat.le_refl _, fun _ _ _ => rfl⟩
theorem Only.trans (h : Only S w w1) (k : Only S w1 w2) : Only S w w2 :=
 ⟨k.os.trans h.os, k.tape.trans h.tape, k.output.trans h.output, Nat.le_trans h.size k.size, fun i hi hn => (k.block i (Nat.lt_of_lt_of_le hi h.size) hn).trans (h.block i hi hn)⟩
theorem Only.mono (h : Only S w w1) (hs : ∀ k, k < w.heap.size → S k → S' k) : Only S' w w1 := ⟨h.os, h.tape, h.output, h.size, fun k hk hn => h.block k hk fun hs' => hn (hs k hk hs')⟩
/-- two steps, the second of which may change what is new behind the first -/
theorem Only.then_ (h : Only S w w1) (k : Only S' w1 w2) (hs : ∀ i, i < w.heap.size → S' i → S i) : Only S w w2 :=
 ⟨k.os.trans h.os, k.tape.trans h.tape, k.output.trans h.output, Nat.le_trans h.size k.size, fun i hi hn => (k.block i (Nat.lt_of_lt_of_le hi h.size) fun c => hn (hs i hi c)).trans (h.block i hi hn)⟩
theorem Only.drew (h : Only S w w1) : Only S w w1.drew := ⟨h.os, h.tape, h.output, h.size, h.block⟩
theorem Only.drewN (h : Only S w w1) (n : Nat) : Only S w (w1.drewN n) := ⟨h.os, h.tape, h.output, h.size, h.block⟩
theorem Only.alloc (h : Only S w w1) (o : Obj) : Only S w (w1.alloc o) :=
 h.then_ (S' := fun _ => False) ⟨rfl, rfl, rfl, by simp, fun k hk _ => Below.heap_alloc w1 o k hk⟩ (fun _ _ c => c.elim)
theorem Only.setCell (h : Only S w w1) {p : Addr} (hp : p.block < w.heap.size → S p.block) (u : Value) : Only S w (w1.setCell p u) :=
 h.then_ (S' := fun k => k = p.block) ⟨rfl, rfl, rfl, by simp [World.setCell], fun k _ hn => Below.heap_setCell _ _ _ _ hn⟩ (fun i hi c => by subst c; exact hp hi)
theorem Only.of_below {B : Nat} (hb : Below B w w1) : Only (fun k => B ≤ k) w w1 := ⟨hb.os, hb.tape, hb.output, hb.size, fun k _ hn => hb.block k (by omega)⟩
/-- a call that writes nothing that was there -/
theorem Only.call (h : Only S w w1) (hb : Below w1.heap.size w1 w2) : Only S w w2 :=
 h.then_ (Only.of_below hb) (fun i hi c => absurd c (by have := h.size; omega))
theorem Only.below {B : Nat} (h : Only S w w1) (hs : ∀ k, k < w.heap.size → S k → B ≤ k) (hB : B ≤ w.heap.size) : Below B w w1 :=
 ⟨h.os, h.tape, h.output, h.size, fun k hk => h.block k (by omega) fun c => by have := hs k (by omega) c; omega⟩
theorem Only.all (h : Only S w w1) (hs : ∀ k, k < w.heap.size → ¬ S k) : Below w.heap.size w w1 := h.below (fun k hk c => absurd c (hs k hk)) (Nat.le_refl _)
theorem Only.cell (h : Only S w w1) {p : Addr} {v : Value} (hc : w.cell? p = some v) (hp : ¬ S p.block) : w1.cell? p = some v :=
 (World.cell?_of_block (h.block p.block (World.block_lt_of_cell? w p hc) hp)).trans hc
theorem Only.box (h : Only S w w1) {b : Nat} {cs : List Value} (hc : BoxAt w b cs) (hp : ¬ S b) : BoxAt w1 b cs := fun j v e => h.cell (hc j v e) hp
end

/-- a slice of n elements of s cells each whose block is of element type e and of which p holds -/
def RowT (p : Nat → Prop) (w : World) (e : TypeId) (s : Nat) (A : Option Addr) (n : Nat) (f : Nat → Nat → Value) : Prop :=
 0 < n → ∃ b off cur, A = some ⟨b, off, none⟩ ∧ p b ∧ w.heap[b]? = some (.cells cur e (0, 0)) ∧ ∀ k, k < n → ∀ j, j < s → cur[off + k * s + j]? = some (f k j)

section
variable {p p' S : Nat → Prop} {w w1 : World} {e : TypeId} {s n : Nat} {A : Option Addr} {f : Nat → Nat → Value}
theorem RowT.row (h : RowT p w e s A n f) : RowS w s A n f := fun hn => by
 obtain ⟨b, off, cur, rfl, _, hh, hc⟩ := h hn
 exact ⟨b, off, rfl, fun k hk j hj => by rw [cell_of_row w b _ cur e _ hh]; exact hc k hk j hj⟩
theorem RowT.mono (h : RowT p w e s A n f) (hp : ∀ b, b < w.heap.size → p b → p' b) : RowT p' w e s A n f := fun hn => by
 obtain ⟨b, off, cur, rfl, hb, hh, hc⟩ := h hn
 exact ⟨b, off, cur, rfl, hp b (Array.getElem?_eq_some_iff.1 hh).1 hb, hh, hc⟩
theorem RowT.only (h : RowT p w e s A n f) (k : Only S w w1) (hd : ∀ b cur, p b → w.heap[b]? = some (.cells cur e (0, 0)) → ¬ S b) : RowT p w1 e s A n f := fun hn => by
 obtain ⟨b, off, cur, rfl, hb, hh, hc⟩ := h hn
 exact ⟨b, off, cur, rfl, hb, (k.block b (Array.getElem?_eq_some_iff.1 hh).1 (hd b cur hb hh)).trans hh, hc⟩
theorem RowT.below (h : RowT p w e s A n f) (hb : Below w.heap.size w w1) : RowT p w1 e s A n f := fun hn => by
 obtain ⟨b, off, cur, rfl, hp, hh, hc⟩ := h hn
 exact ⟨b, off, cur, rfl, hp, (hb.block b (Array.getElem?_eq_some_iff.1 hh).1).trans hh, hc⟩
end

/-- what an owned row reads as -/
theorem own_rowT {w : World} {base : Nat} {e : TypeId} {s n c : Nat} {A : Option Addr} {xs : List Value} (h : w.ownsRow base e s (.slice A n c) n xs) :
  RowT (fun b => base ≤ b ∧ A = some ⟨b, 0, none⟩) w e s A n (fun k j => xs.getD (k * s + j) undef) := fun hn => by
 rcases h.2 with ⟨h0, hz⟩ | ⟨g, cap, cur, hv, hb, hh, hle, _, hsz, htake⟩
 ·
  omega
 ·
  injection hv with hA _ hc
  subst hA
  refine ⟨g, 0, cur, rfl, ⟨hb, rfl⟩, hh, fun k hk j hj => ?_⟩
  have hlt : k * s + j < n * s := Nat.lt_of_lt_of_le (show k * s + j < (k + 1) * s by rw [Nat.succ_mul]; omega) (Nat.mul_le_mul_right _ hk)
  have hlx : k * s + j < xs.length := by rw [h.1]; exact hlt
  show _ = some (xs.getD (k * s + j) undef)
  rw [List.getD_eq_getElem?_getD, List.getElem?_eq_getElem hlx]
  have : (cur.toList.take (n * s))[k * s + j]? = some xs[k * s + j] := by rw [htake, List.getElem?_eq_getElem hlx]
  rw [List.getElem?_take, if_pos hlt] at this
  simpa [Nat.zero_add] using this

theorem own_row1 {w : World} {base : Nat} {e : TypeId} {n c : Nat} {A : Option Addr} {xs : List Value} (h : w.ownsRow base e 1 (.slice A n c) n xs) :
  Row1 w A n (fun k => xs.getD k undef) := fun hn => by
 obtain ⟨b, off, e, hc⟩ := (own_rowT h).row.one hn
 exact ⟨b, off, e, fun k hk => by simpa using hc k hk⟩

theorem own_slice {w : World} {base : Nat} {e : TypeId} {s n : Nat} {v : Value} {xs : List Value} (h : w.ownsRow base e s v n xs) : ∃ A c, v = .slice A n c ∧ (A = none → n = 0) := by
 rcases h.2 with ⟨rfl, rfl⟩ | ⟨g, cap, cur, rfl, _⟩
 ·
  exact ⟨none, 0, rfl, fun _ => rfl⟩
 ·
  exact ⟨_, _, rfl, fun h => by cases h⟩

/-- the block of a slice's address -/
def blockOf (A : Option Addr) (k : Nat) : Prop := ∃ a, A = some a ∧ k = a.block

theorem own_mono {w : World} {base base' : Nat} {e : TypeId} {s n : Nat} {v : Value} {xs : List Value} (h : w.ownsRow base e s v n xs) (hb : base' ≤ base) : w.ownsRow base' e s v n xs := by
 refine ⟨h.1, ?_⟩
 rcases h.2 with h | ⟨g, cap, cur, hv, hg, r⟩
 ·
  exact .inl h
 ·
  exact .inr ⟨g, cap, cur, hv, by omega, r⟩
theorem own_base {w : World} {base : Nat} {e : TypeId} {s n c : Nat} {A : Option Addr} {xs : List Value} (h : w.ownsRow base e s (.slice A n c) n xs) : ∀ k, blockOf A k → base ≤ k := fun k hk => by
 obtain ⟨a, e, rfl⟩ := hk
 subst e
 exact (h.lt a.block rfl).1
theorem own_lt {w : World} {base : Nat} {e : TypeId} {s n c : Nat} {A : Option Addr} {xs : List Value} (h : w.ownsRow base e s (.slice A n c) n xs) : ∀ k, blockOf A k → k < w.heap.size := fun k hk => by
 obtain ⟨a, e, rfl⟩ := hk
 subst e
 exact (h.lt a.block rfl).2

theorem Only.grown {w w1 : World} {A : Option Addr} {n c : Nat} (hg : w.grownBy w1 (Value.slice A n c).ownBlock) : Only (blockOf A) w w1 :=
 ⟨hg.os, hg.tape, hg.output, hg.size, fun k hk hn => hg.block k hk fun e => hn (by
  cases A with
  | none => simp [Value.ownBlock] at e
  | some a => exact ⟨a, rfl, by simpa [Value.ownBlock] using e⟩)⟩

/-- slice type t: elements of type e, of so many cells and bytes -/
def Elem (P : Program) (t e : TypeId) (size bytes : Nat) : Prop :=
 ∃ (i : TypeInfo) (z : Value), P.underlying t = some (.slice e) ∧ P.info? e = some i ∧ i.zero = some z ∧ i.size = size ∧ i.bytes = bytes ∧ z.cells.size = size ∧ 0 < size ∧ 0 < bytes

theorem elem_mk {P : Program} {t e : TypeId} {size bytes : Nat} {z : Value} (ht : P.underlying t = some (.slice e)) (h : (P.info? e).map (fun i => (i.zero, i.size, i.bytes)) = some (some z, size, bytes))
  (hz : z.cells.size = size) (hs : 0 < size) (hb : 0 < bytes) : Elem P t e size bytes := by
 obtain ⟨i, h1, h2, h3, h4⟩ := info_parts h
 exact ⟨i, z, ht, h1, h2, h3, h4, hz, hs, hb⟩

/-- what is appended -/
def Src (w : World) (size : Nat) (A : Option Addr) (m : Nat) (xs : List Value) : Prop :=
 xs.length = m * size ∧ (∀ u ∈ xs, u.oneCell' = true) ∧ (0 < m → ∃ ad, A = some ad ∧ ∀ j u, xs[j]? = some u → w.cell? (ad.add j) = some u)

theorem src_new (w : World) (u : Value) (e : TypeId) (hu : u.oneCell' = true) : Src (w.alloc (.cells #[u] e)) 1 (some ⟨w.heap.size, 0, none⟩) 1 [u] :=
 ⟨rfl, by simpa using hu, fun _ => ⟨_, rfl, fun j x hx => by
  rcases j with _ | j
  ·
   rw [add_eq, World.cell?_alloc_new]; simpa using hx
  ·
   simp at hx⟩⟩

theorem src_news (w : World) (us : Array Value) (e : TypeId) (s n : Nat) (hn : us.size = n * s) (hu : ∀ u ∈ us.toList, u.oneCell' = true) : Src (w.alloc (.cells us e)) s (some ⟨w.heap.size, 0, none⟩) n us.toList :=
 ⟨by simpa using hn, hu, fun _ => ⟨_, rfl, fun j x hx => by
  rw [add_eq, World.cell?_alloc_new]; simpa using hx⟩⟩

theorem src_row1 {w : World} {A : Option Addr} {n : Nat} {f : Nat → Value} (h : Row1 w A n f) (hu : ∀ k, k < n → (f k).oneCell' = true) : Src w 1 A n ((List.range n).map f) :=
 ⟨by simp, fun u hx => by
  obtain ⟨k, hk, rfl⟩ := List.mem_map.1 hx
  exact hu k (by simpa using hk), fun hn => by
  obtain ⟨b, off, rfl, hc⟩ := h hn
  refine ⟨_, rfl, fun j u hj => ?_⟩
  have hjn : j < n := by
   rcases Nat.lt_or_ge j n with h | h
   ·
    exact h
   ·
    rw [List.getElem?_eq_none (by simpa using h)] at hj; cases hj
  rw [List.getElem?_map, List.getElem?_range hjn] at hj
  rw [add_eq, hc j hjn]
  exact hj⟩

theorem sz_alloc {base : Nat} {w : World} {o : Obj} (h : base ≤ w.heap.size) : base ≤ (w.alloc o).heap.size := by simp; omega

/-- 'append(s, x...)': s nil or the call's own -/
theorem wp_append {P : Program} {w : World} {ops : Array Oper} {rest : List Oper} {o : Oper} {a : Act} {Q : Exit → Act → World → Prop} (hgd : o.guard = none) (s x : Operand) (t : TypeId)
  (ho : o.op = .call { callee := .builtin .append, args := #[s, x], argTypes := #[t, t] })
  {e : TypeId} {size bytes : Nat} (hE : Elem P t e size bytes) (base : Nat) (A : Option Addr) (n c : Nat) (xs : List Value) (hs : a.eval s = .slice A n c) (hown : w.ownsRow base e size (.slice A n c) n xs)
  (D : Option Addr) (m d : Nat) (news : List Value) (hx : a.eval x = .slice D m d) (hsrc : Src w size D m news)
  (hbytes : (n + m) * bytes ≤ 140737488355328) (hbase : base ≤ w.heap.size)
  (h : ∀ A' c' w', w'.ownsRow base e size (.slice A' (n + m) c') (n + m) (xs ++ news) → Only (blockOf A) w w' → (∀ k, blockOf A' k → blockOf A k ∨ k = w.heap.size) → wpList P ops Q rest (a.put o.dst (.slice A' (n + m) c')) w') :
  wpList P ops Q (o :: rest) a w := by
 obtain ⟨i, z, ht, hi, hz, hsz, hby, hzs, hpos, hbpos⟩ := hE
 have h63 : n + m ≤ maxLen := by
  have := Nat.le_mul_of_pos_right (n + m) hbpos
  simp only [maxLen]; omega
 obtain ⟨hl, h1, hc⟩ := hsrc
 have hrun : ∃ v' w', (Builtin.append_ #[t, t] o.type #[.slice A n c, .slice D m d]).run P w = .ok v' w' ∧ w'.ownsRow base e size v' (n + m) (xs ++ news) ∧ w.grownBy w' (Value.slice A n c).ownBlock ∧
   (v'.ownBlock = (Value.slice A n c).ownBlock ∨ v'.ownBlock = some w.heap.size) := by
  cases D with
  | none =>
   have hm : m = 0 := by
    rcases Nat.eq_zero_or_pos m with h0 | h0
    ·
     exact h0
    ·
     obtain ⟨ad, h, _⟩ := hc h0
     cases h
   subst hm
   obtain rfl : news = [] := List.eq_nil_of_length_eq_zero (by simpa using hl)
   refine ⟨.slice A n c, w, ?_, by simpa using hown, ⟨rfl, rfl, rfl, Nat.le_refl _, fun _ _ _ => rfl⟩, .inl rfl⟩
   rcases hown.2 with ⟨hv, rfl⟩ | ⟨g, cap, cur, hv, _, _, hnc, _⟩
   ·
    injection hv with e1 e2 e3
    subst e1; subst e3
    simp [Builtin.append_, run_underlying ht, sizeOf, typeInfo, hi, Builtin.lenOf, Builtin.firstCells]
   ·
    injection hv with e1 e2 e3
    subst e1; subst e3
    simp [Builtin.append_, run_underlying ht, sizeOf, typeInfo, hi, Builtin.lenOf, Builtin.firstCells, hnc, storeCells]
  | some ad =>
   have hcells : ∀ j u, news[j]? = some u → w.cell? (ad.add j) = some u := by
    intro j u hu
    rcases Nat.eq_zero_or_pos m with h0 | h0
    ·
     subst h0
     obtain rfl : news = [] := List.eq_nil_of_length_eq_zero (by simpa using hl)
     simp at hu
    ·
     obtain ⟨ad', h, hc'⟩ := hc h0
     injection h with h
     subst h
     exact hc' j u hu
   obtain ⟨v', w', hr, h2, h3, _, h5⟩ := run_append_own_at (P := P) w base t o.type e i z size bytes ht hi hz hsz hby hzs hpos (.slice A n c) n xs hown ad m d news hl hcells h1 h63 hbytes hbase
   exact ⟨v', w', hr, h2, h3, h5⟩
 obtain ⟨v', w', hr, h2, h3, h4⟩ := hrun
 obtain ⟨A', c', rfl, _⟩ := own_slice h2
 refine wpList_plain hgd fun K hK => ?_
 unfold Oper.wp execOp
 simp only [ho, resolve, invoke, builtin, Sem.run_bind, Sem.run_pure, Result.andThen_ok, List.map_toArray, List.map_cons, List.map_nil, hs, hx, hr]
 refine hK _ _ (h A' c' w' h2 (Only.grown h3) fun k hk => ?_)
 obtain ⟨a', rfl, rfl⟩ := hk
 rcases h4 with h4 | h4
 ·
  left
  cases A with
  | none => simp [Value.ownBlock] at h4
  | some a0 => exact ⟨a0, rfl, by simpa [Value.ownBlock] using h4⟩
 ·
  right
  simpa [Value.ownBlock] using h4

theorem own_below {w w1 : World} {base : Nat} {e : TypeId} {s n : Nat} {v : Value} {xs : List Value} (h : w.ownsRow base e s v n xs) (hb : Below w.heap.size w w1) : w1.ownsRow base e s v n xs :=
 h.kept (row := none) ⟨hb.os, hb.tape, hb.output, hb.size, fun k hk _ => hb.block k hk⟩ (by cases v.ownBlock <;> simp)
theorem own_only {w w1 : World} {base : Nat} {e : TypeId} {s n c : Nat} {A : Option Addr} {S : Nat → Prop} {xs : List Value} (h : w.ownsRow base e s (.slice A n c) n xs) (hk : Only S w w1) (hd : ∀ k, blockOf A k → ¬ S k) : w1.ownsRow base e s (.slice A n c) n xs := by
 refine ⟨h.1, ?_⟩
 rcases h.2 with h | ⟨g, cap, cur, hv, hg, hh, r⟩
 ·
  exact .inl h
 ·
  have hv' := hv
  injection hv with e1
  exact .inr ⟨g, cap, cur, hv', hg, (hk.block g (Array.getElem?_eq_some_iff.1 hh).1 (hd g ⟨_, e1, rfl⟩)).trans hh, r⟩

/-- blocks of other element types are not its block -/
theorem own_type {w : World} {base : Nat} {e e' : TypeId} {s n c : Nat} {A : Option Addr} {xs : List Value} (h : w.ownsRow base e s (.slice A n c) n xs) (hne : e' ≠ e) : ∀ b cur, w.heap[b]? = some (.cells cur e' (0, 0)) → ¬ blockOf A b := by
 intro b cur hb ⟨a, ha, hab⟩
 subst ha; subst hab
 rcases h.2 with ⟨h0, _⟩ | ⟨g, cap, cur', hv, hg, hh, _⟩
 ·
  cases h0
 ·
  injection hv with e1
  injection e1 with e1
  subst e1
  rw [hb] at hh
  injection hh with hh
  injection hh with _ ht
  exact hne ht

/-- a slice that grows from append to append, in blocks that wb did not have; nothing that wb had changes -/
structure Grow (wb : World) (e : TypeId) (s : Nat) (A : Option Addr) (n c : Nat) (xs : List Value) (wr : World) : Prop where
 own : wr.ownsRow wb.heap.size e s (.slice A n c) n xs
 bel : Below wb.heap.size wb wr
section
variable {wb wr w1 : World} {e : TypeId} {s n c : Nat} {A : Option Addr} {xs : List Value}
theorem Grow.size (h : Grow wb e s A n c xs wr) : wb.heap.size ≤ wr.heap.size := h.bel.size
theorem Grow.start (wb : World) (e : TypeId) (s : Nat) : Grow wb e s none 0 0 [] wb := ⟨World.ownsRow_nil _ _ _ _, Below.refl _ _⟩
theorem Grow.alloc (h : Grow wb e s A n c xs wr) (o : Obj) : Grow wb e s A n c xs (wr.alloc o) := ⟨h.own.alloc o, h.bel.alloc h.size o⟩
theorem Grow.call (h : Grow wb e s A n c xs wr) (hb : Below wr.heap.size wr w1) : Grow wb e s A n c xs w1 := ⟨own_below h.own hb, h.bel.trans (hb.mono h.size)⟩
theorem Grow.keeps (h : Grow wb e s A n c xs wr) : Keeps wb wr := Keeps.of_below h.bel
theorem Grow.push {A' : Option Addr} {n' c' : Nat} {xs' : List Value} (h : Grow wb e s A n c xs wr) (ho : w1.ownsRow wb.heap.size e s (.slice A' n' c') n' xs') (hk : Only (blockOf A) wr w1) : Grow wb e s A' n' c' xs' w1 :=
 ⟨ho, h.bel.trans (hk.below (fun k _ c => own_base h.own k c) h.size)⟩
end

/-- 'make([]T, n)' and 'make([]T, n, c)', as an equation for the walk -/
theorem run_mk {P : Program} {t e : TypeId} {size bytes : Nat} {z : Value} (ht : P.underlying t = some (.slice e)) (h : (P.info? e).map (fun i => (i.zero, i.size, i.bytes)) = some (some z, size, bytes))
  (kl kc : IntKind) (l c : Int) (h0 : 0 ≤ l) (hlc : l ≤ c) (hbytes : (bytes : Int) * c ≤ 281474976710656) (h63 : c ≤ 9223372036854775807) (w : World) :
  (Instr.makeSlice t (.int kl l) (.int kc c)).run P w = .ok (.slice (some ⟨w.heap.size, 0, none⟩) l.toNat c.toNat) (w.alloc (.cells (madeCells z.cells (c.toNat * size)) e)) := by
 obtain ⟨i, h1, h2, rfl, rfl⟩ := info_parts h
 exact run_make (P := P) w t e i z ht h1 h2 kl kc l c h0 hlc hbytes h63

/-- a made row of zeroes, of one cell each -/
theorem made_get (z : Value) (n k : Nat) (hk : k < n) : (madeCells #[z] n)[k]? = some z := by
 simp [madeCells, hk, Nat.mod_one]

end Go.Proofs.YtbdcpealkllfnaaDoor
