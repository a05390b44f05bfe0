/- For stream.Decode's loop over the fields: a configuration in blocks of its own, all zero; what a loop that reads field by field keeps. No condition. For stream.Decode's loop over the fields: what stands from round to round; a round's read and store. No condition. -/
import Derived.Test.YtbnjbclkmjjkhaaDoorDkQ
namespace Go.Proofs.YtbnjbclkmjjkhaaDoor
open Go.RowKit Go.Shelf

theorem madeAt (z : Array Value) (n k : Nat) (hk : k < n) : (madeCells z n)[k]? = some (z[k % z.size]!) := by simp [madeCells, hk]

/-! ### Columns of zero cells -/
structure ColsZ (w : World) (base : Nat) (A : Option Addr) (n c R : Nat) (CB : Nat → Nat) : Prop where
  own : w.ownsRow base 50 1 (.slice A n c) n ((List.range n).map fun i => .slice (some ⟨CB i, 0, none⟩) R R)
  rows : ∀ i, i < n → base ≤ CB i ∧ Arr w (CB i) 53 (R * 5) (fun _ => .int .i64 0)
  inj : ∀ i j, i < n → j < n → CB i = CB j → i = j
section
variable {w w1 : World} {base n c R : Nat} {A : Option Addr} {CB : Nat → Nat}
theorem ColsZ.nil (w : World) (base R : Nat) (CB : Nat → Nat) : ColsZ w base none 0 0 R CB := ⟨World.ownsRow_nil _ _ _ _, fun i hi => by omega, fun i j hi => by omega⟩
theorem ColsZ.below (h : ColsZ w base A n c R CB) (hb : Below w.heap.size w w1) : ColsZ w1 base A n c R CB := ⟨own_below h.own hb, fun i hi => ⟨(h.rows i hi).1, (h.rows i hi).2.below hb⟩, h.inj⟩
theorem ColsZ.only {S : Nat → Prop} (h : ColsZ w base A n c R CB) (hk : Only S w w1) (hS : ∀ k, base ≤ k → k < w.heap.size → ¬ S k) : ColsZ w1 base A n c R CB :=
  ⟨own_only h.own hk (fun k hb => hS k (own_base h.own k hb) (own_lt h.own k hb)), fun i hi => ⟨(h.rows i hi).1, (h.rows i hi).2.only hk (hS _ (h.rows i hi).1 (h.rows i hi).2.lt)⟩, h.inj⟩
theorem ColsZ.push {wb : World} {A' : Option Addr} {c' B : Nat} (h : ColsZ wb base A n c R CB) (hbw : Below wb.heap.size wb w)
    (ho : w1.ownsRow base 50 1 (.slice A' (n + 1) c') (n + 1) (((List.range n).map fun i => .slice (some ⟨CB i, 0, none⟩) R R) ++ [.slice (some ⟨B, 0, none⟩) R R])) (hk : Only (blockOf A) w w1)
    (hB : Arr w B 53 (R * 5) (fun _ => .int .i64 0)) (hbB : base ≤ B) (hn : wb.heap.size ≤ B) : ColsZ w1 base A' (n + 1) c' R (fun i => if i = n then B else CB i) := by
  have h2 := h.below hbw
  have hty := own_type (e' := 53) h2.own (by decide)
  have hrow : ∀ {b : Nat}, Arr w b 53 (R * 5) (fun _ => .int .i64 0) → Arr w1 b 53 (R * 5) (fun _ => .int .i64 0) := fun h => by
    obtain ⟨cur, hh, hc⟩ := h
    exact Arr.only ⟨cur, hh, hc⟩ hk (hty _ cur hh)
  refine ⟨?_, fun i hi => ?_, fun i j hi hj e => ?_⟩
  · rw [List.range_succ, List.map_append, List.map_congr_left (g := fun i => .slice (some ⟨CB i, 0, none⟩) R R) (fun i hi => by
      have : i ≠ n := by have := List.mem_range.1 hi; omega
      simp [this])]
    simpa using ho
  · by_cases e : i = n
    · simp only [if_pos e]; exact ⟨hbB, hrow hB⟩
    · simp only [if_neg e]; exact ⟨(h2.rows i (by omega)).1, hrow (h2.rows i (by omega)).2⟩
  · by_cases e1 : i = n <;> by_cases e2 : j = n
    · omega
    · simp only [if_pos e1, if_neg e2] at e
      have := (h.rows j (by omega)).2.lt; omega
    · simp only [if_neg e1, if_pos e2] at e
      have := (h.rows i (by omega)).2.lt; omega
    · simp only [if_neg e1, if_neg e2] at e
      exact h.inj i j (by omega) (by omega) e
end

/-- zero registers, cell by cell -/
def regZ (k : Nat) : Value := if k % 2 = 0 then .int .i64 0 else .bool false
theorem regs_made (w : World) (n : Nat) : Arr (w.alloc (.cells (madeCells #[.int .i64 0, .bool false] (n * 2)) 57)) w.heap.size 57 (n * 2) regZ :=
  ⟨_, heap_alloc_new w _, size_madeCells _ _, fun k hk => by
    rw [madeAt _ _ _ hk]
    unfold regZ
    rcases Nat.mod_two_eq_zero_or_one k with e | e <;> simp [e]⟩
theorem col_made (w : World) (n : Nat) : Arr (w.alloc (.cells (madeCells #[.int .i64 0, .int .i64 0, .int .i64 0, .int .i64 0, .int .i64 0] (n * 5)) 53)) w.heap.size 53 (n * 5) (fun _ => .int .i64 0) :=
  ⟨_, heap_alloc_new w _, size_madeCells _ _, fun k hk => by
    rw [madeAt _ _ _ hk]
    have h5 : k % 5 < 5 := Nat.mod_lt _ (by omega)
    have : k % 5 = 0 ∨ k % 5 = 1 ∨ k % 5 = 2 ∨ k % 5 = 3 ∨ k % 5 = 4 := by omega
    rcases this with e | e | e | e | e <;> simp [e]⟩

/-- the fields' slots lie in blocks of the call's own that nothing guards -/
structure Cf.Own (c : Cf) (n1 : Nat) (W : World) : Prop where
  at_ : ∀ x, c.inn x → ∃ b o cur t z, c.slot x = some ⟨b, o, none⟩ ∧ n1 ≤ b ∧ W.heap[b]? = some (Obj.cells cur t z) ∧ ¬ guarded t

theorem arr_ne {W : World} {b b' n n' : Nat} {e e' : TypeId} {V V' : Nat → Value} (h : Arr W b e n V) (h' : Arr W b' e' n' V') (he : e ≠ e') : b ≠ b' := fun hb => by
  subst hb
  obtain ⟨c1, h1, _⟩ := h
  obtain ⟨c2, h2, _⟩ := h'
  rw [h1] at h2
  injection h2 with h2; injection h2 with _ h3; exact he h3

/-- what Decode lays out -/
def blankC (l : List UInt8) (AC : Option Addr) (cC bR bO : Nat) (CB : Nat → Nat) : Cf := (dec l).lay AC (some ⟨bR, 0, none⟩) (some ⟨bO, 0, none⟩) cC (dec l).nr (dec l).no (fun i => some ⟨CB i, 0, none⟩) (fun i => (dec l).rows i)

section
variable {l : List UInt8} {AC : Option Addr} {cC bR bO n1 : Nat} {CB : Nat → Nat} {W : World}
theorem blank_slots (hC : ColsZ W n1 AC (dec l).nc cC (tkv l 80 16) CB) (hR : Arr W bR 57 ((dec l).nr * 2) regZ) (hO : Arr W bO 3 (dec l).no (fun _ => .int .i64 0)) (h1 : n1 ≤ bR) (h2 : n1 ≤ bO) :
    (blankC l AC cC bR bO CB).Slots W (fun _ => 0) ∧ (blankC l AC cC bR bO CB).Own n1 W ∧ (blankC l AC cC bR bO CB).Apart := by
  have hg1 : ¬ guarded 53 := by unfold guarded; decide
  have hg2 : ¬ guarded 57 := by unfold guarded; decide
  have hg3 : ¬ guarded 3 := by unfold guarded; decide
  have hrow : ∀ i, (blankC l AC cC bR bO CB).rows i = tkv l 80 16 := fun _ => rfl
  refine ⟨⟨fun x hx => ?_⟩, ⟨fun x hx => ?_⟩, fun x y hx hy e => ?_⟩
  · cases x with
    | bits i k =>
      have hk : k < tkv l 80 16 := hx.2
      have h := (hC.rows i hx.1).2
      refine ⟨CB i, 0 + (k * 5 + 4), rfl, ?_, h.thaw _⟩
      rw [Nat.zero_add]; exact h.cell (by omega)
    | sel i k j =>
      have hk : k < tkv l 80 16 := hx.1.2
      have hj : j < 4 := hx.2
      have h := (hC.rows i hx.1.1).2
      refine ⟨CB i, 0 + (k * 5 + j), rfl, ?_, h.thaw _⟩
      rw [Nat.zero_add]; exact h.cell (by omega)
    | init k =>
      have hk : k < (dec l).nr := hx
      refine ⟨bR, 0 + (k * 2 + 1), rfl, ?_, hR.thaw _⟩
      rw [Nat.zero_add, hR.cell (by omega)]
      simp [regZ, Fi.val]
    | rsel k =>
      have hk : k < (dec l).nr := hx
      refine ⟨bR, 0 + k * 2, rfl, ?_, hR.thaw _⟩
      rw [Nat.zero_add, hR.cell (by omega)]
      simp [regZ, Fi.val]
    | out k =>
      have hk : k < (dec l).no := hx
      refine ⟨bO, 0 + k, rfl, ?_, hO.thaw _⟩
      rw [Nat.zero_add, hO.cell hk]
      simp [Fi.val]
  · cases x with
    | bits i k => obtain ⟨hb, cur, hh, _⟩ := hC.rows i hx.1; exact ⟨CB i, _, cur, _, _, rfl, hb, hh, hg1⟩
    | sel i k j => obtain ⟨hb, cur, hh, _⟩ := hC.rows i hx.1.1; exact ⟨CB i, _, cur, _, _, rfl, hb, hh, hg1⟩
    | init k => obtain ⟨cur, hh, _⟩ := hR; exact ⟨bR, _, cur, _, _, rfl, h1, hh, hg2⟩
    | rsel k => obtain ⟨cur, hh, _⟩ := hR; exact ⟨bR, _, cur, _, _, rfl, h1, hh, hg2⟩
    | out k => obtain ⟨cur, hh, _⟩ := hO; exact ⟨bO, _, cur, _, _, rfl, h2, hh, hg3⟩
  · have hne1 : ∀ i, i < (dec l).nc → CB i ≠ bR := fun i hi => arr_ne (hC.rows i hi).2 hR (by decide)
    have hne2 : ∀ i, i < (dec l).nc → CB i ≠ bO := fun i hi => arr_ne (hC.rows i hi).2 hO (by decide)
    have hne3 : bR ≠ bO := arr_ne hR hO (by decide)
    have sB : ∀ i k, (blankC l AC cC bR bO CB).slot (.bits i k) = some ⟨CB i, 0 + (k * 5 + 4), none⟩ := fun _ _ => rfl
    have sS : ∀ i k j, (blankC l AC cC bR bO CB).slot (.sel i k j) = some ⟨CB i, 0 + (k * 5 + j), none⟩ := fun _ _ _ => rfl
    have sI : ∀ k, (blankC l AC cC bR bO CB).slot (.init k) = some ⟨bR, 0 + (k * 2 + 1), none⟩ := fun _ => rfl
    have sR : ∀ k, (blankC l AC cC bR bO CB).slot (.rsel k) = some ⟨bR, 0 + k * 2, none⟩ := fun _ => rfl
    have sO : ∀ k, (blankC l AC cC bR bO CB).slot (.out k) = some ⟨bO, 0 + k, none⟩ := fun _ => rfl
    cases x <;> cases y <;> simp only [sB, sS, sI, sR, sO, Option.some.injEq, Addr.mk.injEq, and_true, true_and] at e
    case bits.bits i k i' k' => obtain ⟨e1, e2⟩ := e; rw [hC.inj i i' hx.1 hy.1 e1]; congr 1; omega
    case bits.sel i k i' k' j' => have : j' < 4 := hy.2; omega
    case bits.init i k k' => exact absurd e.1 (hne1 i hx.1)
    case bits.rsel i k k' => exact absurd e.1 (hne1 i hx.1)
    case bits.out i k k' => exact absurd e.1 (hne2 i hx.1)
    case sel.bits i k j i' k' => have : j < 4 := hx.2; omega
    case sel.sel i k j i' k' j' =>
      have : j < 4 := hx.2
      have : j' < 4 := hy.2
      obtain ⟨e1, e2⟩ := e
      obtain rfl := hC.inj i i' hx.1.1 hy.1.1 e1
      obtain rfl : k = k' := by omega
      obtain rfl : j = j' := by omega
      rfl
    case sel.init i k j k' => exact absurd e.1 (hne1 i hx.1.1)
    case sel.rsel i k j k' => exact absurd e.1 (hne1 i hx.1.1)
    case sel.out i k j k' => exact absurd e.1 (hne2 i hx.1.1)
    case init.bits k i' k' => exact absurd e.1.symm (hne1 i' hy.1)
    case init.sel k i' k' j' => exact absurd e.1.symm (hne1 i' hy.1.1)
    case init.init k k' => congr 1; omega
    case init.rsel k k' => omega
    case init.out k k' => exact absurd e.1 hne3
    case rsel.bits k i' k' => exact absurd e.1.symm (hne1 i' hy.1)
    case rsel.sel k i' k' j' => exact absurd e.1.symm (hne1 i' hy.1.1)
    case rsel.init k k' => omega
    case rsel.rsel k k' => congr 1; omega
    case rsel.out k k' => exact absurd e.1 hne3
    case out.bits k i' k' => exact absurd e.1.symm (hne2 i' hy.1)
    case out.sel k i' k' j' => exact absurd e.1.symm (hne2 i' hy.1.1)
    case out.init k k' => exact absurd e.1.symm hne3
    case out.rsel k k' => exact absurd e.1.symm hne3
    case out.out k k' => congr 1; omega
end
end Go.Proofs.YtbnjbclkmjjkhaaDoor
namespace Go.Proofs.YtbnjbclkmjjkhaaDoor
open Go.RowKit Go.Shelf

section
variable {l : List UInt8} {A : Option Addr} {c bA bE bB p : Nat} {W W' : World}
theorem TakeAt.only {S : Nat → Prop} (h : TakeAt l A c bA bE bB W p) (k : Only S W W') (h1 : ¬ S bA) (h2 : ¬ S bE) (h3 : ¬ S bB) (h4 : ∀ b, blockOf A b → ¬ S b) : TakeAt l A c bA bE bB W' p :=
  ⟨k.cell h.pa h1, (World.frozen?_of_block (k.block bA (World.block_lt_of_cell? W _ h.pa) h1)).trans h.fr, k.cell h.pe h2, k.cell h.pb h3, fun hn => by
    obtain ⟨b, o, e, hr⟩ := h.mem hn
    exact ⟨b, o, e, fun i hi => k.cell (hr i hi) (h4 b ⟨_, e, rfl⟩)⟩⟩
theorem TakeAt.grown {row : Option Nat} (h : TakeAt l A c bA bE bB W p) (hg : W.grownBy W' row) (hr : ∀ r, row = some r → ∃ o : Obj, W.heap[r]? = some o ∧ o.isCells = false) : TakeAt l A c bA bE bB W' p :=
  ⟨cell_kept h.pa hg hr, (frozen_kept h.pa hg hr).trans h.fr, cell_kept h.pe hg hr, cell_kept h.pb hg hr, fun hn => by
    obtain ⟨b, o, e, hc⟩ := h.mem hn
    exact ⟨b, o, e, fun i hi => cell_kept (hc i hi) hg hr⟩⟩
theorem Cf.Slots.only {S : Nat → Prop} {cf : Cf} {ct : Fi → Int} (h : cf.Slots W ct) (k : Only S W W') (hS : ∀ x, cf.inn x → ∀ a, cf.slot x = some a → ¬ S a.block) : cf.Slots W' ct :=
  ⟨fun x hx => by
    obtain ⟨b, o, e, hc, hf⟩ := h.at_ x hx
    exact ⟨b, o, e, k.cell hc (hS x hx _ e), (World.frozen?_of_block (k.block b (World.block_lt_of_cell? W _ hc) (hS x hx _ e))).trans hf⟩⟩
theorem Cf.Slots.grown {row : Option Nat} {cf : Cf} {ct : Fi → Int} (h : cf.Slots W ct) (hg : W.grownBy W' row) (hr : ∀ r, row = some r → ∃ o : Obj, W.heap[r]? = some o ∧ o.isCells = false) : cf.Slots W' ct :=
  ⟨fun x hx => by
    obtain ⟨b, o, e, hc, hf⟩ := h.at_ x hx
    exact ⟨b, o, e, cell_kept hc hg hr, (frozen_kept hc hg hr).trans hf⟩⟩
theorem Cf.Own.grown {row : Option Nat} {cf : Cf} {n1 : Nat} (h : cf.Own n1 W) (hg : W.grownBy W' row) (hr : ∀ r, row = some r → ∃ o : Obj, W.heap[r]? = some o ∧ o.isCells = false) : cf.Own n1 W' :=
  ⟨fun x hx => by
    obtain ⟨b, o, cur, t, z, e, hn, hh, ht⟩ := h.at_ x hx
    exact ⟨b, o, cur, t, z, e, hn, heap_kept hg hr hh, ht⟩⟩
theorem Cf.Own.only {S : Nat → Prop} {cf : Cf} {n1 : Nat} (h : cf.Own n1 W) (k : Only S W W') (hS : ∀ b, S b → b < n1) : cf.Own n1 W' :=
  ⟨fun x hx => by
    obtain ⟨b, o, cur, t, z, e, hn, hh, ht⟩ := h.at_ x hx
    exact ⟨b, o, cur, t, z, e, hn, (k.block b (Array.getElem?_eq_some_iff.1 hh).1 (fun hs => by have := hS b hs; omega)).trans hh, ht⟩⟩
theorem Cf.Own.set {cf : Cf} {n1 : Nat} (h : cf.Own n1 W) (b o : Nat) (v : Value) : cf.Own n1 (W.setCell ⟨b, o, none⟩ v) :=
  ⟨fun x hx => by
    obtain ⟨b', o', cur, t, z, e, hn, hh, ht⟩ := h.at_ x hx
    by_cases hb : b' = b
    · subst hb
      exact ⟨b', o', _, t, z, e, hn, set1_heap0 hh o v, ht⟩
    · exact ⟨b', o', cur, t, z, e, hn, ((Only.setCell (p := ⟨b, o, none⟩) (Only.refl (fun k => k = b) W) (fun _ => rfl) v).block b' (Array.getElem?_eq_some_iff.1 hh).1 hb).trans hh, ht⟩⟩
theorem Firm.grown {row : Option Nat} {n₀ : Nat} {a : Addr} {v : Value} (h : Firm n₀ W a v) (hg : W.grownBy W' row) (hr : ∀ r, row = some r → ∃ o : Obj, W.heap[r]? = some o ∧ o.isCells = false) : Firm n₀ W' a v :=
  ⟨cell_kept h.1 hg hr, h.2.imp id (fun ⟨cur, t, z, ht, hh⟩ => ⟨cur, t, z, ht, heap_kept hg hr hh⟩)⟩
theorem Kept.only {S : Nat → Prop} {n₀ : Nat} (k : Only S W W') (hS : ∀ b, S b → b < W.heap.size → n₀ ≤ b ∧ ∃ cur t z, W.heap[b]? = some (Obj.cells cur t z) ∧ ¬ guarded t) : Kept n₀ W W' :=
  ⟨k.size, fun b hb hA => k.block b hA (fun hs => by have := (hS b hs hA).1; omega), fun b cur t z hg hA => (k.block b (Array.getElem?_eq_some_iff.1 hA).1 (fun hs => by
    obtain ⟨_, cur', t', z', hc, ht⟩ := hS b hs (Array.getElem?_eq_some_iff.1 hA).1
    rw [hA] at hc; injection hc with hc; injection hc with _ h2; exact ht (h2 ▸ hg))).trans hA⟩
theorem KeepsFrom.only {S : Nat → Prop} {B : Nat} (k : Only S W W') (hS : ∀ b, S b → b < W.heap.size → ∃ cur t z, W.heap[b]? = some (Obj.cells cur t z)) : KeepsFrom B W W' :=
  ⟨k.size, fun b o _ hA ho => (k.block b (Array.getElem?_eq_some_iff.1 hA).1 (fun hs => by
    obtain ⟨cur', t', z', hc⟩ := hS b hs (Array.getElem?_eq_some_iff.1 hA).1
    rw [hA] at hc; cases hc; cases ho)).trans hA⟩
end

/-- what stands in Decode's loop over the fields, behind the fields pre: the boxes of take (at, end, b), of its closure (bF), the results' boxes (RB, RB + 1), the configuration's (BX) -/
structure DkJ (l : List UInt8) (A : Option Addr) (c bA bE bB bF RB BX : Nat) (cf : Cf) (n0 n1 : Nat) (pre : List Fi) (W : World) : Prop where
  take : TakeAt l A c bA bE bB W (112 + cf.wsum pre)
  slot : ∃ ct, cf.Slots W ct ∧ cf.Got (body l) pre ct
  own : cf.Own n1 W
  at_ : ∃ cur z, W.heap[bA]? = some (Obj.cells cur 3 z)
  fn : W.cell? ⟨bF, 0, none⟩ = some (.func (.func 23) #[] #[.pointer (some ⟨bA, 0, none⟩), .pointer (some ⟨bE, 0, none⟩), .pointer (some ⟨bB, 0, none⟩)])
  res : W.heap[RB]? = some (.cells #[.int .i64 0, .int .i64 0, .int .i64 0, .int .i64 0, .int .i64 0, .slice none 0 0, .slice none 0 0, .slice none 0 0] 31)
  flt : W.heap[RB + 1]? = some (.cells #[.int .i64 18, .int .i64 0] 41)
  hdr : cf.Hdr n0 W BX

/-- what is fixed: the blocks lie apart -/
structure DkB (A : Option Addr) (bA bE bB bF RB n0 n1 : Nat) : Prop where
  e : bE ≠ bA
  b : bB ≠ bA
  a : ¬ blockOf A bA
  f : bF ≠ bA
  r : RB ≠ bA
  r1 : RB + 1 ≠ bA
  n : n0 ≤ bA
  nn : n0 ≤ n1
  A1 : bA < n1
  E1 : bE < n1
  B1 : bB < n1
  F1 : bF < n1
  R1 : RB + 1 < n1
  M1 : ∀ b, blockOf A b → b < n1

section
variable {l : List UInt8} {A : Option Addr} {c bA bE bB bF RB BX n0 n1 : Nat} {cf : Cf} {W W1 : World} {pre : List Fi}
theorem DkJ.grown {row : Option Nat} (h : DkJ l A c bA bE bB bF RB BX cf n0 n1 pre W) (hg : W.grownBy W1 row) (hr : ∀ r, row = some r → ∃ o : Obj, W.heap[r]? = some o ∧ o.isCells = false) : DkJ l A c bA bE bB bF RB BX cf n0 n1 pre W1 := by
  obtain ⟨ct, hs, hgot⟩ := h.slot
  obtain ⟨cur, z, hh⟩ := h.at_
  exact ⟨h.take.grown hg hr, ⟨ct, hs.grown hg hr, hgot⟩, h.own.grown hg hr, ⟨cur, z, heap_kept hg hr hh⟩, cell_kept h.fn hg hr, heap_kept hg hr h.res, heap_kept hg hr h.flt,
    ⟨fun j v e => (h.hdr.box j v e).grown hg hr, fun i hi => by
      obtain ⟨b, off, e, hf⟩ := h.hdr.cols i hi
      exact ⟨b, off, e, hf.grown hg hr⟩⟩⟩
theorem DkJ.below (h : DkJ l A c bA bE bB bF RB BX cf n0 n1 pre W) (hb : Below W.heap.size W W1) : DkJ l A c bA bE bB bF RB BX cf n0 n1 pre W1 :=
  h.grown (row := none) ⟨hb.os, hb.tape, hb.output, hb.size, fun k hk _ => hb.block k hk⟩ (fun r e => by cases e)
/-- a field is read and stored -/
theorem DkJ.next (h : DkJ l A c bA bE bB bF RB BX cf n0 n1 pre W) (hB : DkB A bA bE bB bF RB n0 n1) (ha : cf.Apart) {x : Fi} (hx : cf.inn x) {n : Nat} (hn : n = cf.wf x)
    (hT : TakeAt l A c bA bE bB W1 (112 + cf.wsum pre + n)) (hOT : Typ bA W W1) :
    ∃ b o, cf.slot x = some ⟨b, o, none⟩ ∧ W1.frozen? ⟨b, o, none⟩ = false ∧ (∃ v, W1.cell? ⟨b, o, none⟩ = some v) ∧
      ∀ v, v = x.val (tkv (body l) (112 + cf.wsum pre) n) →
      DkJ l A c bA bE bB bF RB BX cf n0 n1 (pre ++ [x]) (W1.setCell ⟨b, o, none⟩ v) ∧ Kept n0 W (W1.setCell ⟨b, o, none⟩ v) ∧ (∀ B, KeepsFrom B W (W1.setCell ⟨b, o, none⟩ v)) ∧ n0 ≤ b := by
  subst hn
  have hO := hOT.only
  obtain ⟨ct, hs, hgot⟩ := h.slot
  obtain ⟨b, o, cur, t, z, e, hb, hh, ht⟩ := h.own.at_ x hx
  have hown := h.own.only hO (fun b hb => by rw [hb]; exact hB.A1)
  have hs1 := hs.only hO (fun y hy a ea hab => by
    obtain ⟨b', o', _, _, _, e', hb', _⟩ := h.own.at_ y hy
    rw [e'] at ea; injection ea with ea; subst ea
    have := hB.A1; have hab : b' = bA := hab; omega)
  obtain ⟨b', o', e', hc, hf⟩ := hs1.at_ x hx
  rw [e] at e'; injection e' with e'; injection e' with e1 e2; subst e1 e2
  refine ⟨b, o, e, hf, ⟨_, hc⟩, fun v hv => ?_⟩
  subst hv
  obtain ⟨ct', hs2, hv, ho⟩ := hs1.set ha hx e (tkv (body l) (112 + cf.wsum pre) (cf.wf x))
  have hO2 : Only (fun k => k = b) W1 (W1.setCell ⟨b, o, none⟩ (x.val (tkv (body l) (112 + cf.wsum pre) (cf.wf x)))) := Only.setCell (p := ⟨b, o, none⟩) (Only.refl (fun k => k = b) W1) (fun _ => rfl) _
  have hA1 := hB.A1; have hE1 := hB.E1; have hB1 := hB.B1; have hF1 := hB.F1; have hR1 := hB.R1; have hn1 := hB.nn
  obtain ⟨curA, zA, hhA⟩ := h.at_
  have hlt := (Array.getElem?_eq_some_iff.1 hhA).1
  have hh1 : W1.heap[b]? = some (.cells cur t z) := (hO.block b (Array.getElem?_eq_some_iff.1 hh).1 (by omega)).trans hh
  have hti : ¬ guarded 3 := by unfold guarded; decide
  have hO3 : Only (fun k => k = bA ∨ k = b) W (W1.setCell ⟨b, o, none⟩ (x.val (tkv (body l) (112 + cf.wsum pre) (cf.wf x)))) := (hO.mono (fun k _ hk => .inl hk)).then_ hO2 (fun k _ hk => .inr hk)
  have hK1 : Kept n0 W (W1.setCell ⟨b, o, none⟩ (x.val (tkv (body l) (112 + cf.wsum pre) (cf.wf x)))) := Kept.only hO3 (fun k hk _ => by
    rcases hk with rfl | rfl
    · exact ⟨hB.n, curA, _, zA, hhA, hti⟩
    · exact ⟨by omega, cur, t, z, hh, ht⟩)
  have hAt : ∃ cur z, (W1.setCell ⟨b, o, none⟩ (x.val (tkv (body l) (112 + cf.wsum pre) (cf.wf x)))).heap[bA]? = some (Obj.cells cur 3 z) := by
    obtain ⟨cur', h'⟩ := hOT.typ _ _ _ hhA
    exact ⟨cur', zA, (hO2.block bA (Array.getElem?_eq_some_iff.1 h').1 (by omega)).trans h'⟩
  refine ⟨⟨?_, ⟨ct', hs2, hgot.snoc hv ho⟩, hown.set b o _, ?_, ?_, ?_, ?_, h.hdr.kept hK1⟩, hK1, fun B => KeepsFrom.only hO3 (fun k hk _ => by
    rcases hk with rfl | rfl
    · exact ⟨curA, _, zA, hhA⟩
    · exact ⟨cur, t, z, hh⟩), by omega⟩
  · rw [Cf.wsum_snoc, ← Nat.add_assoc]
    exact hT.only hO2 (by omega) (by omega) (by omega) (fun k hk e => by have := hB.M1 k hk; omega)
  · exact hAt
  · exact hO3.cell h.fn (by have := hB.f; simp only; omega)
  · exact (hO3.block RB (Array.getElem?_eq_some_iff.1 h.res).1 (by have := hB.r; omega)).trans h.res
  · exact (hO3.block (RB + 1) (Array.getElem?_eq_some_iff.1 h.flt).1 (by have := hB.r1; omega)).trans h.flt
end
end Go.Proofs.YtbnjbclkmjjkhaaDoor
