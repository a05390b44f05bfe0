/- For stream.Decode's loop over the fields: a configuration in blocks of its own, all zero; what a loop that reads field by field keeps. No condition. -/
import Derived.Test.YtbnjbclkmjjkhaaDoorDkQ
namespace Go.Proofs.YtbnjbclkmjjkhaaDoor
open Go.RowKit Go.Shelf

theorem madeAt (z : Array Value) (n k : Nat) (hk : k < n) : (madeCells z n)[k]? = some (z[k % z.size]!) := by simp [madeCells, hk]

/-! ### Columns of zero cells -/
structure ColsZ (w : World) (base : Nat) (A : Option Addr) (n c R : Nat) (CB : Nat → Nat) : Prop where
  own : w.ownsRow base 50 1 (.slice A n c) n ((List.range n).map fun i => .slice (some ⟨CB i, 0, none⟩) R R)
  rows : ∀ i, i < n → base ≤ CB i ∧ Arr w (CB i) 53 (R * 5) (fun _ => .int .i64 0)
  inj : ∀ i j, i < n → j < n → CB i = CB j → i = j
section
variable {w w1 : World} {base n c R : Nat} {A : Option Addr} {CB : Nat → Nat}
theorem ColsZ.nil (w : World) (base R : Nat) (CB : Nat → Nat) : ColsZ w base none 0 0 R CB := ⟨World.ownsRow_nil _ _ _ _, fun i hi => by omega, fun i j hi => by omega⟩
theorem ColsZ.below (h : ColsZ w base A n c R CB) (hb : Below w.heap.size w w1) : ColsZ w1 base A n c R CB := ⟨own_below h.own hb, fun i hi => ⟨(h.rows i hi).1, (h.rows i hi).2.below hb⟩, h.inj⟩
theorem ColsZ.only {S : Nat → Prop} (h : ColsZ w base A n c R CB) (hk : Only S w w1) (hS : ∀ k, base ≤ k → k < w.heap.size → ¬ S k) : ColsZ w1 base A n c R CB :=
  ⟨own_only h.own hk (fun k hb => hS k (own_base h.own k hb) (own_lt h.own k hb)), fun i hi => ⟨(h.rows i hi).1, (h.rows i hi).2.only hk (hS _ (h.rows i hi).1 (h.rows i hi).2.lt)⟩, h.inj⟩
theorem ColsZ.push {wb : World} {A' : Option Addr} {c' B : Nat} (h : ColsZ wb base A n c R CB) (hbw : Below wb.heap.size wb w)
    (ho : w1.ownsRow base 50 1 (.slice A' (n + 1) c') (n + 1) (((List.range n).map fun i => .slice (some ⟨CB i, 0, none⟩) R R) ++ [.slice (some ⟨B, 0, none⟩) R R])) (hk : Only (blockOf A) w w1)
    (hB : Arr w B 53 (R * 5) (fun _ => .int .i64 0)) (hbB : base ≤ B) (hn : wb.heap.size ≤ B) : ColsZ w1 base A' (n + 1) c' R (fun i => if i = n then B else CB i) := by
  have h2 := h.below hbw
  have hty := own_type (e' := 53) h2.own (by decide)
  have hrow : ∀ {b : Nat}, Arr w b 53 (R * 5) (fun _ => .int .i64 0) → Arr w1 b 53 (R * 5) (fun _ => .int .i64 0) := fun h => by
    obtain ⟨cur, hh, hc⟩ := h
    exact Arr.only ⟨cur, hh, hc⟩ hk (hty _ cur hh)
  refine ⟨?_, fun i hi => ?_, fun i j hi hj e => ?_⟩
  · rw [List.range_succ, List.map_append, List.map_congr_left (g := fun i => .slice (some ⟨CB i, 0, none⟩) R R) (fun i hi => by
      have : i ≠ n := by have := List.mem_range.1 hi; omega
      simp [this])]
    simpa using ho
  · by_cases e : i = n
    · simp only [if_pos e]; exact ⟨hbB, hrow hB⟩
    · simp only [if_neg e]; exact ⟨(h2.rows i (by omega)).1, hrow (h2.rows i (by omega)).2⟩
  · by_cases e1 : i = n <;> by_cases e2 : j = n
    · omega
    · simp only [if_pos e1, if_neg e2] at e
      have := (h.rows j (by omega)).2.lt; omega
    · simp only [if_neg e1, if_pos e2] at e
      have := (h.rows i (by omega)).2.lt; omega
    · simp only [if_neg e1, if_neg e2] at e
      exact h.inj i j (by omega) (by omega) e
end

/-- zero registers, cell by cell -/
def regZ (k : Nat) : Value := if k % 2 = 0 then .int .i64 0 else .bool false
theorem regs_made (w : World) (n : Nat) : Arr (w.alloc (.cells (madeCells #[.int .i64 0, .bool false] (n * 2)) 57)) w.heap.size 57 (n * 2) regZ :=
  ⟨_, heap_alloc_new w _, size_madeCells _ _, fun k hk => by
    rw [madeAt _ _ _ hk]
    unfold regZ
    rcases Nat.mod_two_eq_zero_or_one k with e | e <;> simp [e]⟩
theorem col_made (w : World) (n : Nat) : Arr (w.alloc (.cells (madeCells #[.int .i64 0, .int .i64 0, .int .i64 0, .int .i64 0, .int .i64 0] (n * 5)) 53)) w.heap.size 53 (n * 5) (fun _ => .int .i64 0) :=
  ⟨_, heap_alloc_new w _, size_madeCells _ _, fun k hk => by
    rw [madeAt _ _ _ hk]
    have h5 : k % 5 < 5 := Nat.mod_lt _ (by omega)
    have : k % 5 = 0 ∨ k % 5 = 1 ∨ k % 5 = 2 ∨ k % 5 = 3 ∨ k % 5 = 4 := by omega
    rcases this with e | e | e | e | e <;> simp [e]⟩

/-- the fields' slots lie in blocks of the call's own that nothing guards -/
structure Cf.Own (c : Cf) (n1 : Nat) (W : World) : Prop where
  at_ : ∀ x, c.inn x → ∃ b o cur t z, c.slot x = some ⟨b, o, none⟩ ∧ n1 ≤ b ∧ W.heap[b]? = some (Obj.cells cur t z) ∧ ¬ guarded t

theorem arr_ne {W : World} {b b' n n' : Nat} {e e' : TypeId} {V V' : Nat → Value} (h : Arr W b e n V) (h' : Arr W b' e' n' V') (he : e ≠ e') : b ≠ b' := fun hb => by
  subst hb
  obtain ⟨c1, h1, _⟩ := h
  obtain ⟨c2, h2, _⟩ := h'
  rw [h1] at h2
  injection h2 with h2; injection h2 with _ h3; exact he h3

/-- what Decode lays out -/
def blankC (l : List UInt8) (AC : Option Addr) (cC bR bO : Nat) (CB : Nat → Nat) : Cf := (dec l).lay AC (some ⟨bR, 0, none⟩) (some ⟨bO, 0, none⟩) cC (dec l).nr (dec l).no (fun i => some ⟨CB i, 0, none⟩) (fun i => (dec l).rows i)

section
variable {l : List UInt8} {AC : Option Addr} {cC bR bO n1 : Nat} {CB : Nat → Nat} {W : World}
theorem blank_slots (hC : ColsZ W n1 AC (dec l).nc cC (tkv l 80 16) CB) (hR : Arr W bR 57 ((dec l).nr * 2) regZ) (hO : Arr W bO 3 (dec l).no (fun _ => .int .i64 0)) (h1 : n1 ≤ bR) (h2 : n1 ≤ bO) :
    (blankC l AC cC bR bO CB).Slots W (fun _ => 0) ∧ (blankC l AC cC bR bO CB).Own n1 W ∧ (blankC l AC cC bR bO CB).Apart := by
  have hg1 : ¬ guarded 53 := by unfold guarded; decide
  have hg2 : ¬ guarded 57 := by unfold guarded; decide
  have hg3 : ¬ guarded 3 := by unfold guarded; decide
  have hrow : ∀ i, (blankC l AC cC bR bO CB).rows i = tkv l 80 16 := fun _ => rfl
  refine ⟨⟨fun x hx => ?_⟩, ⟨fun x hx => ?_⟩, fun x y hx hy e => ?_⟩
  · cases x with
    | bits i k =>
      have hk : k < tkv l 80 16 := hx.2
      have h := (hC.rows i hx.1).2
      refine ⟨CB i, 0 + (k * 5 + 4), rfl, ?_, h.thaw _⟩
      rw [Nat.zero_add]; exact h.cell (by omega)
    | sel i k j =>
      have hk : k < tkv l 80 16 := hx.1.2
      have hj : j < 4 := hx.2
      have h := (hC.rows i hx.1.1).2
      refine ⟨CB i, 0 + (k * 5 + j), rfl, ?_, h.thaw _⟩
      rw [Nat.zero_add]; exact h.cell (by omega)
    | init k =>
      have hk : k < (dec l).nr := hx
      refine ⟨bR, 0 + (k * 2 + 1), rfl, ?_, hR.thaw _⟩
      rw [Nat.zero_add, hR.cell (by omega)]
      simp [regZ, Fi.val]
    | rsel k =>
      have hk : k < (dec l).nr := hx
      refine ⟨bR, 0 + k * 2, rfl, ?_, hR.thaw _⟩
      rw [Nat.zero_add, hR.cell (by omega)]
      simp [regZ, Fi.val]
    | out k =>
      have hk : k < (dec l).no := hx
      refine ⟨bO, 0 + k, rfl, ?_, hO.thaw _⟩
      rw [Nat.zero_add, hO.cell hk]
      simp [Fi.val]
  · cases x with
    | bits i k => obtain ⟨hb, cur, hh, _⟩ := hC.rows i hx.1; exact ⟨CB i, _, cur, _, _, rfl, hb, hh, hg1⟩
    | sel i k j => obtain ⟨hb, cur, hh, _⟩ := hC.rows i hx.1.1; exact ⟨CB i, _, cur, _, _, rfl, hb, hh, hg1⟩
    | init k => obtain ⟨cur, hh, _⟩ := hR; exact ⟨bR, _, cur, _, _, rfl, h1, hh, hg2⟩
    | rsel k => obtain ⟨cur, hh, _⟩ := hR; exact ⟨bR, _, cur, _, _, rfl, h1, hh, hg2⟩
    | out k => obtain ⟨cur, hh, _⟩ := hO; exact ⟨bO, _, cur, _, _, rfl, h2, hh, hg3⟩
  · have hne1 : ∀ i, i < (dec l).nc → CB i ≠ bR := fun i hi => arr_ne (hC.rows i hi).2 hR (by decide)
    have hne2 : ∀ i, i < (dec l).nc → CB i ≠ bO := fun i hi => arr_ne (hC.rows i hi).2 hO (by decide)
    have hne3 : bR ≠ bO := arr_ne hR hO (by decide)
    have sB : ∀ i k, (blankC l AC cC bR bO CB).slot (.bits i k) = some ⟨CB i, 0 + (k * 5 + 4), none⟩ := fun _ _ => rfl
    have sS : ∀ i k j, (blankC l AC cC bR bO CB).slot (.sel i k j) = some ⟨CB i, 0 + (k * 5 + j), none⟩ := fun _ _ _ => rfl
    have sI : ∀ k, (blankC l AC cC bR bO CB).slot (.init k) = some ⟨bR, 0 + (k * 2 + 1), none⟩ := fun _ => rfl
    have sR : ∀ k, (blankC l AC cC bR bO CB).slot (.rsel k) = some ⟨bR, 0 + k * 2, none⟩ := fun _ => rfl
    have sO : ∀ k, (blankC l AC cC bR bO CB).slot (.out k) = some ⟨bO, 0 + k, none⟩ := fun _ => rfl
    cases x <;> cases y <;> simp only [sB, sS, sI, sR, sO, Option.some.injEq, Addr.mk.injEq, and_true, true_and] at e
    case bits.bits i k i' k' => obtain ⟨e1, e2⟩ := e; rw [hC.inj i i' hx.1 hy.1 e1]; congr 1; omega
    case bits.sel i k i' k' j' => have : j' < 4 := hy.2; omega
    case bits.init i k k' => exact absurd e.1 (hne1 i hx.1)
    case bits.rsel i k k' => exact absurd e.1 (hne1 i hx.1)
    case bits.out i k k' => exact absurd e.1 (hne2 i hx.1)
    case sel.bits i k j i' k' => have : j < 4 := hx.2; omega
    case sel.sel i k j i' k' j' =>
      have : j < 4 := hx.2
      have : j' < 4 := hy.2
      obtain ⟨e1, e2⟩ := e
      obtain rfl := hC.inj i i' hx.1.1 hy.1.1 e1
      obtain rfl : k = k' := by omega
      obtain rfl : j = j' := by omega
      rfl
    case sel.init i k j k' => exact absurd e.1 (hne1 i hx.1.1)
    case sel.rsel i k j k' => exact absurd e.1 (hne1 i hx.1.1)
    case sel.out i k j k' => exact absurd e.1 (hne2 i hx.1.1)
    case init.bits k i' k' => exact absurd e.1.symm (hne1 i' hy.1)
    case init.sel k i' k' j' => exact absurd e.1.symm (hne1 i' hy.1.1)
    case init.init k k' => congr 1; omega
    case init.rsel k k' => omega
    case init.out k k' => exact absurd e.1 hne3
    case rsel.bits k i' k' => exact absurd e.1.symm (hne1 i' hy.1)
    case rsel.sel k i' k' j' => exact absurd e.1.symm (hne1 i' hy.1.1)
    case rsel.init k k' => omega
    case rsel.rsel k k' => congr 1; omega
    case rsel.out k k' => exact absurd e.1 hne3
    case out.bits k i' k' => exact absurd e.1.symm (hne2 i' hy.1)
    case out.sel k i' k' j' => exact absurd e.1.symm (hne2 i' hy.1.1)
    case out.init k k' => exact absurd e.1.symm hne3
    case out.rsel k k' => exact absurd e.1.symm hne3
    case out.out k k' => congr 1; omega
end
end Go.Proofs.YtbnjbclkmjjkhaaDoor
