/- Nets of tables in the Door seat: the numbers, where they lie, how an argument is opened to them; when a net is valid; its depth; what it shows (out of Tables, TDep, TRunP). No condition. -/
import Derived.Test.YtlmcbhmaccncbaaDoorFrS
namespace Go.Proofs.YtlmcbhmaccncbaaDoor
open Go.RowKit Go.ChangeShapes Go.WideShapes Go.Deep

theorem Tryd.cellsSl24 : Tryd.prog.cellsOf 24 = 1 := by kernel_rfl
theorem open_ints1 {N : Nat} {H : Type} {enc : TypeId × Value → H} {w : World} {cs : List Value} (h : Good N enc Tryd.prog w 24 cs) :
    ∃ (A : Option Addr) (n c : Nat) (X : Nat → Int), cs = [.slice A n c] ∧ n * 8 ≤ 140737488351232 ∧ Row1 w A n (fun k => .int .i64 (X k)) ∧ ∀ k, k < n → -9223372036854775808 ≤ X k ∧ X k ≤ 9223372036854775807 := by
  obtain ⟨A, n, c, f, rfl, hn, hb, _, hr, hg⟩ := good_slice 1 Tryd.cellsInt (by omega) Tryd.underlying24 h
  rw [Tryd.bytesInt] at hb
  unfold reachBytes at hb
  have hx : ∀ k, k < n → ∃ x : Int, f k 0 = .int .i64 x ∧ (Lit.int .i64 x).wf = true := fun k hk => by
    obtain ⟨x, e, hw⟩ := good_int Tryd.underlying3 (hg k hk)
    exact ⟨x, by simpa [List.range_succ] using e, hw⟩
  obtain ⟨X, hX⟩ := choose_lt (α := Int) hx
  refine ⟨A, n, c, X, rfl, by omega, fun h0 => ?_, fun k hk => fits_i64 (hX k hk).2⟩
  obtain ⟨b, off, e, hc⟩ := hr.one h0
  exact ⟨b, off, e, fun k hk => (hc k hk).trans (congrArg some (hX k hk).1)⟩
/-- a net of tables: inputs; registers' first values; tables (how many inputs, which, bits); next signals; outputs -/
structure Tb where
  ins : Int
  n1 : Nat
  I : Nat → Bool
  n2 : Nat
  tl : Nat → Nat
  tw : Nat → Nat → Int
  tb : Nat → Int
  n3 : Nat
  N : Nat → Int
  n4 : Nat
  O : Nat → Int

/-- the tables' rows -/
def TabAt (w : World) (A : Option Addr) (g : Tb) : Prop :=
  ∃ (TA : Nat → Option Addr) (TC : Nat → Nat), RowS w 2 A g.n2 (fun k => two (.slice (TA k) (g.tl k) (TC k)) (.int .i64 (g.tb k))) ∧ ∀ k, k < g.n2 → Row1 w (TA k) (g.tl k) (fun j => .int .i64 (g.tw k j))
theorem TabAt.keeps {w w1 : World} {A : Option Addr} {g : Tb} (h : TabAt w A g) (k : Keeps w w1) : TabAt w1 A g := by
  obtain ⟨TA, TC, h1, h2⟩ := h
  exact ⟨TA, TC, h1.keeps k, fun i hi => (h2 i hi).keeps k⟩

structure Tb.At (g : Tb) (w : World) (A1 A2 A3 A4 : Option Addr) : Prop where
  init : Bits w A1 g.n1 g.I
  tabs : TabAt w A2 g
  next : Row1 w A3 g.n3 (fun k => .int .i64 (g.N k))
  outs : Row1 w A4 g.n4 (fun k => .int .i64 (g.O k))
theorem Tb.At.keeps {g : Tb} {w w1 : World} {A1 A2 A3 A4 : Option Addr} (h : g.At w A1 A2 A3 A4) (k : Keeps w w1) : g.At w1 A1 A2 A3 A4 := ⟨h.init.keeps k, h.tabs.keeps k, h.next.keeps k, h.outs.keeps k⟩

/-- no list is out of reach; each number is one of 64 bits -/
structure Tb.Fits (g : Tb) : Prop where
  b1 : g.n1 ≤ 140737488351232
  b2 : g.n2 * 32 ≤ 140737488351232
  b3 : g.n3 * 8 ≤ 140737488351232
  b4 : g.n4 * 8 ≤ 140737488351232
  bt : ∀ k, k < g.n2 → g.tl k * 8 ≤ 140737488351232
  i : -9223372036854775808 ≤ g.ins ∧ g.ins ≤ 9223372036854775807
  tb : ∀ k, k < g.n2 → g.tb k ≤ 9223372036854775807

theorem Tryd.cellsTables : Tryd.prog.cellsOf 26 = 5 := by kernel_rfl
theorem Tryd.cellsTable : Tryd.prog.cellsOf 50 = 2 := by kernel_rfl
theorem Tryd.cellsSlTab : Tryd.prog.cellsOf 23 = 1 := by kernel_rfl

theorem Tryd.bytesTable : Tryd.prog.bytesOf 50 = 32 := by kernel_rfl

theorem list5 {α : Type} {l : List α} (h : l.length = 5) : ∃ a b c d e, l = [a, b, c, d, e] := by
  match l, h with
  | [a, b, c, d, e], _ => exact ⟨a, b, c, d, e, rfl⟩

theorem open_tables {M : Nat} {H : Type} {enc : TypeId × Value → H} {w : World} {cs : List Value} (h : Good M enc Tryd.prog w 26 cs) :
    ∃ (g : Tb) (A1 A2 A3 A4 : Option Addr) (c1 c2 c3 c4 : Nat), cs = [.int .i64 g.ins, .slice A1 g.n1 c1, .slice A2 g.n2 c2, .slice A3 g.n3 c3, .slice A4 g.n4 c4] ∧ g.At w A1 A2 A3 A4 ∧ g.Fits := by
  obtain ⟨v0, v1, v2, v3, v4, rfl⟩ := list5 (good_len Tryd.underlying26 h Tryd.cellsTables)
  obtain ⟨ins, e0, wi⟩ := good_int Tryd.underlying3 (good_field Tryd.underlying26 h 0 _ 1 0 rfl Tryd.cellsInt)
  obtain ⟨A1, n1, c1, I, e1, k1, r1⟩ := open_bits (good_field Tryd.underlying26 h 1 _ 1 1 rfl Tryd.cellsSl31)
  obtain ⟨A3, n3, c3, N, e3, k3, r3, _⟩ := open_ints1 (good_field Tryd.underlying26 h 3 _ 1 3 rfl Tryd.cellsSl24)
  obtain ⟨A4, n4, c4, O, e4, k4, r4, _⟩ := open_ints1 (good_field Tryd.underlying26 h 4 _ 1 4 rfl Tryd.cellsSl24)
  obtain ⟨A2, n2, c2, f, e2, hn, hb, hcM, hr, hg⟩ := good_slice 2 Tryd.cellsTable (by omega) Tryd.underlying23 (good_field Tryd.underlying26 h 2 _ 1 2 rfl Tryd.cellsSlTab)
  rw [Tryd.bytesTable] at hb
  unfold reachBytes at hb
  have hx : ∀ k, k < n2 → ∃ x : Option Addr × Nat × Nat × (Nat → Int) × Int, f k 0 = .slice x.1 x.2.1 x.2.2.1 ∧ f k 1 = .int .i64 x.2.2.2.2 ∧ x.2.1 * 8 ≤ 140737488351232 ∧ Row1 w x.1 x.2.1 (fun j => .int .i64 (x.2.2.2.1 j)) ∧ x.2.2.2.2 ≤ 9223372036854775807 := fun k hk => by
    obtain ⟨A', n', c', X, e, hl, hX, _⟩ := open_ints1 (good_field Tryd.underlying50 (hg k hk) 0 _ 1 0 rfl Tryd.cellsSl24)
    obtain ⟨b, e', hb⟩ := good_int Tryd.underlying3 (good_field Tryd.underlying50 (hg k hk) 1 _ 1 1 rfl Tryd.cellsInt)
    rw [range_cell _ _ _ (by omega)] at e e'
    exact ⟨(A', n', c', X, b), by simpa using e, by simpa using e', hl, hX, (fits_i64 hb).2⟩
  obtain ⟨X, hX⟩ := choose_lt (α := Option Addr × Nat × Nat × (Nat → Int) × Int) hx
  simp at e0 e1 e2 e3 e4
  subst e0; subst e1; subst e2; subst e3; subst e4
  refine ⟨⟨ins, n1, I, n2, fun k => (X k).2.1, fun k => (X k).2.2.2.1, fun k => (X k).2.2.2.2, n3, N, n4, O⟩, A1, A2, A3, A4, c1, c2, c3, c4, rfl,
    ⟨r1, ⟨fun k => (X k).1, fun k => (X k).2.2.1, fun h0 => ?_, fun k hk => (hX k hk).2.2.2.1⟩, r3, r4⟩, ⟨k1, by show n2 * 32 ≤ _; omega, k3, k4, fun k hk => (hX k hk).2.2.1, fits_i64 wi, fun k hk => (hX k hk).2.2.2.2⟩⟩
  obtain ⟨b, off, e, hc⟩ := hr h0
  refine ⟨b, off, e, fun k hk j hj => ?_⟩
  rw [hc k hk j hj]
  obtain rfl | rfl : j = 0 ∨ j = 1 := by omega
  · rw [(hX k hk).1]; rfl
  · rw [(hX k hk).2.1]; rfl

/-! ### When a net of tables is valid -/
def Tb.sigs (g : Tb) : Int := 2 + g.ins + g.n1 + g.n2
structure Tb.TabOk (g : Tb) (k : Nat) : Prop where
  len : g.tl k ≤ 4
  lo : 0 ≤ g.tb k
  hi : g.tb k < 2 ^ (2 ^ g.tl k)
  ins : ∀ j, j < g.tl k → 0 ≤ g.tw k j ∧ g.tw k j < 2 + g.ins + g.n1 + k
structure Tb.Valid (g : Tb) : Prop where
  i0 : 0 ≤ g.ins
  i1 : g.ins ≤ 60000
  n4 : g.n4 ≤ 60000
  n3 : g.n3 = g.n1
  tabs : ∀ k, k < g.n2 → g.TabOk k
  next : ∀ j, j < g.n3 → 0 ≤ g.N j ∧ g.N j < g.sigs
  outs : ∀ j, j < g.n4 → 0 ≤ g.O j ∧ g.O j < g.sigs

/-- one list behind another -/
def both (n : Nat) (X Y : Nat → Int) (k : Nat) : Int := if k < n then X k else Y (k - n)
/-- how many signals are no tables -/
def Tb.pre (g : Tb) : Nat := 2 + g.ins.toNat + g.n1
/-- the greatest of 0 and the first n -/
def top (f : Nat → Int) : Nat → Int
  | 0 => 0
  | n + 1 => max (top f n) (f n)
/-- the signals' depths, of the first k tables -/
def Tb.dep (g : Tb) : Nat → Nat → Int
  | 0 => fun _ => 0
  | k + 1 => fun j => if j = g.pre + k then 1 + top (fun i => g.dep k (g.tw k i).toNat) (g.tl k) else g.dep k j
def Tb.depth (g : Tb) : Int := top (fun i => g.dep g.n2 (both g.n3 g.N g.O i).toNat) (g.n3 + g.n4)

theorem top_le {f : Nat → Int} {b : Int} (hb : 0 ≤ b) : ∀ n, (∀ i, i < n → f i ≤ b) → 0 ≤ top f n ∧ top f n ≤ b
  | 0, _ => ⟨Int.le_refl _, hb⟩
  | n + 1, h => by
    have h1 := top_le hb n (fun i hi => h i (by omega))
    have h2 := h n (by omega)
    simp only [top]; omega
theorem top_congr {f f' : Nat → Int} : ∀ n, (∀ i, i < n → f i = f' i) → top f n = top f' n
  | 0, _ => rfl
  | n + 1, h => by simp only [top]; rw [top_congr n (fun i hi => h i (by omega)), h n (by omega)]
theorem top_both (f : Int → Int) (n : Nat) (X Y : Nat → Int) : ∀ m, top (fun i => f (both n X Y i)) (n + m) = max (top (fun i => f (X i)) n) (top (fun i => f (Y i)) m)
  | 0 => by
    have h := (top_congr (f := fun i => f (both n X Y i)) (f' := fun i => f (X i)) n (fun i hi => by simp only [both]; rw [if_pos hi]))
    have h0 : ∀ k, 0 ≤ top (fun i => f (X i)) k := fun k => by
      induction k with
      | zero => exact Int.le_refl _
      | succ k ih => simp only [top]; omega
    have := h0 n
    simp only [Nat.add_zero, top]; rw [h]; omega
  | m + 1 => by
    rw [show n + (m + 1) = (n + m) + 1 by omega]
    simp only [top]
    rw [top_both f n X Y m]
    have : both n X Y (n + m) = Y m := by unfold both; rw [if_neg (by omega), Nat.add_sub_cancel_left]
    rw [this]; omega
theorem Tb.dep_le (g : Tb) : ∀ k j, 0 ≤ g.dep k j ∧ g.dep k j ≤ k
  | 0, j => ⟨Int.le_refl _, Int.le_refl _⟩
  | k + 1, j => by
    simp only [Tb.dep]
    split
    · have := top_le (f := fun i => g.dep k (g.tw k i).toNat) (b := k) (by omega) (g.tl k) (fun i _ => (g.dep_le k _).2)
      omega
    · have := g.dep_le k j; omega
theorem Tb.dep_lo (g : Tb) (k j : Nat) (h : j < g.pre + k) : g.dep (k + 1) j = g.dep k j := by
  simp only [Tb.dep]; rw [if_neg (by omega)]
/-- the values of the signals that are no tables -/
def Tb.head (g : Tb) (inp st : Nat → Bool) (j : Nat) : Bool :=
  if j = 0 then false else if j = 1 then true else if j < 2 + g.ins.toNat then inp (j - 2) else if j < g.pre then st (j - 2 - g.ins.toNat) else false
/-- .. and of the first k tables -/
def Tb.cyc (g : Tb) (inp st : Nat → Bool) : Nat → Nat → Bool
  | 0 => g.head inp st
  | k + 1 => fun j => if j = g.pre + k then bitAt (g.tb k) (rowB (fun j => g.cyc inp st k (g.tw k j).toNat) (g.tl k)) else g.cyc inp st k j
def Tb.vals (g : Tb) (inp st : Nat → Bool) : Nat → Bool := g.cyc inp st g.n2
/-- the registers at first, and behind c cycles -/
def Tb.state (g : Tb) (T : Nat → Nat → Bool) : Nat → Nat → Bool
  | 0 => g.I
  | c + 1 => fun i => g.vals (T c) (g.state T c) (g.N i).toNat
def Tb.row (g : Tb) (T : Nat → Nat → Bool) (c i : Nat) : Bool := g.vals (T c) (g.state T c) (g.O i).toNat

theorem rowB_congr {X X' : Nat → Bool} : ∀ n, (∀ i, i < n → X i = X' i) → rowB X n = rowB X' n
  | 0, _ => rfl
  | n + 1, h => by simp only [rowB]; rw [rowB_congr n (fun i hi => h i (by omega)), h n (by omega)]
theorem Tb.cyc_at (g : Tb) (inp st : Nat → Bool) (k : Nat) : g.cyc inp st (k + 1) (g.pre + k) = bitAt (g.tb k) (rowB (fun j => g.cyc inp st k (g.tw k j).toNat) (g.tl k)) := by simp [Tb.cyc]
theorem Tb.cyc_lo (g : Tb) (inp st : Nat → Bool) (k j : Nat) (h : j < g.pre + k) : g.cyc inp st (k + 1) j = g.cyc inp st k j := by
  simp only [Tb.cyc]; rw [if_neg (by omega)]
theorem Tb.head_in (g : Tb) (inp st : Nat → Bool) {k : Nat} (h : k < g.ins.toNat) : g.head inp st (k + 2) = inp k := by
  unfold Tb.head; rw [if_neg (by omega), if_neg (by omega), if_pos (by omega)]; rfl
theorem Tb.head_st (g : Tb) (inp st : Nat → Bool) {k : Nat} (h : k < g.n1) : g.head inp st (g.ins.toNat + 2 + k) = st k := by
  unfold Tb.head Tb.pre; rw [if_neg (by omega), if_neg (by omega), if_neg (by omega), if_pos (by omega)]; congr 1; omega
theorem Tb.vals_lo (g : Tb) (inp st : Nat → Bool) (j : Nat) (h : j < g.pre) : g.vals inp st j = g.head inp st j := by
  have h : ∀ k, g.cyc inp st k j = g.head inp st j := fun k => by
    induction k with
    | zero => rfl
    | succ k ih => rw [Tb.cyc_lo _ _ _ _ _ (by omega), ih]
  exact h _
/-- the bit that is laid over: 'or' is '+' -/
theorem or_two (a n : Nat) (h : a < 2 ^ n) : a ||| 2 ^ n = a + 2 ^ n := by
  have := Nat.two_pow_add_eq_or_of_lt h 1
  rw [Nat.mul_one] at this
  rw [Nat.or_comm, ← this, Nat.add_comm]

end Go.Proofs.YtlmcbhmaccncbaaDoor
