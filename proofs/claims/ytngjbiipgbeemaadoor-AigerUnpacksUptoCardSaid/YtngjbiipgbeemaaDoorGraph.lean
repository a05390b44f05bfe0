/- Graphs of and-gates as they are read from memory: the numbers, where they lie, and how an argument is opened to them; when a graph is valid. No condition. -/
import Derived.Test.YtngjbiipgbeemaaDoorBase
namespace Go.Proofs.YtngjbiipgbeemaaDoor
open Go.RowKit Go.ChangeShapes Go.WideShapes Go.Deep

/-- a graph's numbers: inputs; latches (next, init); gates (two literals); outputs -/
structure G where
  ins : Int
  n1 : Nat
  n2 : Nat
  n3 : Nat
  L : Nat → Int
  I : Nat → Bool
  X : Nat → Int
  Y : Nat → Int
  O : Nat → Int

/-- the graph g lies at these addresses -/
structure G.At (g : G) (w : World) (A1 A2 A3 : Option Addr) : Prop where
  lat : RowS w 2 A1 g.n1 (fun k => two (.int .i64 (g.L k)) (.bool (g.I k)))
  ands : RowS w 2 A2 g.n2 (fun k => two (.int .i64 (g.X k)) (.int .i64 (g.Y k)))
  outs : Row1 w A3 g.n3 (fun k => .int .i64 (g.O k))

/-- no list is out of reach; each number is one of 64 bits -/
structure G.Fits (g : G) : Prop where
  b1 : g.n1 * 16 ≤ 140737488351232
  b2 : g.n2 * 16 ≤ 140737488351232
  b3 : g.n3 * 8 ≤ 140737488351232
  i : -9223372036854775808 ≤ g.ins ∧ g.ins ≤ 9223372036854775807

theorem G.At.keeps {g : G} {w w1 : World} {A1 A2 A3 : Option Addr} (h : g.At w A1 A2 A3) (k : Keeps w w1) : g.At w1 A1 A2 A3 := ⟨h.lat.keeps k, h.ands.keeps k, h.outs.keeps k⟩

theorem Tryd.cellsGraph : Tryd.prog.cellsOf 28 = 4 := by kernel_rfl
theorem Tryd.cellsLatch : Tryd.prog.cellsOf 47 = 2 := by kernel_rfl
theorem Tryd.cellsPair : Tryd.prog.cellsOf 48 = 2 := by kernel_rfl
theorem Tryd.cellsInt : Tryd.prog.cellsOf 3 = 1 := by kernel_rfl
theorem Tryd.cellsBool : Tryd.prog.cellsOf 4 = 1 := by kernel_rfl
theorem Tryd.cellsSl22 : Tryd.prog.cellsOf 24 = 1 := by kernel_rfl
theorem Tryd.cellsSl23 : Tryd.prog.cellsOf 25 = 1 := by kernel_rfl
theorem Tryd.cellsSl24 : Tryd.prog.cellsOf 26 = 1 := by kernel_rfl
theorem Tryd.bytesLatch : Tryd.prog.bytesOf 47 = 16 := by kernel_rfl
theorem Tryd.bytesPair : Tryd.prog.bytesOf 48 = 16 := by kernel_rfl
theorem Tryd.bytesInt : Tryd.prog.bytesOf 3 = 8 := by kernel_rfl

theorem list4 {α : Type} {l : List α} (h : l.length = 4) : ∃ a b c d, l = [a, b, c, d] := by
  match l, h with
  | [a, b, c, d], _ => exact ⟨a, b, c, d, rfl⟩

theorem fits_i64 {n : Int} (h : (Lit.int .i64 n).wf = true) : -9223372036854775808 ≤ n ∧ n ≤ 9223372036854775807 := by
  simpa [Lit.wf, IntKind.min, IntKind.max, IntKind.signed, IntKind.bits] using h

theorem open_ints1 {N : Nat} {H : Type} {enc : TypeId × Value → H} {w : World} {cs : List Value} (h : Good N enc Tryd.prog w 26 cs) :
    ∃ (A : Option Addr) (n c : Nat) (X : Nat → Int), cs = [.slice A n c] ∧ n * 8 ≤ 140737488351232 ∧ Row1 w A n (fun k => .int .i64 (X k)) ∧ ∀ k, k < n → -9223372036854775808 ≤ X k ∧ X k ≤ 9223372036854775807 := by
  obtain ⟨A, n, c, f, rfl, hn, hb, _, hr, hg⟩ := good_slice 1 Tryd.cellsInt (by omega) Tryd.underlying26 h
  rw [Tryd.bytesInt] at hb
  unfold reachBytes at hb
  have hx : ∀ k, k < n → ∃ x : Int, f k 0 = .int .i64 x ∧ (Lit.int .i64 x).wf = true := fun k hk => by
    obtain ⟨x, e, hw⟩ := good_int Tryd.underlying3 (hg k hk)
    exact ⟨x, by simpa [List.range_succ] using e, hw⟩
  obtain ⟨X, hX⟩ := choose_lt (α := Int) hx
  refine ⟨A, n, c, X, rfl, by omega, fun h0 => ?_, fun k hk => fits_i64 (hX k hk).2⟩
  obtain ⟨b, off, e, hc⟩ := hr.one h0
  exact ⟨b, off, e, fun k hk => (hc k hk).trans (congrArg some (hX k hk).1)⟩

theorem open_pairs {N : Nat} {H : Type} {enc : TypeId × Value → H} {w : World} {cs : List Value} (h : Good N enc Tryd.prog w 25 cs) :
    ∃ (A : Option Addr) (n c : Nat) (X Y : Nat → Int), cs = [.slice A n c] ∧ n * 16 ≤ 140737488351232 ∧ RowS w 2 A n (fun k => two (.int .i64 (X k)) (.int .i64 (Y k))) := by
  obtain ⟨A, n, c, f, rfl, hn, hb, _, hr, hg⟩ := good_slice 2 Tryd.cellsPair (by omega) Tryd.underlying25 h
  rw [Tryd.bytesPair] at hb
  unfold reachBytes at hb
  have hx : ∀ k, k < n → ∃ x : Int × Int, f k 0 = .int .i64 x.1 ∧ f k 1 = .int .i64 x.2 := fun k hk => by
    obtain ⟨x, e, _⟩ := good_int Tryd.underlying3 (good_elem Tryd.underlying48 (hg k hk) 0 1 (by omega) Tryd.cellsInt)
    obtain ⟨y, e', _⟩ := good_int Tryd.underlying3 (good_elem Tryd.underlying48 (hg k hk) 1 1 (by omega) Tryd.cellsInt)
    rw [range_cell _ _ _ (by omega)] at e e'
    exact ⟨(x, y), by simpa using e, by simpa using e'⟩
  obtain ⟨X, hX⟩ := choose_lt (α := Int × Int) hx
  refine ⟨A, n, c, fun k => (X k).1, fun k => (X k).2, rfl, by omega, fun h0 => ?_⟩
  obtain ⟨b, off, e, hc⟩ := hr h0
  refine ⟨b, off, e, fun k hk j hj => ?_⟩
  rw [hc k hk j hj]
  obtain rfl | rfl : j = 0 ∨ j = 1 := by omega
  · rw [(hX k hk).1]; rfl
  · rw [(hX k hk).2]; rfl

theorem open_latches {N : Nat} {H : Type} {enc : TypeId × Value → H} {w : World} {cs : List Value} (h : Good N enc Tryd.prog w 24 cs) :
    ∃ (A : Option Addr) (n c : Nat) (L : Nat → Int) (I : Nat → Bool), cs = [.slice A n c] ∧ n * 16 ≤ 140737488351232 ∧ RowS w 2 A n (fun k => two (.int .i64 (L k)) (.bool (I k))) := by
  obtain ⟨A, n, c, f, rfl, hn, hb, _, hr, hg⟩ := good_slice 2 Tryd.cellsLatch (by omega) Tryd.underlying24 h
  rw [Tryd.bytesLatch] at hb
  unfold reachBytes at hb
  have hx : ∀ k, k < n → ∃ x : Int × Bool, f k 0 = .int .i64 x.1 ∧ f k 1 = .bool x.2 := fun k hk => by
    obtain ⟨x, e, _⟩ := good_int Tryd.underlying3 (good_field Tryd.underlying47 (hg k hk) 0 _ 1 0 rfl Tryd.cellsInt)
    obtain ⟨y, e'⟩ := good_bool Tryd.underlying4 (good_field Tryd.underlying47 (hg k hk) 1 _ 1 1 rfl Tryd.cellsBool)
    rw [range_cell _ _ _ (by omega)] at e e'
    exact ⟨(x, y), by simpa using e, by simpa using e'⟩
  obtain ⟨X, hX⟩ := choose_lt (α := Int × Bool) hx
  refine ⟨A, n, c, fun k => (X k).1, fun k => (X k).2, rfl, by omega, fun h0 => ?_⟩
  obtain ⟨b, off, e, hc⟩ := hr h0
  refine ⟨b, off, e, fun k hk j hj => ?_⟩
  rw [hc k hk j hj]
  obtain rfl | rfl : j = 0 ∨ j = 1 := by omega
  · rw [(hX k hk).1]; rfl
  · rw [(hX k hk).2]; rfl

theorem open_graph {N : Nat} {H : Type} {enc : TypeId × Value → H} {w : World} {cs : List Value} (h : Good N enc Tryd.prog w 28 cs) :
    ∃ (g : G) (A1 A2 A3 : Option Addr) (c1 c2 c3 : Nat), cs = [.int .i64 g.ins, .slice A1 g.n1 c1, .slice A2 g.n2 c2, .slice A3 g.n3 c3] ∧ g.At w A1 A2 A3 ∧ g.Fits := by
  obtain ⟨v0, v1, v2, v3, rfl⟩ := list4 (good_len Tryd.underlying28 h Tryd.cellsGraph)
  obtain ⟨ins, e0, wi⟩ := good_int Tryd.underlying3 (good_field Tryd.underlying28 h 0 _ 1 0 rfl Tryd.cellsInt)
  obtain ⟨A1, n1, c1, L, I, e1, k1, r1⟩ := open_latches (good_field Tryd.underlying28 h 1 _ 1 1 rfl Tryd.cellsSl22)
  obtain ⟨A2, n2, c2, X, Y, e2, k2, r2⟩ := open_pairs (good_field Tryd.underlying28 h 2 _ 1 2 rfl Tryd.cellsSl23)
  obtain ⟨A3, n3, c3, O, e3, k3, r3, _⟩ := open_ints1 (good_field Tryd.underlying28 h 3 _ 1 3 rfl Tryd.cellsSl24)
  simp at e0 e1 e2 e3
  subst e0; subst e1; subst e2; subst e3
  exact ⟨⟨ins, n1, n2, n3, L, I, X, Y, O⟩, A1, A2, A3, c1, c2, c3, rfl, ⟨r1, r2, r3⟩, ⟨k1, k2, k3, fits_i64 wi⟩⟩

/-! ### When a graph is valid -/
def G.AndOk (g : G) (j : Nat) : Prop := (0 ≤ g.X j ∧ g.X j < 2 * (1 + g.ins + g.n1 + j)) ∧ 0 ≤ g.Y j ∧ g.Y j < 2 * (1 + g.ins + g.n1 + j)
def G.LitOk (g : G) (l : Int) : Prop := 0 ≤ l ∧ l < 2 * (1 + g.ins + g.n1 + g.n2)

structure G.Valid (g : G) : Prop where
  i0 : 0 ≤ g.ins
  i1 : g.ins ≤ 60000
  n1 : g.n1 ≤ 6000
  n3 : g.n3 ≤ 60000
  n : 1 + g.ins + g.n1 + g.n2 ≤ 60000
  ands : ∀ j, j < g.n2 → g.AndOk j
  lat : ∀ j, j < g.n1 → g.LitOk (g.L j)
  outs : ∀ j, j < g.n3 → g.LitOk (g.O j)

end Go.Proofs.YtngjbiipgbeemaaDoor
