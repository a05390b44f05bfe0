/- Nets of tables as they are read from memory: the numbers, where they lie, and how an argument is opened to them; when a net is valid. No condition. -/
import Derived.Test.YtdhgbikmaglgpaaGraph
import Derived.Test.YtdhgbikmaglgpaaOpenMat
namespace Go.Proofs.Ytdhgbikmaglgpaa
open Go.RowKit Go.ChangeShapes Go.WideShapes Go.Deep

/-- a net of tables: inputs; registers' first values; tables (how many inputs, which, bits); next signals; outputs -/
structure Tb where
  ins : Int
  n1 : Nat
  I : Nat → Bool
  n2 : Nat
  tl : Nat → Nat
  tw : Nat → Nat → Int
  tb : Nat → Int
  n3 : Nat
  N : Nat → Int
  n4 : Nat
  O : Nat → Int

/-- the tables' rows -/
def TabAt (w : World) (A : Option Addr) (g : Tb) : Prop :=
  ∃ (TA : Nat → Option Addr) (TC : Nat → Nat), RowS w 2 A g.n2 (fun k => two (.slice (TA k) (g.tl k) (TC k)) (.int .i64 (g.tb k))) ∧ ∀ k, k < g.n2 → Row1 w (TA k) (g.tl k) (fun j => .int .i64 (g.tw k j))
theorem TabAt.keeps {w w1 : World} {A : Option Addr} {g : Tb} (h : TabAt w A g) (k : Keeps w w1) : TabAt w1 A g := by
  obtain ⟨TA, TC, h1, h2⟩ := h
  exact ⟨TA, TC, h1.keeps k, fun i hi => (h2 i hi).keeps k⟩

structure Tb.At (g : Tb) (w : World) (A1 A2 A3 A4 : Option Addr) : Prop where
  init : Bits w A1 g.n1 g.I
  tabs : TabAt w A2 g
  next : Row1 w A3 g.n3 (fun k => .int .i64 (g.N k))
  outs : Row1 w A4 g.n4 (fun k => .int .i64 (g.O k))
theorem Tb.At.keeps {g : Tb} {w w1 : World} {A1 A2 A3 A4 : Option Addr} (h : g.At w A1 A2 A3 A4) (k : Keeps w w1) : g.At w1 A1 A2 A3 A4 := ⟨h.init.keeps k, h.tabs.keeps k, h.next.keeps k, h.outs.keeps k⟩

/-- no list is out of reach; each number is one of 64 bits -/
structure Tb.Fits (g : Tb) : Prop where
  b1 : g.n1 ≤ 140737488351232
  b2 : g.n2 * 32 ≤ 140737488351232
  b3 : g.n3 * 8 ≤ 140737488351232
  b4 : g.n4 * 8 ≤ 140737488351232
  bt : ∀ k, k < g.n2 → g.tl k * 8 ≤ 140737488351232
  i : -9223372036854775808 ≤ g.ins ∧ g.ins ≤ 9223372036854775807
  tb : ∀ k, k < g.n2 → g.tb k ≤ 9223372036854775807

theorem Try.cellsTables : Try.prog.cellsOf 34 = 5 := by kernel_rfl
theorem Try.cellsTable : Try.prog.cellsOf 76 = 2 := by kernel_rfl
theorem Try.cellsSlTab : Try.prog.cellsOf 32 = 1 := by kernel_rfl

theorem Try.bytesTable : Try.prog.bytesOf 76 = 32 := by kernel_rfl

theorem list5 {α : Type} {l : List α} (h : l.length = 5) : ∃ a b c d e, l = [a, b, c, d, e] := by
  match l, h with
  | [a, b, c, d, e], _ => exact ⟨a, b, c, d, e, rfl⟩

theorem open_tables {M : Nat} {H : Type} {enc : TypeId × Value → H} {w : World} {cs : List Value} (h : Good M enc Try.prog w 34 cs) :
    ∃ (g : Tb) (A1 A2 A3 A4 : Option Addr) (c1 c2 c3 c4 : Nat), cs = [.int .i64 g.ins, .slice A1 g.n1 c1, .slice A2 g.n2 c2, .slice A3 g.n3 c3, .slice A4 g.n4 c4] ∧ g.At w A1 A2 A3 A4 ∧ g.Fits := by
  obtain ⟨v0, v1, v2, v3, v4, rfl⟩ := list5 (good_len Try.underlying34 h Try.cellsTables)
  obtain ⟨ins, e0, wi⟩ := good_int Try.underlying3 (good_field Try.underlying34 h 0 _ 1 0 rfl Try.cellsInt)
  obtain ⟨A1, n1, c1, I, e1, k1, r1⟩ := open_bits (good_field Try.underlying34 h 1 _ 1 1 rfl Try.cellsSl31)
  obtain ⟨A3, n3, c3, N, e3, k3, r3, _⟩ := open_ints1 (good_field Try.underlying34 h 3 _ 1 3 rfl Try.cellsSl24)
  obtain ⟨A4, n4, c4, O, e4, k4, r4, _⟩ := open_ints1 (good_field Try.underlying34 h 4 _ 1 4 rfl Try.cellsSl24)
  obtain ⟨A2, n2, c2, f, e2, hn, hb, hcM, hr, hg⟩ := good_slice 2 Try.cellsTable (by omega) Try.underlying32 (good_field Try.underlying34 h 2 _ 1 2 rfl Try.cellsSlTab)
  rw [Try.bytesTable] at hb
  unfold reachBytes at hb
  have hx : ∀ k, k < n2 → ∃ x : Option Addr × Nat × Nat × (Nat → Int) × Int, f k 0 = .slice x.1 x.2.1 x.2.2.1 ∧ f k 1 = .int .i64 x.2.2.2.2 ∧ x.2.1 * 8 ≤ 140737488351232 ∧ Row1 w x.1 x.2.1 (fun j => .int .i64 (x.2.2.2.1 j)) ∧ x.2.2.2.2 ≤ 9223372036854775807 := fun k hk => by
    obtain ⟨A', n', c', X, e, hl, hX, _⟩ := open_ints1 (good_field Try.underlying76 (hg k hk) 0 _ 1 0 rfl Try.cellsSl24)
    obtain ⟨b, e', hb⟩ := good_int Try.underlying3 (good_field Try.underlying76 (hg k hk) 1 _ 1 1 rfl Try.cellsInt)
    rw [range_cell _ _ _ (by omega)] at e e'
    exact ⟨(A', n', c', X, b), by simpa using e, by simpa using e', hl, hX, (fits_i64 hb).2⟩
  obtain ⟨X, hX⟩ := choose_lt (α := Option Addr × Nat × Nat × (Nat → Int) × Int) hx
  simp at e0 e1 e2 e3 e4
  subst e0; subst e1; subst e2; subst e3; subst e4
  refine ⟨⟨ins, n1, I, n2, fun k => (X k).2.1, fun k => (X k).2.2.2.1, fun k => (X k).2.2.2.2, n3, N, n4, O⟩, A1, A2, A3, A4, c1, c2, c3, c4, rfl,
    ⟨r1, ⟨fun k => (X k).1, fun k => (X k).2.2.1, fun h0 => ?_, fun k hk => (hX k hk).2.2.2.1⟩, r3, r4⟩, ⟨k1, by show n2 * 32 ≤ _; omega, k3, k4, fun k hk => (hX k hk).2.2.1, fits_i64 wi, fun k hk => (hX k hk).2.2.2.2⟩⟩
  obtain ⟨b, off, e, hc⟩ := hr h0
  refine ⟨b, off, e, fun k hk j hj => ?_⟩
  rw [hc k hk j hj]
  obtain rfl | rfl : j = 0 ∨ j = 1 := by omega
  · rw [(hX k hk).1]; rfl
  · rw [(hX k hk).2.1]; rfl

/-! ### When a net of tables is valid -/
def Tb.sigs (g : Tb) : Int := 2 + g.ins + g.n1 + g.n2
structure Tb.TabOk (g : Tb) (k : Nat) : Prop where
  len : g.tl k ≤ 4
  lo : 0 ≤ g.tb k
  hi : g.tb k < 2 ^ (2 ^ g.tl k)
  ins : ∀ j, j < g.tl k → 0 ≤ g.tw k j ∧ g.tw k j < 2 + g.ins + g.n1 + k
structure Tb.Valid (g : Tb) : Prop where
  i0 : 0 ≤ g.ins
  i1 : g.ins ≤ 60000
  n4 : g.n4 ≤ 60000
  n3 : g.n3 = g.n1
  tabs : ∀ k, k < g.n2 → g.TabOk k
  next : ∀ j, j < g.n3 → 0 ≤ g.N j ∧ g.N j < g.sigs
  outs : ∀ j, j < g.n4 → 0 ≤ g.O j ∧ g.O j < g.sigs

end Go.Proofs.Ytdhgbikmaglgpaa
