/- Netlists of words as they are read from memory: the numbers, where they lie, and how an argument is opened to them. No condition. -/
import Derived.Test.YtmbcfondglhiiaaOwn
namespace Go.Proofs.Ytmbcfondglhiiaa
open Go.RowKit Go.ChangeShapes Go.WideShapes Go.Deep

/-- a netlist's numbers: inputs' widths; nodes (kind, width, number, arguments); registers (width, first value, next); memories (width, words); writes (memory, when, address, data); outputs -/
structure Nl where
  n0 : Nat
  In : Nat → Int
  nn : Nat
  K : Nat → Int
  W : Nat → Int
  U : Nat → Int
  al : Nat → Nat
  a : Nat → Nat → Int
  nr : Nat
  RW : Nat → Int
  RI : Nat → Int
  RN : Nat → Int
  nm : Nat
  MW : Nat → Int
  MS : Nat → Int
  nw : Nat
  WM : Nat → Int
  WN : Nat → Int
  WA : Nat → Int
  WD : Nat → Int
  no : Nat
  O : Nat → Int

def qu {α : Type} (a b c d : α) : Nat → α
  | 0 => a
  | 1 => b
  | 2 => c
  | _ => d

/-- the nodes lie at A, their arguments at TA -/
def NodesAt (g : Nl) (w : World) (A : Option Addr) (TA : Nat → Option Addr) (TC : Nat → Nat) : Prop :=
  RowS w 4 A g.nn (fun k => qu (.int .i64 (g.K k)) (.int .i64 (g.W k)) (.int .u64 (g.U k)) (.slice (TA k) (g.al k) (TC k))) ∧ ∀ k, k < g.nn → Row1 w (TA k) (g.al k) (fun j => .int .i64 (g.a k j))
theorem NodesAt.keeps {g : Nl} {w w1 : World} {A : Option Addr} {TA : Nat → Option Addr} {TC : Nat → Nat} (h : NodesAt g w A TA TC) (k : Keeps w w1) : NodesAt g w1 A TA TC := ⟨h.1.keeps k, fun i hi => (h.2 i hi).keeps k⟩

/-- where a netlist's lists lie -/
structure Pl where
  A0 : Option Addr
  A1 : Option Addr
  A2 : Option Addr
  A3 : Option Addr
  A4 : Option Addr
  A5 : Option Addr
  c0 : Nat
  c1 : Nat
  c2 : Nat
  c3 : Nat
  c4 : Nat
  c5 : Nat
  TA : Nat → Option Addr
  TC : Nat → Nat
/-- a netlist's six cells -/
def Nl.cells (g : Nl) (p : Pl) : List Value := [.slice p.A0 g.n0 p.c0, .slice p.A1 g.nn p.c1, .slice p.A2 g.nr p.c2, .slice p.A3 g.nm p.c3, .slice p.A4 g.nw p.c4, .slice p.A5 g.no p.c5]

structure Nl.At (g : Nl) (w : World) (p : Pl) : Prop where
  inp : Row1 w p.A0 g.n0 (fun k => .int .i64 (g.In k))
  nodes : NodesAt g w p.A1 p.TA p.TC
  regs : RowS w 3 p.A2 g.nr (fun k => qu (.int .i64 (g.RW k)) (.int .u64 (g.RI k)) (.int .i64 (g.RN k)) (.int .i64 (g.RN k)))
  mems : RowS w 2 p.A3 g.nm (fun k => two (.int .i64 (g.MW k)) (.int .i64 (g.MS k)))
  writes : RowS w 4 p.A4 g.nw (fun k => qu (.int .i64 (g.WM k)) (.int .i64 (g.WN k)) (.int .i64 (g.WA k)) (.int .i64 (g.WD k)))
  outs : Row1 w p.A5 g.no (fun k => .int .i64 (g.O k))
theorem Nl.At.keeps {g : Nl} {w w1 : World} {p : Pl} (h : g.At w p) (k : Keeps w w1) : g.At w1 p := ⟨h.inp.keeps k, h.nodes.keeps k, h.regs.keeps k, h.mems.keeps k, h.writes.keeps k, h.outs.keeps k⟩

/-- no list is out of reach; each number is within its type -/
structure Nl.Fits (g : Nl) : Prop where
  b0 : g.n0 * 8 ≤ 140737488351232
  b1 : g.nn * 48 ≤ 140737488351232
  b2 : g.nr * 24 ≤ 140737488351232
  b3 : g.nm * 16 ≤ 140737488351232
  b4 : g.nw * 32 ≤ 140737488351232
  b5 : g.no * 8 ≤ 140737488351232
  al : ∀ k, k < g.nn → g.al k * 8 ≤ 140737488351232
  u : ∀ k, k < g.nn → 0 ≤ g.U k ∧ g.U k ≤ 18446744073709551615
  kw : ∀ k, k < g.nn → (Lit.int .i64 (g.K k)).wf = true
  ri : ∀ k, k < g.nr → 0 ≤ g.RI k ∧ g.RI k ≤ 18446744073709551615

theorem Try.cellsNet : Try.prog.cellsOf 28 = 6 := by kernel_rfl
theorem Try.cellsNode : Try.prog.cellsOf 42 = 4 := by kernel_rfl
theorem Try.cellsReg : Try.prog.cellsOf 37 = 3 := by kernel_rfl
theorem Try.cellsMem : Try.prog.cellsOf 39 = 2 := by kernel_rfl
theorem Try.cellsWrite : Try.prog.cellsOf 45 = 4 := by kernel_rfl
theorem Try.cellsInt : Try.prog.cellsOf 3 = 1 := by kernel_rfl
theorem Try.cellsU64 : Try.prog.cellsOf 33 = 1 := by kernel_rfl
theorem Try.cellsSlInt : Try.prog.cellsOf 22 = 1 := by kernel_rfl
theorem Try.cellsSlNode : Try.prog.cellsOf 23 = 1 := by kernel_rfl
theorem Try.cellsSlReg : Try.prog.cellsOf 24 = 1 := by kernel_rfl
theorem Try.cellsSlMem : Try.prog.cellsOf 25 = 1 := by kernel_rfl
theorem Try.cellsSlWrite : Try.prog.cellsOf 26 = 1 := by kernel_rfl
theorem Try.bytesInt : Try.prog.bytesOf 3 = 8 := by kernel_rfl
theorem Try.bytesNode : Try.prog.bytesOf 42 = 48 := by kernel_rfl
theorem Try.bytesReg : Try.prog.bytesOf 37 = 24 := by kernel_rfl
theorem Try.bytesMem : Try.prog.bytesOf 39 = 16 := by kernel_rfl
theorem Try.bytesWrite : Try.prog.bytesOf 45 = 32 := by kernel_rfl

theorem RowS.at3 {w : World} {A : Option Addr} {n : Nat} {f : Nat → Nat → Value} (h : RowS w 3 A n f) {k : Nat} (hk : k < n) :
    ∃ b off, A = some ⟨b, off, none⟩ ∧ w.cell? ⟨b, off + k * 3, none⟩ = some (f k 0) ∧ w.cell? ⟨b, off + k * 3 + 1, none⟩ = some (f k 1) ∧ w.cell? ⟨b, off + k * 3 + 2, none⟩ = some (f k 2) := by
  obtain ⟨b, off, e, hc⟩ := h (by omega)
  exact ⟨b, off, e, by simpa using hc k hk 0 (by omega), hc k hk 1 (by omega), hc k hk 2 (by omega)⟩
theorem RowS.at4 {w : World} {A : Option Addr} {n : Nat} {f : Nat → Nat → Value} (h : RowS w 4 A n f) {k : Nat} (hk : k < n) :
    ∃ b off, A = some ⟨b, off, none⟩ ∧ w.cell? ⟨b, off + k * 4, none⟩ = some (f k 0) ∧ w.cell? ⟨b, off + k * 4 + 1, none⟩ = some (f k 1) ∧ w.cell? ⟨b, off + k * 4 + 2, none⟩ = some (f k 2) ∧ w.cell? ⟨b, off + k * 4 + 3, none⟩ = some (f k 3) := by
  obtain ⟨b, off, e, hc⟩ := h (by omega)
  exact ⟨b, off, e, by simpa using hc k hk 0 (by omega), hc k hk 1 (by omega), hc k hk 2 (by omega), hc k hk 3 (by omega)⟩
theorem list6 {α : Type} {l : List α} (h : l.length = 6) : ∃ a b c d e f, l = [a, b, c, d, e, f] := by
  match l, h with
  | [a, b, c, d, e, f], _ => exact ⟨a, b, c, d, e, f, rfl⟩
theorem fits_u64 {n : Int} (h : (Lit.int .u64 n).wf = true) : 0 ≤ n ∧ n ≤ 18446744073709551615 := by
  simpa [Lit.wf, IntKind.min, IntKind.max, IntKind.signed, IntKind.bits] using h

theorem fits_i64 {n : Int} (h : (Lit.int .i64 n).wf = true) : -9223372036854775808 ≤ n ∧ n ≤ 9223372036854775807 := by
  simpa [Lit.wf, IntKind.min, IntKind.max, IntKind.signed, IntKind.bits] using h

theorem open_ints1 {N : Nat} {H : Type} {enc : TypeId × Value → H} {w : World} {cs : List Value} (h : Good N enc Try.prog w 22 cs) :
    ∃ (A : Option Addr) (n c : Nat) (X : Nat → Int), cs = [.slice A n c] ∧ n * 8 ≤ 140737488351232 ∧ Row1 w A n (fun k => .int .i64 (X k)) ∧ ∀ k, k < n → -9223372036854775808 ≤ X k ∧ X k ≤ 9223372036854775807 := by
  obtain ⟨A, n, c, f, rfl, hn, hb, _, hr, hg⟩ := good_slice 1 Try.cellsInt (by omega) Try.underlying22 h
  rw [Try.bytesInt] at hb
  unfold reachBytes at hb
  have hx : ∀ k, k < n → ∃ x : Int, f k 0 = .int .i64 x ∧ (Lit.int .i64 x).wf = true := fun k hk => by
    obtain ⟨x, e, hw⟩ := good_int Try.underlying3 (hg k hk)
    exact ⟨x, by simpa [List.range_succ] using e, hw⟩
  obtain ⟨X, hX⟩ := choose_lt (α := Int) hx
  refine ⟨A, n, c, X, rfl, by omega, fun h0 => ?_, fun k hk => fits_i64 (hX k hk).2⟩
  obtain ⟨b, off, e, hc⟩ := hr.one h0
  exact ⟨b, off, e, fun k hk => (hc k hk).trans (congrArg some (hX k hk).1)⟩


theorem rowOf {w : World} {s n : Nat} {A : Option Addr} {f F : Nat → Nat → Value} (hr : RowS w s A n f) (h : ∀ k, k < n → ∀ j, j < s → f k j = F k j) : RowS w s A n F := fun h0 => by
  obtain ⟨b, off, e, hc⟩ := hr h0
  exact ⟨b, off, e, fun k hk j hj => by rw [hc k hk j hj, h k hk j hj]⟩

section
variable {N : Nat} {H : Type} {enc : TypeId × Value → H} {w : World} {cs : List Value}
theorem open_nodes (h : Good N enc Try.prog w 23 cs) :
    ∃ (A : Option Addr) (n c : Nat) (X : Nat → Int × Int × Int × Option Addr × Nat × Nat × (Nat → Int)), cs = [.slice A n c] ∧ n * 48 ≤ 140737488351232 ∧ RowS w 4 A n (fun k => qu (.int .i64 (X k).1) (.int .i64 (X k).2.1) (.int .u64 (X k).2.2.1) (.slice (X k).2.2.2.1 (X k).2.2.2.2.1 (X k).2.2.2.2.2.1)) ∧
      ∀ k, k < n → Row1 w (X k).2.2.2.1 (X k).2.2.2.2.1 (fun j => .int .i64 ((X k).2.2.2.2.2.2 j)) ∧ (X k).2.2.2.2.1 * 8 ≤ 140737488351232 ∧ (0 ≤ (X k).2.2.1 ∧ (X k).2.2.1 ≤ 18446744073709551615) ∧ (Lit.int .i64 (X k).1).wf = true := by
  obtain ⟨A, n, c, f, rfl, hn, hb, _, hr, hg⟩ := good_slice 4 Try.cellsNode (by omega) Try.underlying23 h
  rw [Try.bytesNode] at hb
  unfold reachBytes at hb
  have hx : ∀ k, k < n → ∃ x : Int × Int × Int × Option Addr × Nat × Nat × (Nat → Int), (f k 0 = .int .i64 x.1 ∧ f k 1 = .int .i64 x.2.1 ∧ f k 2 = .int .u64 x.2.2.1 ∧ f k 3 = .slice x.2.2.2.1 x.2.2.2.2.1 x.2.2.2.2.2.1) ∧
      Row1 w x.2.2.2.1 x.2.2.2.2.1 (fun j => .int .i64 (x.2.2.2.2.2.2 j)) ∧ x.2.2.2.2.1 * 8 ≤ 140737488351232 ∧ (0 ≤ x.2.2.1 ∧ x.2.2.1 ≤ 18446744073709551615) ∧ (Lit.int .i64 x.1).wf = true := fun k hk => by
    obtain ⟨x0, e0, w0⟩ := good_int Try.underlying3 (good_field Try.underlying42 (hg k hk) 0 _ 1 0 rfl Try.cellsInt)
    obtain ⟨x1, e1, _⟩ := good_int Try.underlying3 (good_field Try.underlying42 (hg k hk) 1 _ 1 1 rfl Try.cellsInt)
    obtain ⟨x2, e2, w2⟩ := good_int Try.underlying33 (good_field Try.underlying42 (hg k hk) 2 _ 1 2 rfl Try.cellsU64)
    obtain ⟨A', n', c', X, e3, hl, hX, _⟩ := open_ints1 (good_field Try.underlying42 (hg k hk) 3 _ 1 3 rfl Try.cellsSlInt)
    rw [range_cell _ _ _ (by omega)] at e0 e1 e2 e3
    exact ⟨(x0, x1, x2, A', n', c', X), ⟨by simpa using e0, by simpa using e1, by simpa using e2, by simpa using e3⟩, hX, hl, fits_u64 w2, w0⟩
  obtain ⟨X, hX⟩ := choose_lt (α := Int × Int × Int × Option Addr × Nat × Nat × (Nat → Int)) hx
  refine ⟨A, n, c, X, rfl, by omega, rowOf hr fun k hk j hj => ?_, fun k hk => (hX k hk).2⟩
  obtain ⟨h0, h1, h2, h3⟩ := (hX k hk).1
  obtain rfl | rfl | rfl | rfl : j = 0 ∨ j = 1 ∨ j = 2 ∨ j = 3 := by omega
  · exact h0
  · exact h1
  · exact h2
  · exact h3
theorem open_regs (h : Good N enc Try.prog w 24 cs) :
    ∃ (A : Option Addr) (n c : Nat) (X : Nat → Int × Int × Int), cs = [.slice A n c] ∧ n * 24 ≤ 140737488351232 ∧ RowS w 3 A n (fun k => qu (.int .i64 (X k).1) (.int .u64 (X k).2.1) (.int .i64 (X k).2.2) (.int .i64 (X k).2.2)) ∧ ∀ k, k < n → 0 ≤ (X k).2.1 ∧ (X k).2.1 ≤ 18446744073709551615 := by
  obtain ⟨A, n, c, f, rfl, hn, hb, _, hr, hg⟩ := good_slice 3 Try.cellsReg (by omega) Try.underlying24 h
  rw [Try.bytesReg] at hb
  unfold reachBytes at hb
  have hx : ∀ k, k < n → ∃ x : Int × Int × Int, (f k 0 = .int .i64 x.1 ∧ f k 1 = .int .u64 x.2.1 ∧ f k 2 = .int .i64 x.2.2) ∧ 0 ≤ x.2.1 ∧ x.2.1 ≤ 18446744073709551615 := fun k hk => by
    obtain ⟨x0, e0, _⟩ := good_int Try.underlying3 (good_field Try.underlying37 (hg k hk) 0 _ 1 0 rfl Try.cellsInt)
    obtain ⟨x1, e1, w1⟩ := good_int Try.underlying33 (good_field Try.underlying37 (hg k hk) 1 _ 1 1 rfl Try.cellsU64)
    obtain ⟨x2, e2, _⟩ := good_int Try.underlying3 (good_field Try.underlying37 (hg k hk) 2 _ 1 2 rfl Try.cellsInt)
    rw [range_cell _ _ _ (by omega)] at e0 e1 e2
    exact ⟨(x0, x1, x2), ⟨by simpa using e0, by simpa using e1, by simpa using e2⟩, fits_u64 w1⟩
  obtain ⟨X, hX⟩ := choose_lt (α := Int × Int × Int) hx
  refine ⟨A, n, c, X, rfl, by omega, rowOf hr fun k hk j hj => ?_, fun k hk => (hX k hk).2⟩
  obtain ⟨h0, h1, h2⟩ := (hX k hk).1
  obtain rfl | rfl | rfl : j = 0 ∨ j = 1 ∨ j = 2 := by omega
  · exact h0
  · exact h1
  · exact h2
theorem open_mems (h : Good N enc Try.prog w 25 cs) :
    ∃ (A : Option Addr) (n c : Nat) (X : Nat → Int × Int), cs = [.slice A n c] ∧ n * 16 ≤ 140737488351232 ∧ RowS w 2 A n (fun k => two (.int .i64 (X k).1) (.int .i64 (X k).2)) := by
  obtain ⟨A, n, c, f, rfl, hn, hb, _, hr, hg⟩ := good_slice 2 Try.cellsMem (by omega) Try.underlying25 h
  rw [Try.bytesMem] at hb
  unfold reachBytes at hb
  have hx : ∀ k, k < n → ∃ x : Int × Int, f k 0 = .int .i64 x.1 ∧ f k 1 = .int .i64 x.2 := fun k hk => by
    obtain ⟨x0, e0, _⟩ := good_int Try.underlying3 (good_field Try.underlying39 (hg k hk) 0 _ 1 0 rfl Try.cellsInt)
    obtain ⟨x1, e1, _⟩ := good_int Try.underlying3 (good_field Try.underlying39 (hg k hk) 1 _ 1 1 rfl Try.cellsInt)
    rw [range_cell _ _ _ (by omega)] at e0 e1
    exact ⟨(x0, x1), by simpa using e0, by simpa using e1⟩
  obtain ⟨X, hX⟩ := choose_lt (α := Int × Int) hx
  refine ⟨A, n, c, X, rfl, by omega, rowOf hr fun k hk j hj => ?_⟩
  obtain ⟨h0, h1⟩ := hX k hk
  obtain rfl | rfl : j = 0 ∨ j = 1 := by omega
  · exact h0
  · exact h1
theorem open_writes (h : Good N enc Try.prog w 26 cs) :
    ∃ (A : Option Addr) (n c : Nat) (X : Nat → Int × Int × Int × Int), cs = [.slice A n c] ∧ n * 32 ≤ 140737488351232 ∧ RowS w 4 A n (fun k => qu (.int .i64 (X k).1) (.int .i64 (X k).2.1) (.int .i64 (X k).2.2.1) (.int .i64 (X k).2.2.2)) := by
  obtain ⟨A, n, c, f, rfl, hn, hb, _, hr, hg⟩ := good_slice 4 Try.cellsWrite (by omega) Try.underlying26 h
  rw [Try.bytesWrite] at hb
  unfold reachBytes at hb
  have hx : ∀ k, k < n → ∃ x : Int × Int × Int × Int, f k 0 = .int .i64 x.1 ∧ f k 1 = .int .i64 x.2.1 ∧ f k 2 = .int .i64 x.2.2.1 ∧ f k 3 = .int .i64 x.2.2.2 := fun k hk => by
    obtain ⟨x0, e0, _⟩ := good_int Try.underlying3 (good_field Try.underlying45 (hg k hk) 0 _ 1 0 rfl Try.cellsInt)
    obtain ⟨x1, e1, _⟩ := good_int Try.underlying3 (good_field Try.underlying45 (hg k hk) 1 _ 1 1 rfl Try.cellsInt)
    obtain ⟨x2, e2, _⟩ := good_int Try.underlying3 (good_field Try.underlying45 (hg k hk) 2 _ 1 2 rfl Try.cellsInt)
    obtain ⟨x3, e3, _⟩ := good_int Try.underlying3 (good_field Try.underlying45 (hg k hk) 3 _ 1 3 rfl Try.cellsInt)
    rw [range_cell _ _ _ (by omega)] at e0 e1 e2 e3
    exact ⟨(x0, x1, x2, x3), by simpa using e0, by simpa using e1, by simpa using e2, by simpa using e3⟩
  obtain ⟨X, hX⟩ := choose_lt (α := Int × Int × Int × Int) hx
  refine ⟨A, n, c, X, rfl, by omega, rowOf hr fun k hk j hj => ?_⟩
  obtain ⟨h0, h1, h2, h3⟩ := hX k hk
  obtain rfl | rfl | rfl | rfl : j = 0 ∨ j = 1 ∨ j = 2 ∨ j = 3 := by omega
  · exact h0
  · exact h1
  · exact h2
  · exact h3
theorem open_net (h : Good N enc Try.prog w 28 cs) : ∃ (g : Nl) (p : Pl), cs = g.cells p ∧ g.At w p ∧ g.Fits := by
  obtain ⟨v0, v1, v2, v3, v4, v5, rfl⟩ := list6 (good_len Try.underlying28 h Try.cellsNet)
  obtain ⟨A0, n0, c0, I, e0, k0, r0, _⟩ := open_ints1 (good_field Try.underlying28 h 0 _ 1 0 rfl Try.cellsSlInt)
  obtain ⟨A1, n1, c1, X, e1, k1, r1, q1⟩ := open_nodes (good_field Try.underlying28 h 1 _ 1 1 rfl Try.cellsSlNode)
  obtain ⟨A2, n2, c2, R, e2, k2, r2, q2⟩ := open_regs (good_field Try.underlying28 h 2 _ 1 2 rfl Try.cellsSlReg)
  obtain ⟨A3, n3, c3, M, e3, k3, r3⟩ := open_mems (good_field Try.underlying28 h 3 _ 1 3 rfl Try.cellsSlMem)
  obtain ⟨A4, n4, c4, Wr, e4, k4, r4⟩ := open_writes (good_field Try.underlying28 h 4 _ 1 4 rfl Try.cellsSlWrite)
  obtain ⟨A5, n5, c5, O, e5, k5, r5, _⟩ := open_ints1 (good_field Try.underlying28 h 5 _ 1 5 rfl Try.cellsSlInt)
  simp at e0 e1 e2 e3 e4 e5
  subst e0; subst e1; subst e2; subst e3; subst e4; subst e5
  exact ⟨⟨n0, I, n1, fun k => (X k).1, fun k => (X k).2.1, fun k => (X k).2.2.1, fun k => (X k).2.2.2.2.1, fun k => (X k).2.2.2.2.2.2, n2, fun k => (R k).1, fun k => (R k).2.1, fun k => (R k).2.2, n3, fun k => (M k).1, fun k => (M k).2, n4, fun k => (Wr k).1, fun k => (Wr k).2.1, fun k => (Wr k).2.2.1, fun k => (Wr k).2.2.2, n5, O⟩,
    ⟨A0, A1, A2, A3, A4, A5, c0, c1, c2, c3, c4, c5, fun k => (X k).2.2.2.1, fun k => (X k).2.2.2.2.2.1⟩, rfl,
    ⟨r0, ⟨r1, fun k hk => (q1 k hk).1⟩, r2, r3, r4, r5⟩, ⟨k0, k1, k2, k3, k4, k5, fun k hk => (q1 k hk).2.1, fun k hk => (q1 k hk).2.2.1, fun k hk => (q1 k hk).2.2.2, q2⟩⟩
end
end Go.Proofs.Ytmbcfondglhiiaa
