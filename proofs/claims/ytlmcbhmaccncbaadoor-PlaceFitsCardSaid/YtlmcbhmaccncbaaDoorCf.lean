/- Configurations as they are read from memory: the numbers, where they lie, how an argument is opened to them; when a configuration is valid; its fields in their order. No condition. -/
import Derived.Test.YtlmcbhmaccncbaaDoorBase
namespace Go.Proofs.YtlmcbhmaccncbaaDoor
open Go.RowKit Go.ChangeShapes Go.WideShapes Go.Deep

/-- a configuration's numbers (its shape: inputs, outputs, registers, rows, columns) and its slices -/
structure Cf where
  sh : Nat → Int
  nc : Nat
  rows : Nat → Nat
  B : Nat → Nat → Int
  L : Nat → Nat → Nat → Int
  nr : Nat
  RS : Nat → Int
  RI : Nat → Bool
  no : Nat
  O : Nat → Int
  AC : Option Addr
  AR : Option Addr
  AO : Option Addr
  cC : Nat
  cR : Nat
  cO : Nat
  CA : Nat → Option Addr
  cc : Nat → Nat

def five (f : Nat → Value) (b : Value) : Nat → Value
  | 4 => b
  | j => f j

/-- the configuration lies at its addresses -/
structure Cf.At (c : Cf) (w : World) : Prop where
  cols : Row1 w c.AC c.nc (fun i => .slice (c.CA i) (c.rows i) (c.cc i))
  cells : ∀ i, i < c.nc → RowS w 5 (c.CA i) (c.rows i) (fun k => five (fun j => .int .i64 (c.L i k j)) (.int .i64 (c.B i k)))
  regs : RowS w 2 c.AR c.nr (fun k => two (.int .i64 (c.RS k)) (.bool (c.RI k)))
  outs : Row1 w c.AO c.no (fun k => .int .i64 (c.O k))
theorem Cf.At.keeps {c : Cf} {w w1 : World} (h : c.At w) (k : Keeps w w1) : c.At w1 := ⟨h.cols.keeps k, fun i hi => (h.cells i hi).keeps k, h.regs.keeps k, h.outs.keeps k⟩

/-- no list is out of reach -/
structure Cf.Fits (c : Cf) : Prop where
  b1 : c.nc ≤ 100000000000000
  b2 : ∀ i, i < c.nc → c.rows i ≤ 100000000000000
  b3 : c.nr ≤ 100000000000000
  b4 : c.no ≤ 100000000000000
  s : ∀ i, i < 5 → -9223372036854775808 ≤ c.sh i ∧ c.sh i ≤ 9223372036854775807

theorem Tryd.cellsConfig : Tryd.prog.cellsOf 36 = 8 := by kernel_rfl
theorem Tryd.cellsShape : Tryd.prog.cellsOf 28 = 5 := by kernel_rfl
theorem Tryd.cellsCell : Tryd.prog.cellsOf 74 = 5 := by kernel_rfl
theorem Tryd.cellsCfg : Tryd.prog.cellsOf 68 = 2 := by kernel_rfl
theorem Tryd.cellsInt : Tryd.prog.cellsOf 3 = 1 := by kernel_rfl
theorem Tryd.cellsBool : Tryd.prog.cellsOf 4 = 1 := by kernel_rfl
theorem Tryd.cellsFour : Tryd.prog.cellsOf 72 = 4 := by kernel_rfl
theorem Tryd.cellsCol : Tryd.prog.cellsOf 63 = 1 := by kernel_rfl
theorem Tryd.cellsCols : Tryd.prog.cellsOf 33 = 1 := by kernel_rfl
theorem Tryd.cellsRegs : Tryd.prog.cellsOf 34 = 1 := by kernel_rfl
theorem Tryd.cellsOuts : Tryd.prog.cellsOf 24 = 1 := by kernel_rfl
theorem Tryd.bytesCell : Tryd.prog.bytesOf 74 = 40 := by kernel_rfl
theorem Tryd.bytesCfg : Tryd.prog.bytesOf 68 = 16 := by kernel_rfl
theorem Tryd.bytesInt : Tryd.prog.bytesOf 3 = 8 := by kernel_rfl
theorem Tryd.bytesCol : Tryd.prog.bytesOf 63 = 24 := by kernel_rfl

theorem fits_i64 {n : Int} (h : (Lit.int .i64 n).wf = true) : -9223372036854775808 ≤ n ∧ n ≤ 9223372036854775807 := by
  simpa [Lit.wf, IntKind.min, IntKind.max, IntKind.signed, IntKind.bits] using h

theorem five_cells (f : Nat → Value) : (List.range 5).map f = [f 0, f 1, f 2, f 3, f 4] := by simp [List.range_succ]

theorem open_col {N : Nat} {H : Type} {enc : TypeId × Value → H} {w : World} {cs : List Value} (h : Good N enc Tryd.prog w 63 cs) :
    ∃ (A : Option Addr) (n c : Nat) (B : Nat → Int) (L : Nat → Nat → Int), cs = [.slice A n c] ∧ n ≤ 100000000000000 ∧ RowS w 5 A n (fun k => five (fun j => .int .i64 (L k j)) (.int .i64 (B k))) := by
  obtain ⟨A, n, c, f, rfl, hn, hb, _, hr, hg⟩ := good_slice 5 Tryd.cellsCell (by omega) Tryd.underlying63 h
  rw [Tryd.bytesCell] at hb
  unfold reachBytes at hb
  have hx : ∀ k, k < n → ∃ x : (Nat → Int) × Int, (∀ j, j < 4 → f k j = .int .i64 (x.1 j)) ∧ f k 4 = .int .i64 x.2 := fun k hk => by
    have hk5 := hg k hk
    rw [five_cells] at hk5
    have hs := good_field Tryd.underlying74 hk5 0 _ 4 0 rfl Tryd.cellsFour
    obtain ⟨b, eb, _⟩ := good_int Tryd.underlying3 (good_field Tryd.underlying74 hk5 1 _ 1 4 rfl Tryd.cellsInt)
    obtain ⟨x0, e0, _⟩ := good_int Tryd.underlying3 (good_elem Tryd.underlying72 hs 0 1 (by omega) Tryd.cellsInt)
    obtain ⟨x1, e1, _⟩ := good_int Tryd.underlying3 (good_elem Tryd.underlying72 hs 1 1 (by omega) Tryd.cellsInt)
    obtain ⟨x2, e2, _⟩ := good_int Tryd.underlying3 (good_elem Tryd.underlying72 hs 2 1 (by omega) Tryd.cellsInt)
    obtain ⟨x3, e3, _⟩ := good_int Tryd.underlying3 (good_elem Tryd.underlying72 hs 3 1 (by omega) Tryd.cellsInt)
    simp at eb e0 e1 e2 e3
    refine ⟨(fun j => match j with | 0 => x0 | 1 => x1 | 2 => x2 | _ => x3, b), fun j hj => ?_, eb⟩
    obtain rfl | rfl | rfl | rfl : j = 0 ∨ j = 1 ∨ j = 2 ∨ j = 3 := by omega
    · exact e0
    · exact e1
    · exact e2
    · exact e3
  obtain ⟨X, hX⟩ := choose_lt (α := (Nat → Int) × Int) hx
  refine ⟨A, n, c, fun k => (X k).2, fun k j => (X k).1 j, rfl, by omega, fun h0 => ?_⟩
  obtain ⟨b, off, e, hc⟩ := hr h0
  refine ⟨b, off, e, fun k hk j hj => ?_⟩
  rw [hc k hk j hj]
  obtain rfl | rfl | rfl | rfl | rfl : j = 0 ∨ j = 1 ∨ j = 2 ∨ j = 3 ∨ j = 4 := by omega
  · exact congrArg some ((hX k hk).1 0 (by omega))
  · exact congrArg some ((hX k hk).1 1 (by omega))
  · exact congrArg some ((hX k hk).1 2 (by omega))
  · exact congrArg some ((hX k hk).1 3 (by omega))
  · exact congrArg some (hX k hk).2

theorem open_cols {N : Nat} {H : Type} {enc : TypeId × Value → H} {w : World} {cs : List Value} (h : Good N enc Tryd.prog w 33 cs) :
    ∃ (A : Option Addr) (n c : Nat) (CA : Nat → Option Addr) (rows cc : Nat → Nat) (B : Nat → Nat → Int) (L : Nat → Nat → Nat → Int), cs = [.slice A n c] ∧ n ≤ 100000000000000 ∧ Row1 w A n (fun i => .slice (CA i) (rows i) (cc i)) ∧
      ∀ i, i < n → rows i ≤ 100000000000000 ∧ RowS w 5 (CA i) (rows i) (fun k => five (fun j => .int .i64 (L i k j)) (.int .i64 (B i k))) := by
  obtain ⟨A, n, c, f, rfl, hn, hb, _, hr, hg⟩ := good_slice 1 Tryd.cellsCol (by omega) Tryd.underlying33 h
  rw [Tryd.bytesCol] at hb
  unfold reachBytes at hb
  have hx : ∀ i, i < n → ∃ x : Option Addr × Nat × Nat × (Nat → Int) × (Nat → Nat → Int), f i 0 = .slice x.1 x.2.1 x.2.2.1 ∧ x.2.1 ≤ 100000000000000 ∧ RowS w 5 x.1 x.2.1 (fun k => five (fun j => .int .i64 (x.2.2.2.2 k j)) (.int .i64 (x.2.2.2.1 k))) := fun i hi => by
    obtain ⟨A', n', c', B, L, e, h1, h2⟩ := open_col (hg i hi)
    exact ⟨(A', n', c', B, L), by simpa [List.range_succ] using e, h1, h2⟩
  obtain ⟨X, hX⟩ := choose_lt (α := Option Addr × Nat × Nat × (Nat → Int) × (Nat → Nat → Int)) hx
  refine ⟨A, n, c, fun i => (X i).1, fun i => (X i).2.1, fun i => (X i).2.2.1, fun i => (X i).2.2.2.1, fun i => (X i).2.2.2.2, rfl, by omega, fun h0 => ?_, fun i hi => (hX i hi).2⟩
  obtain ⟨b, off, e, hc⟩ := hr.one h0
  exact ⟨b, off, e, fun k hk => (hc k hk).trans (congrArg some (hX k hk).1)⟩

theorem open_regs {N : Nat} {H : Type} {enc : TypeId × Value → H} {w : World} {cs : List Value} (h : Good N enc Tryd.prog w 34 cs) :
    ∃ (A : Option Addr) (n c : Nat) (S : Nat → Int) (I : Nat → Bool), cs = [.slice A n c] ∧ n ≤ 100000000000000 ∧ RowS w 2 A n (fun k => two (.int .i64 (S k)) (.bool (I k))) := by
  obtain ⟨A, n, c, f, rfl, hn, hb, _, hr, hg⟩ := good_slice 2 Tryd.cellsCfg (by omega) Tryd.underlying34 h
  rw [Tryd.bytesCfg] at hb
  unfold reachBytes at hb
  have hx : ∀ k, k < n → ∃ x : Int × Bool, f k 0 = .int .i64 x.1 ∧ f k 1 = .bool x.2 := fun k hk => by
    obtain ⟨x, e, _⟩ := good_int Tryd.underlying3 (good_field Tryd.underlying68 (hg k hk) 0 _ 1 0 rfl Tryd.cellsInt)
    obtain ⟨y, e'⟩ := good_bool Tryd.underlying4 (good_field Tryd.underlying68 (hg k hk) 1 _ 1 1 rfl Tryd.cellsBool)
    rw [range_cell _ _ _ (by omega)] at e e'
    exact ⟨(x, y), by simpa using e, by simpa using e'⟩
  obtain ⟨X, hX⟩ := choose_lt (α := Int × Bool) hx
  refine ⟨A, n, c, fun k => (X k).1, fun k => (X k).2, rfl, by omega, fun h0 => ?_⟩
  obtain ⟨b, off, e, hc⟩ := hr h0
  refine ⟨b, off, e, fun k hk j hj => ?_⟩
  rw [hc k hk j hj]
  obtain rfl | rfl : j = 0 ∨ j = 1 := by omega
  · rw [(hX k hk).1]; rfl
  · rw [(hX k hk).2]; rfl

theorem open_outs {N : Nat} {H : Type} {enc : TypeId × Value → H} {w : World} {cs : List Value} (h : Good N enc Tryd.prog w 24 cs) :
    ∃ (A : Option Addr) (n c : Nat) (X : Nat → Int), cs = [.slice A n c] ∧ n ≤ 100000000000000 ∧ Row1 w A n (fun k => .int .i64 (X k)) := by
  obtain ⟨A, n, c, f, rfl, hn, hb, _, hr, hg⟩ := good_slice 1 Tryd.cellsInt (by omega) Tryd.underlying24 h
  rw [Tryd.bytesInt] at hb
  unfold reachBytes at hb
  have hx : ∀ k, k < n → ∃ x : Int, f k 0 = .int .i64 x := fun k hk => by
    obtain ⟨x, e, _⟩ := good_int Tryd.underlying3 (hg k hk)
    exact ⟨x, by simpa [List.range_succ] using e⟩
  obtain ⟨X, hX⟩ := choose_lt (α := Int) hx
  refine ⟨A, n, c, X, rfl, by omega, fun h0 => ?_⟩
  obtain ⟨b, off, e, hc⟩ := hr.one h0
  exact ⟨b, off, e, fun k hk => (hc k hk).trans (congrArg some (hX k hk))⟩

/-- a configuration as a value -/
def Cf.cells (c : Cf) : List Value := [.int .i64 (c.sh 0), .int .i64 (c.sh 1), .int .i64 (c.sh 2), .int .i64 (c.sh 3), .int .i64 (c.sh 4), .slice c.AC c.nc c.cC, .slice c.AR c.nr c.cR, .slice c.AO c.no c.cO]

theorem open_config {N : Nat} {H : Type} {enc : TypeId × Value → H} {w : World} {cs : List Value} (h : Good N enc Tryd.prog w 36 cs) :
    ∃ c : Cf, cs = c.cells ∧ c.At w ∧ c.Fits := by
  have hl := good_len Tryd.underlying36 h Tryd.cellsConfig
  obtain ⟨v0, v1, v2, v3, v4, v5, v6, v7, rfl⟩ : ∃ a b c d e f g h, cs = [a, b, c, d, e, f, g, h] := by
    match cs, hl with
    | [a, b, c, d, e, f, g, h], _ => exact ⟨a, b, c, d, e, f, g, h, rfl⟩
  have hs := good_field Tryd.underlying36 h 0 _ 5 0 rfl Tryd.cellsShape
  obtain ⟨x0, e0, w0⟩ := good_int Tryd.underlying3 (good_field Tryd.underlying28 hs 0 _ 1 0 rfl Tryd.cellsInt)
  obtain ⟨x1, e1, w1⟩ := good_int Tryd.underlying3 (good_field Tryd.underlying28 hs 1 _ 1 1 rfl Tryd.cellsInt)
  obtain ⟨x2, e2, w2⟩ := good_int Tryd.underlying3 (good_field Tryd.underlying28 hs 2 _ 1 2 rfl Tryd.cellsInt)
  obtain ⟨x3, e3, w3⟩ := good_int Tryd.underlying3 (good_field Tryd.underlying28 hs 3 _ 1 3 rfl Tryd.cellsInt)
  obtain ⟨x4, e4, w4⟩ := good_int Tryd.underlying3 (good_field Tryd.underlying28 hs 4 _ 1 4 rfl Tryd.cellsInt)
  obtain ⟨AC, nc, cC, CA, rows, cc, B, L, e5, k1, r1, r2⟩ := open_cols (good_field Tryd.underlying36 h 1 _ 1 5 rfl Tryd.cellsCols)
  obtain ⟨AR, nr, cR, RS, RI, e6, k3, r3⟩ := open_regs (good_field Tryd.underlying36 h 2 _ 1 6 rfl Tryd.cellsRegs)
  obtain ⟨AO, no, cO, O, e7, k4, r4⟩ := open_outs (good_field Tryd.underlying36 h 3 _ 1 7 rfl Tryd.cellsOuts)
  simp at e0 e1 e2 e3 e4 e5 e6 e7
  subst e0; subst e1; subst e2; subst e3; subst e4; subst e5; subst e6; subst e7
  refine ⟨⟨fun j => match j with | 0 => x0 | 1 => x1 | 2 => x2 | 3 => x3 | _ => x4, nc, rows, B, L, nr, RS, RI, no, O, AC, AR, AO, cC, cR, cO, CA, cc⟩, rfl, ⟨r1, fun i hi => (r2 i hi).2, r3, r4⟩, ⟨k1, fun i hi => (r2 i hi).1, k3, k4, fun i hi => ?_⟩⟩
  obtain rfl | rfl | rfl | rfl | rfl : i = 0 ∨ i = 1 ∨ i = 2 ∨ i = 3 ∨ i = 4 := by omega
  · exact fits_i64 w0
  · exact fits_i64 w1
  · exact fits_i64 w2
  · exact fits_i64 w3
  · exact fits_i64 w4

/-! ### When a configuration is valid -/
structure ShOk (s : Nat → Int) : Prop where
  s0 : 0 ≤ s 0 ∧ s 0 ≤ 500
  s1 : 0 ≤ s 1 ∧ s 1 ≤ 500
  s2 : 0 ≤ s 2 ∧ s 2 ≤ 500
  s3 : 1 ≤ s 3 ∧ s 3 ≤ 500
  s4 : 1 ≤ s 4 ∧ s 4 ≤ 100
/-- among how many a column's cells choose -/
def Cf.src (c : Cf) (i : Nat) : Int := if i = 0 then 2 + c.sh 0 + c.sh 2 else 2 + c.sh 3
structure Cf.Dims (c : Cf) : Prop where
  sh : ShOk c.sh
  nc : (c.nc : Int) = c.sh 4
  nr : (c.nr : Int) = c.sh 2
  no : (c.no : Int) = c.sh 1
  rows : ∀ i, i < c.nc → (c.rows i : Int) = c.sh 3
structure Cf.Ok (c : Cf) : Prop where
  d : c.Dims
  b : ∀ i, i < c.nc → ∀ k, k < c.rows i → 0 ≤ c.B i k ∧ c.B i k < 65536
  l : ∀ i, i < c.nc → ∀ k, k < c.rows i → ∀ j, j < 4 → 0 ≤ c.L i k j ∧ c.L i k j < c.src i
  r : ∀ k, k < c.nr → 0 ≤ c.RS k ∧ c.RS k < c.src 1
  o : ∀ k, k < c.no → 0 ≤ c.O k ∧ c.O k < c.src 1
end Go.Proofs.YtlmcbhmaccncbaaDoor
