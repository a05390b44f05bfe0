/- Configurations as they are read from memory: the numbers, where they lie, how an argument is opened to them; when a configuration is valid; its fields in their order. No condition. Shapes and among how many a column chooses, in the program and in the reference, walked. Condition: the numbers are of 64 bits. stream.shapeOk, walked. No condition. -/
import Derived.Test.YtbnjbclkmjjkhaaDoorBase
import Derived.Deep.DeepCutAuto
namespace Go.Proofs.YtbnjbclkmjjkhaaDoor
open Go.RowKit Go.ChangeShapes Go.WideShapes Go.Deep

/-- a configuration's numbers (its shape: inputs, outputs, registers, rows, columns) and its slices -/
structure Cf where
  sh : Nat → Int
  nc : Nat
  rows : Nat → Nat
  B : Nat → Nat → Int
  L : Nat → Nat → Nat → Int
  nr : Nat
  RS : Nat → Int
  RI : Nat → Bool
  no : Nat
  O : Nat → Int
  AC : Option Addr
  AR : Option Addr
  AO : Option Addr
  cC : Nat
  cR : Nat
  cO : Nat
  CA : Nat → Option Addr
  cc : Nat → Nat

def five (f : Nat → Value) (b : Value) : Nat → Value
  | 4 => b
  | j => f j

/-- the configuration lies at its addresses -/
structure Cf.At (c : Cf) (w : World) : Prop where
  cols : Row1 w c.AC c.nc (fun i => .slice (c.CA i) (c.rows i) (c.cc i))
  cells : ∀ i, i < c.nc → RowS w 5 (c.CA i) (c.rows i) (fun k => five (fun j => .int .i64 (c.L i k j)) (.int .i64 (c.B i k)))
  regs : RowS w 2 c.AR c.nr (fun k => two (.int .i64 (c.RS k)) (.bool (c.RI k)))
  outs : Row1 w c.AO c.no (fun k => .int .i64 (c.O k))
theorem Cf.At.keeps {c : Cf} {w w1 : World} (h : c.At w) (k : Keeps w w1) : c.At w1 := ⟨h.cols.keeps k, fun i hi => (h.cells i hi).keeps k, h.regs.keeps k, h.outs.keeps k⟩

/-- no list is out of reach -/
structure Cf.Fits (c : Cf) : Prop where
  b1 : c.nc ≤ 100000000000000
  b2 : ∀ i, i < c.nc → c.rows i ≤ 100000000000000
  b3 : c.nr ≤ 100000000000000
  b4 : c.no ≤ 100000000000000
  s : ∀ i, i < 5 → -9223372036854775808 ≤ c.sh i ∧ c.sh i ≤ 9223372036854775807

theorem Tryd.cellsConfig : Tryd.prog.cellsOf 31 = 8 := by kernel_rfl
theorem Tryd.cellsShape : Tryd.prog.cellsOf 26 = 5 := by kernel_rfl
theorem Tryd.cellsCell : Tryd.prog.cellsOf 53 = 5 := by kernel_rfl
theorem Tryd.cellsCfg : Tryd.prog.cellsOf 57 = 2 := by kernel_rfl
theorem Tryd.cellsInt : Tryd.prog.cellsOf 3 = 1 := by kernel_rfl
theorem Tryd.cellsBool : Tryd.prog.cellsOf 4 = 1 := by kernel_rfl
theorem Tryd.cellsFour : Tryd.prog.cellsOf 51 = 4 := by kernel_rfl
theorem Tryd.cellsCol : Tryd.prog.cellsOf 50 = 1 := by kernel_rfl
theorem Tryd.cellsCols : Tryd.prog.cellsOf 27 = 1 := by kernel_rfl
theorem Tryd.cellsRegs : Tryd.prog.cellsOf 28 = 1 := by kernel_rfl
theorem Tryd.cellsOuts : Tryd.prog.cellsOf 29 = 1 := by kernel_rfl
theorem Tryd.bytesCell : Tryd.prog.bytesOf 53 = 40 := by kernel_rfl
theorem Tryd.bytesCfg : Tryd.prog.bytesOf 57 = 16 := by kernel_rfl
theorem Tryd.bytesInt : Tryd.prog.bytesOf 3 = 8 := by kernel_rfl
theorem Tryd.bytesCol : Tryd.prog.bytesOf 50 = 24 := by kernel_rfl

theorem fits_i64 {n : Int} (h : (Lit.int .i64 n).wf = true) : -9223372036854775808 ≤ n ∧ n ≤ 9223372036854775807 := by
  simpa [Lit.wf, IntKind.min, IntKind.max, IntKind.signed, IntKind.bits] using h

theorem five_cells (f : Nat → Value) : (List.range 5).map f = [f 0, f 1, f 2, f 3, f 4] := by simp [List.range_succ]

theorem open_col {N : Nat} {H : Type} {enc : TypeId × Value → H} {w : World} {cs : List Value} (h : Good N enc Tryd.prog w 50 cs) :
    ∃ (A : Option Addr) (n c : Nat) (B : Nat → Int) (L : Nat → Nat → Int), cs = [.slice A n c] ∧ n ≤ 100000000000000 ∧ RowS w 5 A n (fun k => five (fun j => .int .i64 (L k j)) (.int .i64 (B k))) := by
  obtain ⟨A, n, c, f, rfl, hn, hb, _, hr, hg⟩ := good_slice 5 Tryd.cellsCell (by omega) Tryd.underlying50 h
  rw [Tryd.bytesCell] at hb
  unfold reachBytes at hb
  have hx : ∀ k, k < n → ∃ x : (Nat → Int) × Int, (∀ j, j < 4 → f k j = .int .i64 (x.1 j)) ∧ f k 4 = .int .i64 x.2 := fun k hk => by
    have hk5 := hg k hk
    rw [five_cells] at hk5
    have hs := good_field Tryd.underlying53 hk5 0 _ 4 0 rfl Tryd.cellsFour
    obtain ⟨b, eb, _⟩ := good_int Tryd.underlying3 (good_field Tryd.underlying53 hk5 1 _ 1 4 rfl Tryd.cellsInt)
    obtain ⟨x0, e0, _⟩ := good_int Tryd.underlying3 (good_elem Tryd.underlying51 hs 0 1 (by omega) Tryd.cellsInt)
    obtain ⟨x1, e1, _⟩ := good_int Tryd.underlying3 (good_elem Tryd.underlying51 hs 1 1 (by omega) Tryd.cellsInt)
    obtain ⟨x2, e2, _⟩ := good_int Tryd.underlying3 (good_elem Tryd.underlying51 hs 2 1 (by omega) Tryd.cellsInt)
    obtain ⟨x3, e3, _⟩ := good_int Tryd.underlying3 (good_elem Tryd.underlying51 hs 3 1 (by omega) Tryd.cellsInt)
    simp at eb e0 e1 e2 e3
    refine ⟨(fun j => match j with | 0 => x0 | 1 => x1 | 2 => x2 | _ => x3, b), fun j hj => ?_, eb⟩
    obtain rfl | rfl | rfl | rfl : j = 0 ∨ j = 1 ∨ j = 2 ∨ j = 3 := by omega
    · exact e0
    · exact e1
    · exact e2
    · exact e3
  obtain ⟨X, hX⟩ := choose_lt (α := (Nat → Int) × Int) hx
  refine ⟨A, n, c, fun k => (X k).2, fun k j => (X k).1 j, rfl, by omega, fun h0 => ?_⟩
  obtain ⟨b, off, e, hc⟩ := hr h0
  refine ⟨b, off, e, fun k hk j hj => ?_⟩
  rw [hc k hk j hj]
  obtain rfl | rfl | rfl | rfl | rfl : j = 0 ∨ j = 1 ∨ j = 2 ∨ j = 3 ∨ j = 4 := by omega
  · exact congrArg some ((hX k hk).1 0 (by omega))
  · exact congrArg some ((hX k hk).1 1 (by omega))
  · exact congrArg some ((hX k hk).1 2 (by omega))
  · exact congrArg some ((hX k hk).1 3 (by omega))
  · exact congrArg some (hX k hk).2

theorem open_cols {N : Nat} {H : Type} {enc : TypeId × Value → H} {w : World} {cs : List Value} (h : Good N enc Tryd.prog w 27 cs) :
    ∃ (A : Option Addr) (n c : Nat) (CA : Nat → Option Addr) (rows cc : Nat → Nat) (B : Nat → Nat → Int) (L : Nat → Nat → Nat → Int), cs = [.slice A n c] ∧ n ≤ 100000000000000 ∧ Row1 w A n (fun i => .slice (CA i) (rows i) (cc i)) ∧
      ∀ i, i < n → rows i ≤ 100000000000000 ∧ RowS w 5 (CA i) (rows i) (fun k => five (fun j => .int .i64 (L i k j)) (.int .i64 (B i k))) := by
  obtain ⟨A, n, c, f, rfl, hn, hb, _, hr, hg⟩ := good_slice 1 Tryd.cellsCol (by omega) Tryd.underlying27 h
  rw [Tryd.bytesCol] at hb
  unfold reachBytes at hb
  have hx : ∀ i, i < n → ∃ x : Option Addr × Nat × Nat × (Nat → Int) × (Nat → Nat → Int), f i 0 = .slice x.1 x.2.1 x.2.2.1 ∧ x.2.1 ≤ 100000000000000 ∧ RowS w 5 x.1 x.2.1 (fun k => five (fun j => .int .i64 (x.2.2.2.2 k j)) (.int .i64 (x.2.2.2.1 k))) := fun i hi => by
    obtain ⟨A', n', c', B, L, e, h1, h2⟩ := open_col (hg i hi)
    exact ⟨(A', n', c', B, L), by simpa [List.range_succ] using e, h1, h2⟩
  obtain ⟨X, hX⟩ := choose_lt (α := Option Addr × Nat × Nat × (Nat → Int) × (Nat → Nat → Int)) hx
  refine ⟨A, n, c, fun i => (X i).1, fun i => (X i).2.1, fun i => (X i).2.2.1, fun i => (X i).2.2.2.1, fun i => (X i).2.2.2.2, rfl, by omega, fun h0 => ?_, fun i hi => (hX i hi).2⟩
  obtain ⟨b, off, e, hc⟩ := hr.one h0
  exact ⟨b, off, e, fun k hk => (hc k hk).trans (congrArg some (hX k hk).1)⟩

theorem open_regs {N : Nat} {H : Type} {enc : TypeId × Value → H} {w : World} {cs : List Value} (h : Good N enc Tryd.prog w 28 cs) :
    ∃ (A : Option Addr) (n c : Nat) (S : Nat → Int) (I : Nat → Bool), cs = [.slice A n c] ∧ n ≤ 100000000000000 ∧ RowS w 2 A n (fun k => two (.int .i64 (S k)) (.bool (I k))) := by
  obtain ⟨A, n, c, f, rfl, hn, hb, _, hr, hg⟩ := good_slice 2 Tryd.cellsCfg (by omega) Tryd.underlying28 h
  rw [Tryd.bytesCfg] at hb
  unfold reachBytes at hb
  have hx : ∀ k, k < n → ∃ x : Int × Bool, f k 0 = .int .i64 x.1 ∧ f k 1 = .bool x.2 := fun k hk => by
    obtain ⟨x, e, _⟩ := good_int Tryd.underlying3 (good_field Tryd.underlying57 (hg k hk) 0 _ 1 0 rfl Tryd.cellsInt)
    obtain ⟨y, e'⟩ := good_bool Tryd.underlying4 (good_field Tryd.underlying57 (hg k hk) 1 _ 1 1 rfl Tryd.cellsBool)
    rw [range_cell _ _ _ (by omega)] at e e'
    exact ⟨(x, y), by simpa using e, by simpa using e'⟩
  obtain ⟨X, hX⟩ := choose_lt (α := Int × Bool) hx
  refine ⟨A, n, c, fun k => (X k).1, fun k => (X k).2, rfl, by omega, fun h0 => ?_⟩
  obtain ⟨b, off, e, hc⟩ := hr h0
  refine ⟨b, off, e, fun k hk j hj => ?_⟩
  rw [hc k hk j hj]
  obtain rfl | rfl : j = 0 ∨ j = 1 := by omega
  · rw [(hX k hk).1]; rfl
  · rw [(hX k hk).2]; rfl

theorem open_outs {N : Nat} {H : Type} {enc : TypeId × Value → H} {w : World} {cs : List Value} (h : Good N enc Tryd.prog w 29 cs) :
    ∃ (A : Option Addr) (n c : Nat) (X : Nat → Int), cs = [.slice A n c] ∧ n ≤ 100000000000000 ∧ Row1 w A n (fun k => .int .i64 (X k)) := by
  obtain ⟨A, n, c, f, rfl, hn, hb, _, hr, hg⟩ := good_slice 1 Tryd.cellsInt (by omega) Tryd.underlying29 h
  rw [Tryd.bytesInt] at hb
  unfold reachBytes at hb
  have hx : ∀ k, k < n → ∃ x : Int, f k 0 = .int .i64 x := fun k hk => by
    obtain ⟨x, e, _⟩ := good_int Tryd.underlying3 (hg k hk)
    exact ⟨x, by simpa [List.range_succ] using e⟩
  obtain ⟨X, hX⟩ := choose_lt (α := Int) hx
  refine ⟨A, n, c, X, rfl, by omega, fun h0 => ?_⟩
  obtain ⟨b, off, e, hc⟩ := hr.one h0
  exact ⟨b, off, e, fun k hk => (hc k hk).trans (congrArg some (hX k hk))⟩

/-- a configuration as a value -/
def Cf.cells (c : Cf) : List Value := [.int .i64 (c.sh 0), .int .i64 (c.sh 1), .int .i64 (c.sh 2), .int .i64 (c.sh 3), .int .i64 (c.sh 4), .slice c.AC c.nc c.cC, .slice c.AR c.nr c.cR, .slice c.AO c.no c.cO]

theorem open_config {N : Nat} {H : Type} {enc : TypeId × Value → H} {w : World} {cs : List Value} (h : Good N enc Tryd.prog w 31 cs) :
    ∃ c : Cf, cs = c.cells ∧ c.At w ∧ c.Fits := by
  have hl := good_len Tryd.underlying31 h Tryd.cellsConfig
  obtain ⟨v0, v1, v2, v3, v4, v5, v6, v7, rfl⟩ : ∃ a b c d e f g h, cs = [a, b, c, d, e, f, g, h] := by
    match cs, hl with
    | [a, b, c, d, e, f, g, h], _ => exact ⟨a, b, c, d, e, f, g, h, rfl⟩
  have hs := good_field Tryd.underlying31 h 0 _ 5 0 rfl Tryd.cellsShape
  obtain ⟨x0, e0, w0⟩ := good_int Tryd.underlying3 (good_field Tryd.underlying26 hs 0 _ 1 0 rfl Tryd.cellsInt)
  obtain ⟨x1, e1, w1⟩ := good_int Tryd.underlying3 (good_field Tryd.underlying26 hs 1 _ 1 1 rfl Tryd.cellsInt)
  obtain ⟨x2, e2, w2⟩ := good_int Tryd.underlying3 (good_field Tryd.underlying26 hs 2 _ 1 2 rfl Tryd.cellsInt)
  obtain ⟨x3, e3, w3⟩ := good_int Tryd.underlying3 (good_field Tryd.underlying26 hs 3 _ 1 3 rfl Tryd.cellsInt)
  obtain ⟨x4, e4, w4⟩ := good_int Tryd.underlying3 (good_field Tryd.underlying26 hs 4 _ 1 4 rfl Tryd.cellsInt)
  obtain ⟨AC, nc, cC, CA, rows, cc, B, L, e5, k1, r1, r2⟩ := open_cols (good_field Tryd.underlying31 h 1 _ 1 5 rfl Tryd.cellsCols)
  obtain ⟨AR, nr, cR, RS, RI, e6, k3, r3⟩ := open_regs (good_field Tryd.underlying31 h 2 _ 1 6 rfl Tryd.cellsRegs)
  obtain ⟨AO, no, cO, O, e7, k4, r4⟩ := open_outs (good_field Tryd.underlying31 h 3 _ 1 7 rfl Tryd.cellsOuts)
  simp at e0 e1 e2 e3 e4 e5 e6 e7
  subst e0; subst e1; subst e2; subst e3; subst e4; subst e5; subst e6; subst e7
  refine ⟨⟨fun j => match j with | 0 => x0 | 1 => x1 | 2 => x2 | 3 => x3 | _ => x4, nc, rows, B, L, nr, RS, RI, no, O, AC, AR, AO, cC, cR, cO, CA, cc⟩, rfl, ⟨r1, fun i hi => (r2 i hi).2, r3, r4⟩, ⟨k1, fun i hi => (r2 i hi).1, k3, k4, fun i hi => ?_⟩⟩
  obtain rfl | rfl | rfl | rfl | rfl : i = 0 ∨ i = 1 ∨ i = 2 ∨ i = 3 ∨ i = 4 := by omega
  · exact fits_i64 w0
  · exact fits_i64 w1
  · exact fits_i64 w2
  · exact fits_i64 w3
  · exact fits_i64 w4

/-! ### When a configuration is valid -/
structure ShOk (s : Nat → Int) : Prop where
  s0 : 0 ≤ s 0 ∧ s 0 ≤ 500
  s1 : 0 ≤ s 1 ∧ s 1 ≤ 500
  s2 : 0 ≤ s 2 ∧ s 2 ≤ 500
  s3 : 1 ≤ s 3 ∧ s 3 ≤ 500
  s4 : 1 ≤ s 4 ∧ s 4 ≤ 100
/-- among how many a column's cells choose -/
def Cf.src (c : Cf) (i : Nat) : Int := if i = 0 then 2 + c.sh 0 + c.sh 2 else 2 + c.sh 3
structure Cf.Dims (c : Cf) : Prop where
  sh : ShOk c.sh
  nc : (c.nc : Int) = c.sh 4
  nr : (c.nr : Int) = c.sh 2
  no : (c.no : Int) = c.sh 1
  rows : ∀ i, i < c.nc → (c.rows i : Int) = c.sh 3
structure Cf.Ok (c : Cf) : Prop where
  d : c.Dims
  b : ∀ i, i < c.nc → ∀ k, k < c.rows i → 0 ≤ c.B i k ∧ c.B i k < 65536
  l : ∀ i, i < c.nc → ∀ k, k < c.rows i → ∀ j, j < 4 → 0 ≤ c.L i k j ∧ c.L i k j < c.src i
  r : ∀ k, k < c.nr → 0 ≤ c.RS k ∧ c.RS k < c.src 1
  o : ∀ k, k < c.no → 0 ≤ c.O k ∧ c.O k < c.src 1
end Go.Proofs.YtbnjbclkmjjkhaaDoor
namespace Go.Proofs.YtbnjbclkmjjkhaaDoor
open Go.RowKit

def shV (s : Nat → Int) : Value := .agg #[.int .i64 (s 0), .int .i64 (s 1), .int .i64 (s 2), .int .i64 (s 3), .int .i64 (s 4)]

set_option maxHeartbeats 1000000 in
theorem refSources_any (s : Nat → Int) (col : Int) (w : World) (h : ShOk s) :
    Calls Tryd.prog 15 #[.agg #[.int .i64 (s 0), .int .i64 (s 1), .int .i64 (s 2), .int .i64 (s 3), .int .i64 (s 4)], .int .i64 col] w fun e w' => e = .returned (.int .i64 (if col = 0 then 2 + s 0 + s 2 else 2 + s 3)) ∧ Below w.heap.size w w' := by
  have h0 := h.s0; have h1 := h.s1; have h2 := h.s2; have h3 := h.s3; have h4 := h.s4
  by_cases hc : col = 0
  · subst hc
    go_enter Tryd.func15, Tryd.ntmps15
    go_wp2
    go_ret
    exact ⟨ret_int (by simp), (Below.refl _ _).alloc (Nat.le_refl _) _⟩
  · have hb : (col == 0) = false := by simpa using hc
    go_enter Tryd.func15, Tryd.ntmps15
    go_wp2
    go_ret
    exact ⟨ret_int (by simp), (Below.refl _ _).alloc (Nat.le_refl _) _⟩

set_option maxHeartbeats 1000000 in
theorem sources_any (s : Nat → Int) (col : Int) (w : World) (h : ShOk s) :
    Calls Tryd.prog 39 #[.agg #[.int .i64 (s 0), .int .i64 (s 1), .int .i64 (s 2), .int .i64 (s 3), .int .i64 (s 4)], .int .i64 col] w fun e w' => e = .returned (.int .i64 (if col = 0 then 2 + s 0 + s 2 else 2 + s 3)) ∧ Below w.heap.size w w' := by
  have h0 := h.s0; have h1 := h.s1; have h2 := h.s2; have h3 := h.s3; have h4 := h.s4
  by_cases hc : col = 0
  · subst hc
    go_enter Tryd.func39, Tryd.ntmps39
    go_wp2
    go_ret
    exact ⟨ret_int (by simp), (Below.refl _ _).alloc (Nat.le_refl _) _⟩
  · have hb : (col == 0) = false := by simpa using hc
    go_enter Tryd.func39, Tryd.ntmps39
    go_wp2
    go_ret
    exact ⟨ret_int (by simp), (Below.refl _ _).alloc (Nat.le_refl _) _⟩

set_option maxHeartbeats 2000000 in
theorem refShape_any (s : Nat → Int) (w : World) :
    Calls Tryd.prog 29 #[.agg #[.int .i64 (s 0), .int .i64 (s 1), .int .i64 (s 2), .int .i64 (s 3), .int .i64 (s 4)]] w fun e w' => e = .returned (.bool (tf (ShOk s))) ∧ Below w.heap.size w w' := by
  have HN := Lib.hid (fun h : ¬ ShOk s => tf_no h)
  have HY := Lib.hid (fun h : ShOk s => tf_yes h)
  go_enter Tryd.func29, Tryd.ntmps29
  go_wp2
  all_goals go_ret
  all_goals refine ⟨ret_bool ?_, (Below.refl _ _).alloc (Nat.le_refl _) _⟩
  all_goals first
    | exact (HN.out (fun h => by have := h.s0; have := h.s1; have := h.s2; have := h.s3; have := h.s4; omega)).symm
    | (rw [HY.out ⟨by omega, by omega, by omega, by omega, by omega⟩])
    | (by_cases h5 : s 4 ≤ 100
       · rw [HY.out ⟨by omega, by omega, by omega, by omega, by omega⟩]; simpa using h5
       · rw [HN.out (fun h => h5 h.s4.2)]; simpa using h5)

set_option maxHeartbeats 1000000 in
theorem within_any (a b : Int) (A : Option Addr) (n c : Nat) (X : Nat → Int) (w : World) (h : Row1 w A n (fun k => .int .i64 (X k))) (hn : n ≤ 1000000) :
    Calls Tryd.prog 36 #[.int .i64 a, .int .i64 b, .slice A n c] w fun e w' => e = .returned (.bool (tf (∀ k, k < n → a ≤ X k ∧ X k ≤ b))) ∧ w' = w := by
  have HR := Lib.hid h; clear h
  go_enter Tryd.func36, Tryd.ntmps36
  go_wp2
  go_loop [11] (fun i => ∃ k : Nat, k ≤ n ∧ i = .int .i64 k ∧ Hid (∀ j, j < k → a ≤ X j ∧ X j ≤ b)) (fun i => n - (intOf i).toNat)
  case atStart => exact ⟨0, by omega, rfl, Lib.hid (fun j hj => by omega)⟩
  case round =>
    obtain ⟨k, hk, rfl, HK⟩ := hrel
    by_cases hlt : k < n
    · obtain ⟨bb, oo, rfl, x0⟩ := HR.out.at_ hlt
      have HNO := Lib.hid (fun hx : ¬ (a ≤ X k ∧ X k ≤ b) => tf_no (p := ∀ k, k < n → a ≤ X k ∧ X k ≤ b) (fun h => hx (h k hlt)))
      have HYE := Lib.hid (fun hx : a ≤ X k ∧ X k ≤ b => (fun j (hj : j < k + 1) => if e : j = k then e ▸ hx else HK.out j (by omega) : ∀ j, j < k + 1 → a ≤ X j ∧ X j ≤ b))
      generalize X k = x at *
      by_cases h1 : x < a
      · have HF := Lib.hid (HNO.out (by omega))
        go_wp2
        go_ret
        exact ⟨ret_bool HF.out.symm, rfl⟩
      · by_cases h2 : b < x
        · have HF := Lib.hid (HNO.out (by omega))
          go_wp2
          go_ret
          exact ⟨ret_bool HF.out.symm, rfl⟩
        · have HF := Lib.hid (HYE.out (by omega))
          go_wp2
          go_round
          case rel => exact ⟨k + 1, by omega, by go_num, HF⟩
          case measure => simp [intOf]; omega
    · obtain rfl : k = n := by omega
      have HT := Lib.hid (tf_yes HK.out)
      go_wp2
      go_ret
      exact ⟨ret_bool HT.out.symm, rfl⟩
end Go.Proofs.YtbnjbclkmjjkhaaDoor
namespace Go.Proofs.YtbnjbclkmjjkhaaDoor
open Go.RowKit

set_option maxHeartbeats 2000000 in
theorem shapeOk_any (s : Nat → Int) (w : World) :
    Calls Tryd.prog 24 #[.agg #[.int .i64 (s 0), .int .i64 (s 1), .int .i64 (s 2), .int .i64 (s 3), .int .i64 (s 4)]] w fun e w' => e = .returned (.bool (tf (ShOk s))) ∧ Below w.heap.size w w' := by
  have HS := Lib.hid (fun (h1 : ∀ k, k < 3 → 0 ≤ s k ∧ s k ≤ 500) (h2 : ∀ k, k < 1 → 1 ≤ s 3 ∧ s 3 ≤ 500) (h3 : ∀ k, k < 1 → 1 ≤ s 4 ∧ s 4 ≤ 100) => tf_yes (⟨h1 0 (by omega), h1 1 (by omega), h1 2 (by omega), h2 0 (by omega), h3 0 (by omega)⟩ : ShOk s))
  have HN := Lib.hid (fun h : ¬ ShOk s => tf_no h)
  have hb0 : Below w.heap.size w (w.alloc (.cells #[.int .i64 (s 0), .int .i64 (s 1), .int .i64 (s 2), .int .i64 (s 3), .int .i64 (s 4)] 26)) := (Below.refl _ _).alloc (Nat.le_refl _) _
  have hq := BoxAt.new w [.int .i64 (s 0), .int .i64 (s 1), .int .i64 (s 2), .int .i64 (s 3), .int .i64 (s 4)] 26
  go_enter Tryd.func24, Tryd.ntmps24
  go_upto_region 2 with (fail)
  generalize w.alloc (.cells #[.int .i64 (s 0), .int .i64 (s 1), .int .i64 (s 2), .int .i64 (s 3), .int .i64 (s 4)] 26) = v at *
  have HB0 := Lib.hid hb0; clear hb0
  have q0 := hq 0 _ rfl; have q1 := hq 1 _ rfl; have q2 := hq 2 _ rfl; have q3 := hq 3 _ rfl; have q4 := hq 4 _ rfl
  have hz := HB0.out.size
  go_wp2_with fail
  have hr1 : Row1 (v.alloc (.cells #[.int .i64 (s 0), .int .i64 (s 1), .int .i64 (s 2)] 3)) (some ⟨v.heap.size, 0, none⟩) 3 (fun k => .int .i64 (s k)) := fun _ => ⟨_, 0, rfl, fun k hk => by
    rw [World.cell?_alloc_new]
    obtain rfl | rfl | rfl : k = 0 ∨ k = 1 ∨ k = 2 := by omega
    all_goals rfl⟩
  have hk1 : Below v.heap.size v (v.alloc (.cells #[.int .i64 (s 0), .int .i64 (s 1), .int .i64 (s 2)] 3)) := (Below.refl _ _).alloc (Nat.le_refl _) _
  generalize v.alloc (.cells #[.int .i64 (s 0), .int .i64 (s 1), .int .i64 (s 2)] 3) = v1 at *
  refine (within_any 0 500 _ 3 3 s v1 hr1 (by omega)).mono ?_
  rintro e w' ⟨rfl, rfl⟩
  have HB1 := Lib.hid (Below.then_call HB0.out hk1 HB0.out.size)
  replace hq := hq.keeps (Keeps.of_below hk1)
  clear q0 q1 q2 q3 q4 hr1 hk1 hz
  have q3 := hq 3 _ rfl; have q4 := hq 4 _ rfl
  by_cases h1 : ∀ k, k < 3 → 0 ≤ s k ∧ s k ≤ 500
  · rw [tf_yes h1]
    have H1 := Lib.hid h1; clear h1
    go_wp2_with fail
    have hr2 : Row1 (w'.alloc (.cells #[.int .i64 (s 3)] 3)) (some ⟨w'.heap.size, 0, none⟩) 1 (fun k => .int .i64 (s 3)) := fun _ => ⟨_, 0, rfl, fun k hk => by
      rw [World.cell?_alloc_new]
      obtain rfl : k = 0 := by omega
      rfl⟩
    have hk2 : Below w'.heap.size w' (w'.alloc (.cells #[.int .i64 (s 3)] 3)) := (Below.refl _ _).alloc (Nat.le_refl _) _
    generalize w'.alloc (.cells #[.int .i64 (s 3)] 3) = v2 at *
    refine (within_any 1 500 _ 1 1 (fun _ => s 3) v2 hr2 (by omega)).mono ?_
    rintro e w2 ⟨rfl, rfl⟩
    have HB2 := Lib.hid (Below.then_call HB1.out hk2 HB1.out.size)
    replace hq := hq.keeps (Keeps.of_below hk2)
    clear q3 q4 hr2 hk2
    have q4 := hq 4 _ rfl
    by_cases h2 : ∀ k, k < 1 → 1 ≤ s 3 ∧ s 3 ≤ 500
    · rw [tf_yes h2]
      have H2 := Lib.hid h2; clear h2
      go_wp2_with fail
      have hr3 : Row1 (w2.alloc (.cells #[.int .i64 (s 4)] 3)) (some ⟨w2.heap.size, 0, none⟩) 1 (fun k => .int .i64 (s 4)) := fun _ => ⟨_, 0, rfl, fun k hk => by
        rw [World.cell?_alloc_new]
        obtain rfl : k = 0 := by omega
        rfl⟩
      have hk3 : Below w2.heap.size w2 (w2.alloc (.cells #[.int .i64 (s 4)] 3)) := (Below.refl _ _).alloc (Nat.le_refl _) _
      generalize w2.alloc (.cells #[.int .i64 (s 4)] 3) = v3 at *
      refine (within_any 1 100 _ 1 1 (fun _ => s 4) v3 hr3 (by omega)).mono ?_
      rintro e w3 ⟨rfl, rfl⟩
      have HB3 := Lib.hid (Below.then_call HB2.out hk3 HB2.out.size)
      clear q4 hr3 hk3
      by_cases h3 : ∀ k, k < 1 → 1 ≤ s 4 ∧ s 4 ≤ 100
      · rw [tf_yes h3]
        have HE := Lib.hid (HS.out H1.out H2.out h3); clear h3
        go_wp2_with fail
        go_ret
        exact ⟨ret_bool HE.out.symm, HB3.out⟩
      · rw [tf_no h3]
        have HE := Lib.hid (HN.out (fun h => h3 (fun _ _ => h.s4))); clear h3
        go_wp2_with fail
        go_ret
        exact ⟨ret_bool HE.out.symm, HB3.out⟩
    · rw [tf_no h2]
      have HE := Lib.hid (HN.out (fun h => h2 (fun _ _ => h.s3))); clear h2
      go_wp2_with fail
      go_ret
      exact ⟨ret_bool HE.out.symm, HB2.out⟩
  · rw [tf_no h1]
    have HE := Lib.hid (HN.out (fun h => h1 (fun k hk => by
      obtain rfl | rfl | rfl : k = 0 ∨ k = 1 ∨ k = 2 := by omega
      · exact h.s0
      · exact h.s1
      · exact h.s2))); clear h1
    go_wp2_with fail
    go_ret
    exact ⟨ret_bool HE.out.symm, HB1.out⟩
end Go.Proofs.YtbnjbclkmjjkhaaDoor
