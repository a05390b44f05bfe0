/- For the columns of a placing: cells in the making, columns, what the book says. No condition. (Parts cut out of DrQ.) -/
import Derived.Test.YtlmcbhmaccncbaaDoorPcK
import Derived.Test.YtlmcbhmaccncbaaDoorApS
namespace Go.Proofs.YtlmcbhmaccncbaaDoor
open Go.RowKit

theorem Tryd.zeroCell : (Tryd.prog.info? 74).map (fun i => (i.zero, i.size, i.bytes)) = some (some (.agg #[.int .i64 0, .int .i64 0, .int .i64 0, .int .i64 0, .int .i64 0]), 5, 40) := by kernel_rfl
theorem Tryd.zeroCfg : (Tryd.prog.info? 68).map (fun i => (i.zero, i.size, i.bytes)) = some (some (.agg #[.int .i64 0, .bool false]), 2, 16) := by kernel_rfl
theorem Tryd.zeroInt : (Tryd.prog.info? 3).map (fun i => (i.zero, i.size, i.bytes)) = some (some (.int .i64 0), 1, 8) := by kernel_rfl
theorem elCells : Elem Tryd.prog 63 74 5 40 := elem_mk Tryd.underlying63 Tryd.zeroCell rfl (by omega) (by omega)
theorem elRegs : Elem Tryd.prog 34 68 2 16 := elem_mk Tryd.underlying34 Tryd.zeroCfg rfl (by omega) (by omega)
theorem elOuts : Elem Tryd.prog 24 3 1 8 := elem_mk Tryd.underlying24 Tryd.zeroInt rfl (by omega) (by omega)

/-- the columns that were read -/
structure RCols (W : World) (base : Nat) (AC : Option Addr) (i cC : Nat) (rows : Nat → Nat) (CA : Nat → Option Addr) (cc : Nat → Nat) (B : Nat → Nat → Int) (L : Nat → Nat → Nat → Int) : Prop where
  own : W.ownsRow base 63 1 (.slice AC i cC) i ((List.range i).map fun j => .slice (CA j) (rows j) (cc j))
  cells : ∀ j, j < i → RowT (fun b => base ≤ b) W 74 5 (CA j) (rows j) (fun k => five (fun m => .int .i64 (L j k m)) (.int .i64 (B j k)))
section
variable {W W1 : World} {base i cC : Nat} {AC : Option Addr} {rows cc : Nat → Nat} {CA : Nat → Option Addr} {B : Nat → Nat → Int} {L : Nat → Nat → Nat → Int}
theorem RCols.nil (W : World) (base : Nat) : RCols W base none 0 0 rows CA cc B L := ⟨World.ownsRow_nil _ _ _ _, fun j hj => by omega⟩
theorem RCols.only {S : Nat → Prop} (h : RCols W base AC i cC rows CA cc B L) (k : Only S W W1) (hS : ∀ b, S b → b < W.heap.size → b < base ∨ ∃ cur e, W.heap[b]? = some (.cells cur e (0, 0)) ∧ e ≠ 63 ∧ e ≠ 74) : RCols W1 base AC i cC rows CA cc B L := by
  refine ⟨own_only h.own k (fun b hb hs => ?_), fun j hj => (h.cells j hj).only k (fun b cur hb hc hs => ?_)⟩
  · rcases hS b hs (own_lt h.own b hb) with h1 | ⟨cur, e, hc, h2, _⟩
    · have := own_base h.own b hb; omega
    · exact own_type h.own h2 b cur hc hb
  · rcases hS b hs (Array.getElem?_eq_some_iff.1 hc).1 with h1 | ⟨cur', e, hc', _, h2⟩
    · omega
    · rw [hc] at hc'; injection hc' with hc'; injection hc' with _ h3; exact h2 h3.symm
theorem RCols.below (h : RCols W base AC i cC rows CA cc B L) (k : Below W.heap.size W W1) : RCols W1 base AC i cC rows CA cc B L := ⟨own_below h.own k, fun j hj => (h.cells j hj).below k⟩
theorem RCols.push {W2 : World} {A' Ak : Option Addr} {c' nk ck : Nat} {B0 : Nat → Int} {L0 : Nat → Nat → Int} (h : RCols W base AC i cC rows CA cc B L)
    (hk : RowT (fun b => base ≤ b) W 74 5 Ak nk (fun k => five (fun m => .int .i64 (L0 k m)) (.int .i64 (B0 k))))
    (ho : W2.ownsRow base 63 1 (.slice A' (i + 1) c') (i + 1) (((List.range i).map fun j => .slice (CA j) (rows j) (cc j)) ++ [.slice Ak nk ck])) (hO : Only (blockOf AC) W W2) :
    RCols W2 base A' (i + 1) c' (fun j => if j = i then nk else rows j) (fun j => if j = i then Ak else CA j) (fun j => if j = i then ck else cc j) (fun j => if j = i then B0 else B j) (fun j => if j = i then L0 else L j) := by
  have hty := own_type (e' := 74) h.own (by decide)
  refine ⟨?_, fun j hj => ?_⟩
  · rw [List.range_succ, List.map_append, List.map_congr_left (g := fun j => .slice (CA j) (rows j) (cc j)) (fun j hj => by
      have : j ≠ i := by have := List.mem_range.1 hj; omega
      simp [this])]
    simpa using ho
  · by_cases e : j = i
    · simp only [if_pos e]; exact hk.only hO (fun b cur _ hc => hty b cur hc)
    · simp only [if_neg e]; exact (h.cells j (by omega)).only hO (fun b cur _ hc => hty b cur hc)
end

def cellV (Lv : Nat → Int) (Bv : Int) (j m : Nat) : Value := if m = 4 then .int .i64 Bv else if m < j then .int .i64 (Lv m) else .int .i64 0
theorem cell_made (w : World) (Bv : Int) (Lv : Nat → Int) : Arr (w.alloc (.cells #[.int .i64 0, .int .i64 0, .int .i64 0, .int .i64 0, .int .i64 Bv] 74)) w.heap.size 74 5 (cellV Lv Bv 0) :=
  ⟨_, heap_alloc_new w _, rfl, fun k hk => by
    obtain rfl | rfl | rfl | rfl | rfl : k = 0 ∨ k = 1 ∨ k = 2 ∨ k = 3 ∨ k = 4 := by omega
    all_goals rfl⟩
theorem five_oneCell (L : Nat → Int) (B : Int) : ∀ u ∈ [Value.int .i64 (L 0), .int .i64 (L 1), .int .i64 (L 2), .int .i64 (L 3), .int .i64 B], u.oneCell' = true := by
  intro u hu
  simp only [List.mem_cons, List.not_mem_nil, or_false] at hu
  rcases hu with rfl | rfl | rfl | rfl | rfl <;> rfl
theorem five_flat (L : Nat → Nat → Int) (B : Nat → Int) (n : Nat) : (List.range 5).map ((fun k => five (fun m => .int .i64 (L k m)) (.int .i64 (B k))) n) = [Value.int .i64 (L n 0), .int .i64 (L n 1), .int .i64 (L n 2), .int .i64 (L n 3), .int .i64 (B n)] := by
  simp [List.range_succ, five]
theorem flat_more (B0 : Nat → Int) (L0 : Nat → Nat → Int) (Lv : Nat → Int) (bv : Int) (k : Nat) :
    flatF 5 (fun k => five (fun m => .int .i64 (L0 k m)) (.int .i64 (B0 k))) k ++ [.int .i64 (Lv 0), .int .i64 (Lv 1), .int .i64 (Lv 2), .int .i64 (Lv 3), .int .i64 bv] =
      flatF 5 (fun a => five (fun m => .int .i64 ((if a = k then Lv else L0 a) m)) (.int .i64 (if a = k then bv else B0 a))) (k + 1) := by
  simp only [flatF]
  rw [flatF_congr (f := fun a => five (fun m => .int .i64 ((if a = k then Lv else L0 a) m)) (.int .i64 (if a = k then bv else B0 a))) (g := fun k => five (fun m => .int .i64 (L0 k m)) (.int .i64 (B0 k))) k (fun a ha m hm => by simp only [if_neg (show a ≠ k by omega)])]
  simp [List.range_succ, five]
theorem cellV_set (Lv : Nat → Int) (Bv r : Int) {j : Nat} (hj : j < 4) : (∀ m, m < 5 → m ≠ j → cellV (fun m => if m = j then r else Lv m) Bv (j + 1) m = cellV Lv Bv j m) ∧ cellV (fun m => if m = j then r else Lv m) Bv (j + 1) j = .int .i64 r := by
  refine ⟨fun m hm hne => ?_, ?_⟩
  · unfold cellV
    by_cases h4 : m = 4
    · rw [if_pos h4, if_pos h4]
    · rw [if_neg h4, if_neg h4]
      by_cases hmj : m < j
      · rw [if_pos hmj, if_pos (by omega)]; simp only [if_neg hne]
      · rw [if_neg hmj, if_neg (by omega)]
  · unfold cellV
    rw [if_neg (by omega), if_pos (by omega)]; simp
theorem flat_more2 (S : Nat → Int) (I : Nat → Bool) (r : Int) (β : Bool) (k : Nat) :
    flatF 2 (fun k => two (.int .i64 (S k)) (.bool (I k))) k ++ [.int .i64 r, .bool β] = flatF 2 (fun a => two (.int .i64 (if a = k then r else S a)) (.bool (if a = k then β else I a))) (k + 1) := by
  simp only [flatF]
  rw [flatF_congr (f := fun a => two (.int .i64 (if a = k then r else S a)) (.bool (if a = k then β else I a))) (g := fun k => two (.int .i64 (S k)) (.bool (I k))) k (fun a ha m hm => by simp only [if_neg (show a ≠ k by omega)])]
  simp [List.range_succ, two]
theorem flat_more1 (X : Nat → Int) (r : Int) (k : Nat) :
    flatF 1 (fun k _ => .int .i64 (X k)) k ++ [.int .i64 r] = flatF 1 (fun a _ => .int .i64 (if a = k then r else X a)) (k + 1) := by
  simp only [flatF]
  rw [flatF_congr (f := fun a _ => Value.int .i64 (if a = k then r else X a)) (g := fun k _ => .int .i64 (X k)) k (fun a ha m hm => by simp only [if_neg (show a ≠ k by omega)])]
  simp [List.range_succ]

/-! ### What the book says -/
section
variable (g : Tb) (s : Nat → Int)
/-- columns below c whole, column c up to signal X -/
def Tb.bk (c X c' x' : Nat) : Int := if x' < 2 then 0 else if c' < c ∨ (c' = c ∧ x' < X) then (g.sel s c' x' : Nat) else 0
def Tb.CB (c k : Nat) : Int := g.cellB c ((g.colL s c g.num).getD k 0)
def Tb.CL (c k j : Nat) : Int := g.cellL s c ((g.colL s c g.num).getD k 0) j
variable {g s}
theorem bk_zero (c' x' : Nat) : g.bk s 0 2 c' x' = 0 := by
  unfold Tb.bk
  by_cases h : x' < 2
  · rw [if_pos h]
  · rw [if_neg h, if_neg (by omega)]
theorem bk_put {c x : Nat} (hx : 2 ≤ x) (c' x' : Nat) : g.bk s c (x + 1) c' x' = (if c' = c ∧ x' = x then ((g.sel s c x : Nat) : Int) else g.bk s c x c' x') := by
  unfold Tb.bk
  by_cases h : c' = c ∧ x' = x
  · obtain ⟨rfl, rfl⟩ := h
    rw [if_neg (show ¬ x' < 2 by omega), if_pos (show c' < c' ∨ (c' = c' ∧ x' < x' + 1) by omega)]; simp
  · rw [if_neg h]
    by_cases h2 : x' < 2
    · rw [if_pos h2, if_pos h2]
    · rw [if_neg h2, if_neg h2]
      by_cases h3 : c' < c ∨ (c' = c ∧ x' < x)
      · rw [if_pos h3, if_pos (by omega)]
      · rw [if_neg h3, if_neg (by omega)]
theorem bk_skip {c x : Nat} (h0 : g.sel s c x = 0) (c' x' : Nat) : g.bk s c (x + 1) c' x' = g.bk s c x c' x' := by
  by_cases hx : 2 ≤ x
  · rw [bk_put hx]
    by_cases h : c' = c ∧ x' = x
    · obtain ⟨rfl, rfl⟩ := h
      rw [if_pos ⟨rfl, rfl⟩, h0]
      unfold Tb.bk
      rw [if_neg (by omega), if_neg (by omega)]; rfl
    · rw [if_neg h]
  · unfold Tb.bk
    by_cases h2 : x' < 2
    · rw [if_pos h2, if_pos h2]
    · rw [if_neg h2, if_neg h2]
      by_cases h3 : c' < c ∨ (c' = c ∧ x' < x)
      · rw [if_pos h3, if_pos (by omega)]
      · rw [if_neg h3, if_neg (by omega)]
theorem sel_out {c x : Nat} (hx : 2 ≤ x) (hc : c ≠ 0) (h : ¬ (x < g.num ∧ g.inCol s c x = true)) : g.sel s c x = 0 := by
  unfold Tb.sel
  rw [if_neg (by omega), if_neg hc, if_neg h]
theorem sel_in {c x : Nat} (hx : 2 ≤ x) (hc : c ≠ 0) (h : x < g.num) (h2 : g.inCol s c x = true) : g.sel s c x = 2 + g.cnt s c x := by
  unfold Tb.sel
  rw [if_neg (by omega), if_neg hc, if_pos ⟨h, h2⟩]
theorem bk_next {c X : Nat} (h : ∀ x, X ≤ x → 2 ≤ x → g.sel s c x = 0) (c' x' : Nat) : g.bk s (c + 1) 2 c' x' = g.bk s c X c' x' := by
  unfold Tb.bk
  by_cases h2 : x' < 2
  · rw [if_pos h2, if_pos h2]
  · rw [if_neg h2, if_neg h2]
    by_cases h3 : c' < c ∨ (c' = c ∧ x' < X)
    · rw [if_pos h3, if_pos (by omega)]
    · rw [if_neg h3]
      by_cases e : c' = c
      · subst e
        rw [if_pos (by omega), h x' (by omega) (by omega)]; rfl
      · rw [if_neg (by omega)]
theorem bk_sel {c X c' y : Nat} (hc : c' < c) : (if y < 2 then (y : Int) else g.bk s c X c' y) = (g.sel s c' y : Nat) := by
  by_cases h : y < 2
  · rw [if_pos h]; unfold Tb.sel; rw [if_pos h]
  · rw [if_neg h]; unfold Tb.bk; rw [if_neg h, if_pos (.inl hc)]
/-- a cell in the making: a table's -/
theorem CB_tab {c x : Nat} (h2 : 2 ≤ x) (hi : g.inCol s c x = true) (hx : x < g.num) (hD : g.D x = c) (hp : g.pre ≤ x) : g.CB s c (g.cnt s c x) = (bitsT (g.tb (x - g.pre)) (g.tl (x - g.pre)) 16 : Nat) ∧ ∀ j, g.CL s c (g.cnt s c x) j = (if j < g.tl (x - g.pre) then (g.sel s (c - 1) (g.tw (x - g.pre) j).toNat : Nat) else (0 : Nat) : Nat) := by
  unfold Tb.CB Tb.CL
  rw [nth_cnt h2 hi hx]
  unfold Tb.cellB Tb.cellL
  rw [if_pos ⟨hD, hp⟩]
  exact ⟨rfl, fun j => by rw [if_pos ⟨hD, hp⟩]⟩
/-- .. one that passes through -/
theorem CB_pass {c x : Nat} (h2 : 2 ≤ x) (hi : g.inCol s c x = true) (hx : x < g.num) (h : ¬ (g.D x = c ∧ g.pre ≤ x)) : g.CB s c (g.cnt s c x) = 43690 ∧ ∀ j, g.CL s c (g.cnt s c x) j = (if j = 0 then (g.sel s (c - 1) x : Nat) else (0 : Nat) : Nat) := by
  unfold Tb.CB Tb.CL
  rw [nth_cnt h2 hi hx]
  unfold Tb.cellB Tb.cellL
  rw [if_neg h]
  exact ⟨rfl, fun j => by rw [if_neg h]⟩
end
/-- a cell's array -/
def CellAt (w : World) (b : Nat) (L : Nat → Int) (B : Int) : Prop := Arr w b 74 5 (five (fun j => .int .i64 (L j)) (.int .i64 B))
theorem CellAt.bits {w : World} {b : Nat} {L : Nat → Int} {B : Int} (h : CellAt w b L B) (v : Int) : CellAt (w.setCell ⟨b, 4, none⟩ (.int .i64 v)) b L v :=
  Arr.set h (fun j hj hne => by
    obtain rfl | rfl | rfl | rfl | rfl : j = 0 ∨ j = 1 ∨ j = 2 ∨ j = 3 ∨ j = 4 := by omega
    all_goals first | rfl | exact absurd rfl hne) rfl
theorem CellAt.pick {w : World} {b : Nat} {L : Nat → Int} {B : Int} (h : CellAt w b L B) {k : Nat} (hk : k < 4) (v : Int) : CellAt (w.setCell ⟨b, k, none⟩ (.int .i64 v)) b (fun j => if j = k then v else L j) B :=
  Arr.set h (fun j hj hne => by
    obtain rfl | rfl | rfl | rfl | rfl : j = 0 ∨ j = 1 ∨ j = 2 ∨ j = 3 ∨ j = 4 := by omega
    all_goals first | rfl | (simp only [five, if_neg hne])) (by
    obtain rfl | rfl | rfl | rfl : k = 0 ∨ k = 1 ∨ k = 2 ∨ k = 3 := by omega
    all_goals (simp [five]))
theorem CellAt.new (w : World) : CellAt (w.alloc (.cells #[.int .i64 0, .int .i64 0, .int .i64 0, .int .i64 0, .int .i64 0] 74)) w.heap.size (fun _ => 0) 0 :=
  ⟨_, heap_alloc_new w _, rfl, fun k hk => by
    obtain rfl | rfl | rfl | rfl | rfl : k = 0 ∨ k = 1 ∨ k = 2 ∨ k = 3 ∨ k = 4 := by omega
    all_goals rfl⟩
theorem CellAt.read {w : World} {b : Nat} {L : Nat → Int} {B : Int} (h : CellAt w b L B) : w.cell? ⟨b, 0, none⟩ = some (.int .i64 (L 0)) ∧ w.cell? ⟨b, 1, none⟩ = some (.int .i64 (L 1)) ∧ w.cell? ⟨b, 2, none⟩ = some (.int .i64 (L 2)) ∧ w.cell? ⟨b, 3, none⟩ = some (.int .i64 (L 3)) ∧ w.cell? ⟨b, 4, none⟩ = some (.int .i64 B) :=
  ⟨Arr.cell h (by omega), Arr.cell h (by omega), Arr.cell h (by omega), Arr.cell h (by omega), Arr.cell h (by omega)⟩
end Go.Proofs.YtlmcbhmaccncbaaDoor
