/- Where fabric's reader stands in the fields of a configuration, in plain Lean: its flag tells whether the bits lasted and every selector was one. No condition. fabric's chip in the making: its columns, registers and outputs as they grow. No condition. -/
import Derived.Test.YtbnjbclkmjjkhaaDoorFrC
import Derived.Test.YtbnjbclkmjjkhaaDoorFrQ
import Derived.Test.YtbnjbclkmjjkhaaDoorDrQ
namespace Go.Proofs.YtbnjbclkmjjkhaaDoor
open Go.RowKit

/-- the fields in front of x were asked for; o: the bits did not last, or a selector was none -/
structure Ov (b : List UInt8) (q : Nat) (x : Fi) (o : Bool) : Prop where
  at_ : q = 112 + (decH b).wsum ((decH b).before x)
  ok : o = false ↔ (q ≤ 8 * b.length ∧ ∀ y, y ∈ (decH b).before x → ∀ n, (decH b).srcI y = some n → (numD b y : Int) < n)
theorem Ov.num {b : List UInt8} {q : Nat} {x : Fi} {o : Bool} (h : Ov b q x o) : tkv b q ((decH b).wf x) = numD b x := by rw [h.at_]; rfl
theorem Ov.same {b : List UInt8} {x y : Fi} {q : Nat} {o : Bool} (h : Ov b q x o) (hy : (decH b).before x = (decH b).before y) : Ov b q y o := ⟨by rw [← hy]; exact h.at_, by rw [← hy]; exact h.ok⟩
/-- a field that chooses nothing is read -/
theorem Ov.take {b : List UInt8} {x y : Fi} {q n : Nat} {o : Bool} (h : Ov b q x o) (hn : n = (decH b).wf x) (hs : (decH b).srcI x = none) (hy : (decH b).before x ++ [x] = (decH b).before y) : Ov b (q + n) y (o || decide (8 * b.length < q + n)) := by
  subst hn
  refine ⟨by rw [← hy, Cf.wsum_snoc, h.at_]; omega, ?_⟩
  rw [← hy, Bool.or_eq_false_iff, h.ok, decide_eq_false_iff_not]
  constructor
  · rintro ⟨⟨h1, h2⟩, h3⟩
    refine ⟨by omega, fun z hz m hm => ?_⟩
    rcases List.mem_append.1 hz with hz | hz
    · exact h2 z hz m hm
    · obtain rfl := List.mem_singleton.1 hz
      rw [hs] at hm; cases hm
  · rintro ⟨h1, h2⟩
    exact ⟨⟨by omega, fun z hz m hm => h2 z (List.mem_append_left _ hz) m hm⟩, by omega⟩
/-- a selector is read -/
theorem Ov.pick {b : List UInt8} {x y : Fi} {q n : Nat} {m : Int} {o : Bool} (h : Ov b q x o) (hn : n = (decH b).wf x) (hs : (decH b).srcI x = some m) (hy : (decH b).before x ++ [x] = (decH b).before y) : Ov b (q + n) y (pickO b q n m o) := by
  have e := h.num
  subst hn
  refine ⟨by rw [← hy, Cf.wsum_snoc, h.at_]; omega, ?_⟩
  unfold pickO
  rw [e, ← hy, Bool.or_eq_false_iff, Bool.or_eq_false_iff, h.ok, decide_eq_false_iff_not, decide_eq_false_iff_not]
  constructor
  · rintro ⟨⟨⟨h1, h2⟩, h3⟩, h4⟩
    refine ⟨by omega, fun z hz k hk => ?_⟩
    rcases List.mem_append.1 hz with hz | hz
    · exact h2 z hz k hk
    · obtain rfl := List.mem_singleton.1 hz
      rw [hs] at hk
      obtain rfl := Option.some.inj hk
      omega
  · rintro ⟨h1, h2⟩
    have h3 := h2 x (List.mem_append_right _ (List.mem_singleton.2 rfl)) m hs
    exact ⟨⟨⟨by omega, fun z hz k hk => h2 z (List.mem_append_left _ hz) k hk⟩, by omega⟩, by omega⟩
/-- at the end: did the bits last, and was every selector one? -/
theorem Ov.end_ {b : List UInt8} {q : Nat} {o : Bool} (h : Ov b q (.out (decH b).no) o) : q = bitsD b ∧ (o = false ↔ (bitsD b ≤ 8 * b.length ∧ SelOk b)) := by
  have hb : (decH b).before (.out (decH b).no) = (decH b).flds := bef_end _
  have hq : q = bitsD b := by rw [h.at_, hb]; rfl
  subst hq
  refine ⟨rfl, ?_⟩
  rw [h.ok, hb]
  refine and_congr_right fun _ => ⟨fun h2 x hx n hn => h2 x ?_ n hn, fun h2 y hy n hn => h2 y (Cf.inn_of_mem hy) n hn⟩
  obtain ⟨r, hr⟩ := (decH b).before_pre x hx
  rw [← hr]; simp
/-- the padding: i bits behind the fields are none, and the reader's flag -/
def padO (b : List UInt8) (o : Bool) (i : Nat) : Bool := o || !decide (∀ k, k < i → bitN b (bitsD b + k) = 0)
theorem padO_next {b : List UInt8} {o : Bool} {i : Nat} {v : Nat} (hv : bitN b (bitsD b + i) = v) : padO b o (i + 1) = (padO b o i || v == 1) := by
  have h1 := bitN_le b (bitsD b + i)
  unfold padO
  rw [Bool.or_assoc]
  refine congrArg (o || ·) ?_
  by_cases h : ∀ k, k < i → bitN b (bitsD b + k) = 0
  · by_cases h0 : bitN b (bitsD b + i) = 0
    · have h2 : ∀ k, k < i + 1 → bitN b (bitsD b + k) = 0 := fun k hk => if e : k = i then e ▸ h0 else h k (by omega)
      rw [decide_eq_true h, decide_eq_true h2, ← hv, h0]; rfl
    · have h2 : ¬ ∀ k, k < i + 1 → bitN b (bitsD b + k) = 0 := fun h2 => h0 (h2 i (by omega))
      have h3 : v = 1 := by omega
      rw [decide_eq_true h, decide_eq_false h2, h3]; rfl
  · have h2 : ¬ ∀ k, k < i + 1 → bitN b (bitsD b + k) = 0 := fun h2 => h fun k hk => h2 k (by omega)
    rw [decide_eq_false h, decide_eq_false h2]; rfl
/-- what load answers, said of the bytes -/
theorem load_good {l : List UInt8} {o : Bool} {i : Nat} (h18 : 18 ≤ l.length) (hm : l.take 4 = [71, 87, 66, 49]) (hc : l = body l ++ be4 (crcF (body l))) (hs : ShOk (shD (body l)))
    (ho : o = false ↔ (bitsD (body l) ≤ 8 * (body l).length ∧ SelOk (body l))) (hi : min (bitsD (body l) + i) (8 * (body l).length) % 8 = 0) (hmin : i < 8) :
    (padO (body l) o i = false ∧ min (bitsD (body l) + i) (8 * (body l).length) = 8 * (body l).length) ↔ GoodB l := by
  rw [good_iff h18 hm hc hs]
  unfold padO
  rw [Bool.or_eq_false_iff, ho, Bool.not_eq_false', decide_eq_true_eq]
  constructor
  · rintro ⟨⟨⟨h1, h2⟩, h3⟩, h4⟩
    have h5 : (bitsD (body l) + 7) / 8 = (body l).length := by omega
    refine ⟨h2, h1, h5, fun p hp => ?_⟩
    by_cases hlt : p < bitsD (body l) + i
    · have := h3 (p - bitsD (body l)) (by omega)
      rwa [show bitsD (body l) + (p - bitsD (body l)) = p by omega] at this
    · exact bitN_far (by omega)
  · rintro ⟨h1, h2, h3, h4⟩
    exact ⟨⟨⟨h2, h1⟩, fun k _ => h4 _ (by omega)⟩, by omega⟩
end Go.Proofs.YtbnjbclkmjjkhaaDoor
namespace Go.Proofs.YtbnjbclkmjjkhaaDoor
open Go.RowKit Go.Shelf

theorem wid_pos {n : Int} (h0 : 2 ≤ n) (h1 : n ≤ 1002) : 1 ≤ wid n := by
  have h := (wid_test (n := n) (by omega) h1 (k := 0) (by omega)).1 (by simpa using (by omega : (1 : Int) < n))
  omega
/-- a column's numbers one behind the other, five a cell -/
def fldN (b : List UInt8) (i m : Nat) : Nat := if m % 5 = 0 then numD b (.bits i (m / 5)) else numD b (.sel i (m / 5) (m % 5 - 1))
/-- .. of which p are written -/
def colA (b : List UInt8) (i p m : Nat) : Value := .int .i64 (if m < p then (fldN b i m : Nat) else (0 : Nat) : Nat)
def celV (b : List UInt8) (i k j : Nat) : Value := if j = 0 then .int .i64 (numD b (.bits i k) : Nat) else .int .i64 (numD b (.sel i k (j - 1)) : Nat)
def regV (b : List UInt8) (k j : Nat) : Value := if j = 0 then .bool (numD b (.init k) == 1) else .int .i64 (numD b (.rsel k) : Nat)
def outV (b : List UInt8) (k _j : Nat) : Value := .int .i64 (numD b (.out k) : Nat)
theorem fldN_bits (b : List UInt8) (i k : Nat) : fldN b i (k * 5) = numD b (.bits i k) := by
  unfold fldN
  rw [if_pos (by omega), Nat.mul_div_cancel _ (by omega)]
theorem fldN_sel (b : List UInt8) (i k : Nat) {j : Nat} (hj : j < 4) : fldN b i (k * 5 + 1 + j) = numD b (.sel i k j) := by
  unfold fldN
  rw [if_neg (by omega), show (k * 5 + 1 + j) / 5 = k by omega, show (k * 5 + 1 + j) % 5 - 1 = j by omega]
theorem colA_next (b : List UInt8) (i p n : Nat) {v : Nat} (hv : v = fldN b i p) : (∀ m, m < n → m ≠ p → colA b i (p + 1) m = colA b i p m) ∧ colA b i (p + 1) p = .int .i64 (v : Nat) := by
  unfold colA
  refine ⟨fun m _ hne => ?_, ?_⟩
  · by_cases h : m < p
    · rw [if_pos h, if_pos (by omega)]
    · rw [if_neg h, if_neg (by omega)]
  · rw [if_pos (by omega), hv]
theorem colA_row {w : World} {b : List UInt8} {i R D base : Nat} {e : TypeId} (h : Arr w D e (R * 5) (colA b i (R * 5))) (hb : base ≤ D) : RowT (fun b => base ≤ b) w e 5 (some ⟨D, 0, none⟩) R (celV b i) := fun _ => by
  obtain ⟨cur, hh, hn, hc⟩ := h
  refine ⟨D, 0, cur, rfl, hb, hh, fun k hk j hj => ?_⟩
  have hlt : k * 5 + j < R * 5 := by omega
  rw [Nat.zero_add, hc _ hlt]
  unfold colA celV
  rw [if_pos hlt]
  by_cases h0 : j = 0
  · subst h0; rw [if_pos rfl, Nat.add_zero, fldN_bits]
  · rw [if_neg h0]
    have := fldN_sel b i k (j := j - 1) (by omega)
    rw [show k * 5 + 1 + (j - 1) = k * 5 + j by omega] at this
    rw [this]
theorem flat_reg (b : List UInt8) (k : Nat) : flatF 2 (regV b) k ++ [.bool (numD b (.init k) == 1), .int .i64 (numD b (.rsel k) : Nat)] = flatF 2 (regV b) (k + 1) := by
  simp [flatF, List.range_succ, regV]
theorem flat_out (b : List UInt8) (k : Nat) : flatF 1 (outV b) k ++ [.int .i64 (numD b (.out k) : Nat)] = flatF 1 (outV b) (k + 1) := by
  simp [flatF, List.range_succ, outV]
/-- the chip's row -/
def chipO (I R : Nat) (AC : Option Addr) (i cC : Nat) (AR : Option Addr) (k cR : Nat) (AO : Option Addr) (m cO : Nat) : Obj := .cells #[.int .i64 (I : Nat), .int .i64 (R : Nat), .slice AC i cC, .slice AR k cR, .slice AO m cO] 87

section
variable {W : World} {X I R i cC k cR m cO : Nat} {AC AR AO : Option Addr}
theorem chip_cell (h : W.heap[X]? = some (chipO I R AC i cC AR k cR AO m cO)) : W.cell? ⟨X, 0, none⟩ = some (.int .i64 (I : Nat)) ∧ W.cell? ⟨X, 1, none⟩ = some (.int .i64 (R : Nat)) ∧ W.cell? ⟨X, 2, none⟩ = some (.slice AC i cC) ∧ W.cell? ⟨X, 3, none⟩ = some (.slice AR k cR) ∧ W.cell? ⟨X, 4, none⟩ = some (.slice AO m cO) := by
  refine ⟨?_, ?_, ?_, ?_, ?_⟩
  all_goals (rw [cell_of_row W X _ _ _ _ h]; rfl)
theorem chip_thaw (h : W.heap[X]? = some (chipO I R AC i cC AR k cR AO m cO)) (j : Nat) : W.frozen? ⟨X, j, none⟩ = false := by
  unfold chipO at h
  simp [World.frozen?, h]
theorem chip_set2 {A' : Option Addr} {n' c' : Nat} (h : W.heap[X]? = some (chipO I R AC i cC AR k cR AO m cO)) : (W.setCell ⟨X, 2, none⟩ (.slice A' n' c')).heap[X]? = some (chipO I R A' n' c' AR k cR AO m cO) := by
  unfold chipO at h ⊢
  rw [set1_heap0 h]; simp
theorem chip_set3 {A' : Option Addr} {n' c' : Nat} (h : W.heap[X]? = some (chipO I R AC i cC AR k cR AO m cO)) : (W.setCell ⟨X, 3, none⟩ (.slice A' n' c')).heap[X]? = some (chipO I R AC i cC A' n' c' AO m cO) := by
  unfold chipO at h ⊢
  rw [set1_heap0 h]; simp
theorem chip_set4 {A' : Option Addr} {n' c' : Nat} (h : W.heap[X]? = some (chipO I R AC i cC AR k cR AO m cO)) : (W.setCell ⟨X, 4, none⟩ (.slice A' n' c')).heap[X]? = some (chipO I R AC i cC AR k cR A' n' c') := by
  unfold chipO at h ⊢
  rw [set1_heap0 h]; simp
end
theorem Tryd.zeroFcell : (Tryd.prog.info? 92).map (fun i => (i.zero, i.size, i.bytes)) = some (some (.agg #[.int .i64 0, .int .i64 0, .int .i64 0, .int .i64 0, .int .i64 0]), 5, 40) := by kernel_rfl
theorem Tryd.zeroFreg : (Tryd.prog.info? 89).map (fun i => (i.zero, i.size, i.bytes)) = some (some (.agg #[.bool false, .int .i64 0]), 2, 16) := by kernel_rfl
theorem mk_fcol (m : Nat) (hm : m ≤ 500) (W : World) : (Instr.makeSlice 90 (.int .i64 (m : Int)) (.int .i64 (m : Int))).run Tryd.prog W = .ok (.slice (some ⟨W.heap.size, 0, none⟩) m m) (W.alloc (.cells (madeCells #[.int .i64 0, .int .i64 0, .int .i64 0, .int .i64 0, .int .i64 0] (m * 5)) 92)) :=
  run_mk Tryd.underlying90 Tryd.zeroFcell .i64 .i64 (m : Int) m (by omega) (by omega) (by omega) (by omega) W
theorem fcol_made (w : World) (b : List UInt8) (i n : Nat) : Arr (w.alloc (.cells (madeCells #[.int .i64 0, .int .i64 0, .int .i64 0, .int .i64 0, .int .i64 0] (n * 5)) 92)) w.heap.size 92 (n * 5) (colA b i (0 * 5)) :=
  ⟨_, heap_alloc_new w _, size_madeCells _ _, fun k hk => by
    rw [madeAt _ _ _ hk]
    unfold colA
    rw [if_neg (by omega)]
    have h5 : k % 5 < 5 := Nat.mod_lt _ (by omega)
    show some (#[Value.int .i64 0, .int .i64 0, .int .i64 0, .int .i64 0, .int .i64 0][k % 5]!) = _
    obtain e | e | e | e | e : k % 5 = 0 ∨ k % 5 = 1 ∨ k % 5 = 2 ∨ k % 5 = 3 ∨ k % 5 = 4 := by omega
    all_goals (rw [e]; rfl)⟩
theorem elFcol : Elem Tryd.prog 84 90 1 24 := elem_mk Tryd.underlying84 (z := .slice none 0 0) (by kernel_rfl) rfl (by omega) (by omega)
theorem elFreg : Elem Tryd.prog 85 89 2 16 := elem_mk Tryd.underlying85 Tryd.zeroFreg rfl (by omega) (by omega)

/-- the columns that were read -/
structure FCols (W : World) (base : Nat) (b : List UInt8) (AC : Option Addr) (i cC R : Nat) (CA : Nat → Option Addr) (cc : Nat → Nat) : Prop where
  own : W.ownsRow base 90 1 (.slice AC i cC) i ((List.range i).map fun j => .slice (CA j) R (cc j))
  cells : ∀ j, j < i → RowT (fun b => base ≤ b) W 92 5 (CA j) R (celV b j)
section
variable {W W1 : World} {base i cC R : Nat} {b : List UInt8} {AC : Option Addr} {cc : Nat → Nat} {CA : Nat → Option Addr}
theorem FCols.nil (W : World) (base : Nat) : FCols W base b none 0 0 R CA cc := ⟨World.ownsRow_nil _ _ _ _, fun j hj => by omega⟩
theorem FCols.only {S : Nat → Prop} (h : FCols W base b AC i cC R CA cc) (k : Only S W W1) (hS : ∀ b, S b → b < W.heap.size → b < base ∨ ∃ cur e, W.heap[b]? = some (.cells cur e (0, 0)) ∧ e ≠ 90 ∧ e ≠ 92) : FCols W1 base b AC i cC R CA cc := by
  refine ⟨own_only h.own k (fun b hb hs => ?_), fun j hj => (h.cells j hj).only k (fun b cur hb hc hs => ?_)⟩
  · rcases hS b hs (own_lt h.own b hb) with h1 | ⟨cur, e, hc, h2, _⟩
    · have := own_base h.own b hb; omega
    · exact own_type h.own h2 b cur hc hb
  · rcases hS b hs (Array.getElem?_eq_some_iff.1 hc).1 with h1 | ⟨cur', e, hc', _, h2⟩
    · omega
    · rw [hc] at hc'; injection hc' with hc'; injection hc' with _ h3; exact h2 h3.symm
theorem FCols.below (h : FCols W base b AC i cC R CA cc) (k : Below W.heap.size W W1) : FCols W1 base b AC i cC R CA cc := ⟨own_below h.own k, fun j hj => (h.cells j hj).below k⟩
theorem FCols.push {W2 : World} {A' Ak : Option Addr} {c' ck : Nat} (h : FCols W base b AC i cC R CA cc) (hk : RowT (fun b => base ≤ b) W 92 5 Ak R (celV b i))
    (ho : W2.ownsRow base 90 1 (.slice A' (i + 1) c') (i + 1) (((List.range i).map fun j => .slice (CA j) R (cc j)) ++ [.slice Ak R ck])) (hO : Only (blockOf AC) W W2) :
    FCols W2 base b A' (i + 1) c' R (fun j => if j = i then Ak else CA j) (fun j => if j = i then ck else cc j) := by
  have hty := own_type (e' := 92) h.own (by decide)
  refine ⟨?_, fun j hj => ?_⟩
  · rw [List.range_succ, List.map_append, List.map_congr_left (g := fun j => .slice (CA j) R (cc j)) (fun j hj => by
      have : j ≠ i := by have := List.mem_range.1 hj; omega
      simp [this])]
    simpa using ho
  · by_cases e : j = i
    · subst e; simp only [if_true]; exact hk.only hO (fun b cur _ hc => hty b cur hc)
    · simp only [if_neg e]; exact (h.cells j (by omega)).only hO (fun b cur _ hc => hty b cur hc)
end
theorem FCols.mono {W : World} {base base' i cC R : Nat} {b : List UInt8} {AC : Option Addr} {cc : Nat → Nat} {CA : Nat → Option Addr} (h : FCols W base b AC i cC R CA cc) (hb : base' ≤ base) : FCols W base' b AC i cC R CA cc := ⟨own_mono h.own hb, fun j hj => (h.cells j hj).mono (fun _ _ h => by omega)⟩
/-- a chip as load leaves it -/
structure Chip (W : World) (base X : Nat) (b : List UInt8) (AC : Option Addr) (cC : Nat) (CA : Nat → Option Addr) (cc : Nat → Nat) (AR : Option Addr) (cR : Nat) (AO : Option Addr) (cO : Nat) : Prop where
  hX : base ≤ X
  box : W.heap[X]? = some (chipO (tkv b 32 16) (tkv b 80 16) AC (tkv b 96 16) cC AR (tkv b 64 16) cR AO (tkv b 48 16) cO)
  cols : FCols W base b AC (tkv b 96 16) cC (tkv b 80 16) CA cc
  regs : W.ownsRow base 89 2 (.slice AR (tkv b 64 16) cR) (tkv b 64 16) (flatF 2 (regV b) (tkv b 64 16))
  outs : W.ownsRow base 3 1 (.slice AO (tkv b 48 16) cO) (tkv b 48 16) (flatF 1 (outV b) (tkv b 48 16))
end Go.Proofs.YtbnjbclkmjjkhaaDoor
