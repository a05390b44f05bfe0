/- For the reference's Decode: what is read field by field; slices that grow. No condition. -/
import Derived.Test.YtbnjbclkmjjkhaaDoorDrP
namespace Go.Proofs.YtbnjbclkmjjkhaaDoor
open Go.RowKit Go.Shelf

/-! ### Rows of elements of s cells -/
def flatF (s : Nat) (f : Nat → Nat → Value) : Nat → List Value
  | 0 => []
  | n + 1 => flatF s f n ++ (List.range s).map (f n)
theorem flatF_len (s : Nat) (f : Nat → Nat → Value) : ∀ n, (flatF s f n).length = n * s
  | 0 => by simp [flatF]
  | n + 1 => by simp only [flatF, List.length_append, flatF_len s f n, List.length_map, List.length_range, Nat.succ_mul]
theorem flatF_get (s : Nat) (f : Nat → Nat → Value) : ∀ n k, k < n → ∀ j, j < s → (flatF s f n)[k * s + j]? = some (f k j)
  | n + 1, k, hk, j, hj => by
    simp only [flatF]
    by_cases e : k = n
    · subst e
      rw [List.getElem?_append_right (by rw [flatF_len]; omega), flatF_len, Nat.add_sub_cancel_left]
      simp [hj]
    · have hlt : k * s + j < n * s := Nat.lt_of_lt_of_le (show k * s + j < (k + 1) * s by rw [Nat.succ_mul]; omega) (Nat.mul_le_mul_right _ (by omega))
      rw [List.getElem?_append_left (by rw [flatF_len]; exact hlt)]
      exact flatF_get s f n k (by omega) j hj
theorem flatF_congr {s : Nat} {f g : Nat → Nat → Value} : ∀ n, (∀ k, k < n → ∀ j, j < s → f k j = g k j) → flatF s f n = flatF s g n
  | 0, _ => rfl
  | n + 1, h => by
    simp only [flatF]
    rw [flatF_congr n (fun k hk => h k (by omega)), List.map_congr_left (fun j hj => h n (by omega) j (List.mem_range.1 hj))]
theorem own_flat {w : World} {base s n c : Nat} {e : TypeId} {A : Option Addr} {f : Nat → Nat → Value} (h : w.ownsRow base e s (.slice A n c) n (flatF s f n)) : RowT (fun b => base ≤ b) w e s A n f := fun hn => by
  obtain ⟨b, off, cur, eA, ⟨hb, _⟩, hh, hc⟩ := own_rowT h hn
  refine ⟨b, off, cur, eA, hb, hh, fun k hk j hj => ?_⟩
  rw [hc k hk j hj]
  refine congrArg some ?_
  show (flatF s f n).getD (k * s + j) undef = _
  rw [List.getD_eq_getElem?_getD, flatF_get s f n k hk j hj]; rfl
theorem run_append_s {t e : TypeId} {size bytes : Nat} (hE : Elem Tryd.prog t e size bytes) {w : World} {base n c : Nat} {A : Option Addr} {xs : List Value} (ty : TypeId) (hown : w.ownsRow base e size (.slice A n c) n xs) (ad : Addr) (d : Nat) (news : List Value) (hl : news.length = size)
    (hv : ∀ j u, news[j]? = some u → w.cell? (ad.add j) = some u) (h1 : ∀ u ∈ news, u.oneCell' = true) (hb : (n + 1) * bytes ≤ 140737488355328) (hbase : base ≤ w.heap.size) :
    ∃ A' c' w', (Builtin.append_ #[t, t] ty #[.slice A n c, .slice (some ad) 1 d]).run Tryd.prog w = .ok (.slice A' (n + 1) c') w' ∧ w'.ownsRow base e size (.slice A' (n + 1) c') (n + 1) (xs ++ news) ∧ Only (blockOf A) w w' := by
  obtain ⟨i, z, ht, hi, hz, hsz, hby, hzs, hpos, hbpos⟩ := hE
  have h63 : n + 1 ≤ maxLen := by
    have := Nat.le_mul_of_pos_right (n + 1) hbpos
    simp only [maxLen]; omega
  obtain ⟨v', w', hr, h2, h3, _, h5⟩ := run_append_own_at (P := Tryd.prog) w base t ty e i z size bytes ht hi hz hsz hby hzs hpos (.slice A n c) n xs hown ad 1 d news (by rw [hl, Nat.one_mul]) hv h1 h63 hb hbase
  obtain ⟨A', c', rfl, _⟩ := own_slice h2
  exact ⟨A', c', w', hr, h2, Only.grown h3⟩
theorem wpZ_append1 {P : Program} {o : Oper} {a : Act} {w w' : World} {K : Act → World → Prop} {Q : Exit → Act → World → Prop} (s x : Operand) (t : TypeId)
    (ho : o.op = .call { callee := .builtin .append, args := #[s, x], argTypes := #[t, t] }) {v vs vx : Value} (hs : a.eval s = vs) (hx : a.eval x = vx)
    (hr : (Builtin.append_ #[t, t] o.type #[vs, vx]).run P w = .ok v w') (h : K (a.put o.dst v) w') : Oper.wp P o a w K Q := by
  unfold Oper.wp execOp
  simp only [ho, resolve, invoke, builtin, Sem.run_bind, Sem.run_pure, Result.andThen_ok, List.map_toArray, List.map_cons, List.map_nil, hs, hx, hr]
  exact h
theorem elCells : Elem Tryd.prog 50 53 5 40 := elem_mk Tryd.underlying50 Tryd.zeroCell rfl (by omega) (by omega)
theorem elRegs : Elem Tryd.prog 28 57 2 16 := elem_mk Tryd.underlying28 Tryd.zeroCfg rfl (by omega) (by omega)
theorem elOuts : Elem Tryd.prog 29 3 1 8 := elem_mk Tryd.underlying29 Tryd.zeroInt rfl (by omega) (by omega)

/-! ### What is read -/
theorem wsum_pre {c : Cf} {a b : List Fi} (h : a <+: b) : c.wsum a ≤ c.wsum b := by
  obtain ⟨r, rfl⟩ := h
  rw [Cf.wsum_append]; omega
/-- one field more -/
theorem read_st {b : List UInt8} {x : Fi} {q n : Nat} (hx : (decH b).inn x) (hq : q ≤ 8 * b.length → q = 112 + (decH b).wsum ((decH b).before x)) (hno : 8 * b.length < q → 8 * b.length < bitsD b) (hn : n = (decH b).wf x) :
    (q + n ≤ 8 * b.length → rdN b q n = numD b x ∧ q + n = 112 + (decH b).wsum ((decH b).before x ++ [x])) ∧ (8 * b.length < q + n → 8 * b.length < bitsD b) := by
  subst hn
  refine ⟨fun h => ?_, fun h => ?_⟩
  · have e := hq (by omega)
    refine ⟨?_, by rw [Cf.wsum_snoc]; omega⟩
    rw [rdN_yes h, numD, ← e]
  · by_cases h0 : q ≤ 8 * b.length
    · have e := hq h0
      have h2 := wsum_pre (c := decH b) ((decH b).before_pre x hx)
      rw [Cf.wsum_snoc] at h2
      unfold bitsD; omega
    · exact hno (by omega)
theorem bef_sel0 (c : Cf) (i k : Nat) : c.before (.bits i k) ++ [.bits i k] = c.before (.sel i k 0) := by simp [Cf.before, cellF]
theorem bef_sel (c : Cf) (i k : Nat) {j : Nat} (hj : j < 3) : c.before (.sel i k j) ++ [.sel i k j] = c.before (.sel i k (j + 1)) := by
  obtain rfl | rfl | rfl : j = 0 ∨ j = 1 ∨ j = 2 := by omega
  all_goals simp [Cf.before, cellF]
theorem bef_sel3 (c : Cf) (i k : Nat) : c.before (.sel i k 3) ++ [.sel i k 3] = c.before (.bits i (k + 1)) := by simp [Cf.before, cellF, colF]
theorem bef_col (c : Cf) (i : Nat) : c.before (.bits i (c.rows i)) = c.allF (i + 1) := rfl
theorem bef_col0 (c : Cf) (i : Nat) : c.before (.bits i 0) = c.allF i := by simp [Cf.before, colF]
theorem bef_init (c : Cf) (k : Nat) : c.before (.init k) ++ [.init k] = c.before (.rsel k) := by simp [Cf.before]
theorem bef_rsel (c : Cf) (k : Nat) : c.before (.rsel k) ++ [.rsel k] = c.before (.init (k + 1)) := by simp [Cf.before, regF]
theorem bef_init0 (c : Cf) : c.before (.init 0) = c.allF c.nc := by simp [Cf.before, regF]
theorem bef_out0 (c : Cf) : c.before (.out 0) = c.before (.init c.nr) := by simp [Cf.before, outF]
theorem bef_out (c : Cf) (k : Nat) : c.before (.out k) ++ [.out k] = c.before (.out (k + 1)) := by simp [Cf.before, outF]
theorem bef_end (c : Cf) : c.before (.out c.no) = c.flds := rfl

/-- how far the reader is: the fields in front of x are read, or it was asked for too much -/
structure At_ (b : List UInt8) (q : Nat) (x : Fi) : Prop where
  yes : q ≤ 8 * b.length → q = 112 + (decH b).wsum ((decH b).before x)
  no : 8 * b.length < q → 8 * b.length < bitsD b
/-- numbers of a column that were read -/
def ColG (b : List UInt8) (B : Nat → Int) (L : Nat → Nat → Int) (i k : Nat) : Prop := ∀ m, m < k → B m = numD b (.bits i m) ∧ ∀ j, j < 4 → L m j = numD b (.sel i m j)

/-! ### What stands -/
structure DrG (l : List UInt8) (A : Option Addr) (c n0 bS q : Nat) (W : World) : Prop where
  rd : Rd (body l) A c bS W q
  sh : Arr W (bS + 1) 26 5 (shW (body l) 5)
  lr : Lr n0 W
section
variable {l : List UInt8} {A : Option Addr} {c n0 bS q : Nat} {W W1 : World}
theorem DrG.below (h : DrG l A c n0 bS q W) (k : Below W.heap.size W W1) : DrG l A c n0 bS q W1 := ⟨h.rd.below k, h.sh.below k, h.lr.below k⟩
theorem DrG.only {S : Nat → Prop} (h : DrG l A c n0 bS q W) (k : Only S W W1) (hS : ∀ b, S b → bS + 1 < b) (hn : n0 + 1 + 1 < bS) (hM : ∀ b, blockOf A b → b < bS) : DrG l A c n0 bS q W1 :=
  ⟨h.rd.only k (fun e => by have := hS _ e; omega) (fun b hb e => by have := hS _ e; have := hM b hb; omega), h.sh.only k (fun e => by have := hS _ e; omega), h.lr.only k (fun e => by have := hS _ e; omega) (fun e => by have := hS _ e; omega) (fun e => by have := hS _ e; omega)⟩
theorem DrG.take {n : Nat} (h : DrG l A c n0 bS q W) (hT : Rd (body l) A c bS W1 (q + n)) (hO : Only (fun k => k = bS) W W1) (hn : n0 + 1 + 1 < bS) : DrG l A c n0 bS (q + n) W1 :=
  ⟨hT, h.sh.only hO (by omega), h.lr.only hO (by omega) (by omega) (by omega)⟩
end

/-- the columns that were read -/
structure RCols (W : World) (base : Nat) (AC : Option Addr) (i cC : Nat) (rows : Nat → Nat) (CA : Nat → Option Addr) (cc : Nat → Nat) (B : Nat → Nat → Int) (L : Nat → Nat → Nat → Int) : Prop where
  own : W.ownsRow base 50 1 (.slice AC i cC) i ((List.range i).map fun j => .slice (CA j) (rows j) (cc j))
  cells : ∀ j, j < i → RowT (fun b => base ≤ b) W 53 5 (CA j) (rows j) (fun k => five (fun m => .int .i64 (L j k m)) (.int .i64 (B j k)))
section
variable {W W1 : World} {base i cC : Nat} {AC : Option Addr} {rows cc : Nat → Nat} {CA : Nat → Option Addr} {B : Nat → Nat → Int} {L : Nat → Nat → Nat → Int}
theorem RCols.nil (W : World) (base : Nat) : RCols W base none 0 0 rows CA cc B L := ⟨World.ownsRow_nil _ _ _ _, fun j hj => by omega⟩
theorem RCols.only {S : Nat → Prop} (h : RCols W base AC i cC rows CA cc B L) (k : Only S W W1) (hS : ∀ b, S b → b < W.heap.size → b < base ∨ ∃ cur e, W.heap[b]? = some (.cells cur e (0, 0)) ∧ e ≠ 50 ∧ e ≠ 53) : RCols W1 base AC i cC rows CA cc B L := by
  refine ⟨own_only h.own k (fun b hb hs => ?_), fun j hj => (h.cells j hj).only k (fun b cur hb hc hs => ?_)⟩
  · rcases hS b hs (own_lt h.own b hb) with h1 | ⟨cur, e, hc, h2, _⟩
    · have := own_base h.own b hb; omega
    · exact own_type h.own h2 b cur hc hb
  · rcases hS b hs (Array.getElem?_eq_some_iff.1 hc).1 with h1 | ⟨cur', e, hc', _, h2⟩
    · omega
    · rw [hc] at hc'; injection hc' with hc'; injection hc' with _ h3; exact h2 h3.symm
theorem RCols.below (h : RCols W base AC i cC rows CA cc B L) (k : Below W.heap.size W W1) : RCols W1 base AC i cC rows CA cc B L := ⟨own_below h.own k, fun j hj => (h.cells j hj).below k⟩
theorem RCols.push {W2 : World} {A' Ak : Option Addr} {c' nk ck : Nat} {B0 : Nat → Int} {L0 : Nat → Nat → Int} (h : RCols W base AC i cC rows CA cc B L)
    (hk : RowT (fun b => base ≤ b) W 53 5 Ak nk (fun k => five (fun m => .int .i64 (L0 k m)) (.int .i64 (B0 k))))
    (ho : W2.ownsRow base 50 1 (.slice A' (i + 1) c') (i + 1) (((List.range i).map fun j => .slice (CA j) (rows j) (cc j)) ++ [.slice Ak nk ck])) (hO : Only (blockOf AC) W W2) :
    RCols W2 base A' (i + 1) c' (fun j => if j = i then nk else rows j) (fun j => if j = i then Ak else CA j) (fun j => if j = i then ck else cc j) (fun j => if j = i then B0 else B j) (fun j => if j = i then L0 else L j) := by
  have hty := own_type (e' := 53) h.own (by decide)
  refine ⟨?_, fun j hj => ?_⟩
  · rw [List.range_succ, List.map_append, List.map_congr_left (g := fun j => .slice (CA j) (rows j) (cc j)) (fun j hj => by
      have : j ≠ i := by have := List.mem_range.1 hj; omega
      simp [this])]
    simpa using ho
  · by_cases e : j = i
    · simp only [if_pos e]; exact hk.only hO (fun b cur _ hc => hty b cur hc)
    · simp only [if_neg e]; exact (h.cells j (by omega)).only hO (fun b cur _ hc => hty b cur hc)
end

/-- the field behind a cell's j-th -/
def nxt (i k j : Nat) : Fi := if j < 4 then .sel i k j else .bits i (k + 1)
theorem bef_nxt (c : Cf) (i k : Nat) {j : Nat} (hj : j < 4) : c.before (.sel i k j) ++ [.sel i k j] = c.before (nxt i k (j + 1)) := by
  by_cases h : j < 3
  · rw [bef_sel c i k h]; unfold nxt; rw [if_pos (by omega)]
  · obtain rfl : j = 3 := by omega
    rw [bef_sel3]; rfl
def cellV (Lv : Nat → Int) (Bv : Int) (j m : Nat) : Value := if m = 4 then .int .i64 Bv else if m < j then .int .i64 (Lv m) else .int .i64 0
theorem cell_made (w : World) (Bv : Int) (Lv : Nat → Int) : Arr (w.alloc (.cells #[.int .i64 0, .int .i64 0, .int .i64 0, .int .i64 0, .int .i64 Bv] 53)) w.heap.size 53 5 (cellV Lv Bv 0) :=
  ⟨_, heap_alloc_new w _, rfl, fun k hk => by
    obtain rfl | rfl | rfl | rfl | rfl : k = 0 ∨ k = 1 ∨ k = 2 ∨ k = 3 ∨ k = 4 := by omega
    all_goals rfl⟩
/-- a step of the reader -/
theorem At_.step {b : List UInt8} {x y : Fi} {q n : Nat} (h : At_ b q x) (hx : (decH b).inn x) (hn : n = (decH b).wf x) (hy : (decH b).before x ++ [x] = (decH b).before y) :
    At_ b (q + n) y ∧ (q + n ≤ 8 * b.length → rdN b q n = numD b x) := by
  obtain ⟨h1, h2⟩ := read_st hx h.yes h.no hn
  exact ⟨⟨fun hle => by rw [← hy]; exact (h1 hle).2, h2⟩, fun hle => (h1 hle).1⟩
theorem At_.same {b : List UInt8} {x y : Fi} {q : Nat} (h : At_ b q x) (hy : (decH b).before x = (decH b).before y) : At_ b q y := ⟨fun hle => by rw [← hy]; exact h.yes hle, h.no⟩
theorem five_oneCell (L : Nat → Int) (B : Int) : ∀ u ∈ [Value.int .i64 (L 0), .int .i64 (L 1), .int .i64 (L 2), .int .i64 (L 3), .int .i64 B], u.oneCell' = true := by
  intro u hu
  simp only [List.mem_cons, List.not_mem_nil, or_false] at hu
  rcases hu with rfl | rfl | rfl | rfl | rfl <;> rfl
theorem five_flat (L : Nat → Nat → Int) (B : Nat → Int) (n : Nat) : (List.range 5).map ((fun k => five (fun m => .int .i64 (L k m)) (.int .i64 (B k))) n) = [Value.int .i64 (L n 0), .int .i64 (L n 1), .int .i64 (L n 2), .int .i64 (L n 3), .int .i64 (B n)] := by
  simp [List.range_succ, five]
theorem flat_more (B0 : Nat → Int) (L0 : Nat → Nat → Int) (Lv : Nat → Int) (bv : Int) (k : Nat) :
    flatF 5 (fun k => five (fun m => .int .i64 (L0 k m)) (.int .i64 (B0 k))) k ++ [.int .i64 (Lv 0), .int .i64 (Lv 1), .int .i64 (Lv 2), .int .i64 (Lv 3), .int .i64 bv] =
      flatF 5 (fun a => five (fun m => .int .i64 ((if a = k then Lv else L0 a) m)) (.int .i64 (if a = k then bv else B0 a))) (k + 1) := by
  simp only [flatF]
  rw [flatF_congr (f := fun a => five (fun m => .int .i64 ((if a = k then Lv else L0 a) m)) (.int .i64 (if a = k then bv else B0 a))) (g := fun k => five (fun m => .int .i64 (L0 k m)) (.int .i64 (B0 k))) k (fun a ha m hm => by simp only [if_neg (show a ≠ k by omega)])]
  simp [List.range_succ, five]
theorem cellV_set (Lv : Nat → Int) (Bv r : Int) {j : Nat} (hj : j < 4) : (∀ m, m < 5 → m ≠ j → cellV (fun m => if m = j then r else Lv m) Bv (j + 1) m = cellV Lv Bv j m) ∧ cellV (fun m => if m = j then r else Lv m) Bv (j + 1) j = .int .i64 r := by
  refine ⟨fun m hm hne => ?_, ?_⟩
  · unfold cellV
    by_cases h4 : m = 4
    · rw [if_pos h4, if_pos h4]
    · rw [if_neg h4, if_neg h4]
      by_cases hmj : m < j
      · rw [if_pos hmj, if_pos (by omega)]; simp only [if_neg hne]
      · rw [if_neg hmj, if_neg (by omega)]
  · unfold cellV
    rw [if_neg (by omega), if_pos (by omega)]; simp
theorem flat_more2 (S : Nat → Int) (I : Nat → Bool) (r : Int) (β : Bool) (k : Nat) :
    flatF 2 (fun k => two (.int .i64 (S k)) (.bool (I k))) k ++ [.int .i64 r, .bool β] = flatF 2 (fun a => two (.int .i64 (if a = k then r else S a)) (.bool (if a = k then β else I a))) (k + 1) := by
  simp only [flatF]
  rw [flatF_congr (f := fun a => two (.int .i64 (if a = k then r else S a)) (.bool (if a = k then β else I a))) (g := fun k => two (.int .i64 (S k)) (.bool (I k))) k (fun a ha m hm => by simp only [if_neg (show a ≠ k by omega)])]
  simp [List.range_succ, two]
theorem flat_more1 (X : Nat → Int) (r : Int) (k : Nat) :
    flatF 1 (fun k _ => .int .i64 (X k)) k ++ [.int .i64 r] = flatF 1 (fun a _ => .int .i64 (if a = k then r else X a)) (k + 1) := by
  simp only [flatF]
  rw [flatF_congr (f := fun a _ => Value.int .i64 (if a = k then r else X a)) (g := fun k _ => .int .i64 (X k)) k (fun a ha m hm => by simp only [if_neg (show a ≠ k by omega)])]
  simp [List.range_succ]
theorem beq_cast (n : Nat) : ((n : Int) == 1) = (n == 1) := by
  by_cases h : n = 1
  · subst h; rfl
  · have h1 : (n == 1) = false := by simpa using h
    have h2 : ((n : Int) == 1) = false := by
      rw [beq_eq_false_iff_ne]; omega
    rw [h1, h2]
end Go.Proofs.YtbnjbclkmjjkhaaDoor
