/- placer.column, walked: the tables of one depth and what passes through. Conditions: the net is valid and lies in memory, the depths and marks are told, the book holds the columns ahead. -/
import Derived.Test.YtlmcbhmaccncbaaDoorPcB
namespace Go.Proofs.YtlmcbhmaccncbaaDoor
open Go.RowKit

theorem mk_cells (n : Nat) (hn : n ≤ 100000) (W : World) : (Instr.makeSlice 63 (.int .i64 0) (.int .i64 (n : Int))).run Tryd.prog W = .ok (.slice (some ⟨W.heap.size, 0, none⟩) 0 n) (W.alloc (.cells (madeCells #[.int .i64 0, .int .i64 0, .int .i64 0, .int .i64 0, .int .i64 0] (n * 5)) 74)) := by
  have h := run_mk Tryd.underlying63 Tryd.zeroCell .i64 .i64 0 (n : Int) (by omega) (by omega) (by omega) (by omega) W
  simpa [Value.cells] using h

theorem pow4 {n : Nat} (h : n ≤ 4) : (1 : Int) ≤ 2 ^ n ∧ (2 : Int) ^ n ≤ 16 := by
  obtain rfl | rfl | rfl | rfl | rfl : n = 0 ∨ n = 1 ∨ n = 2 ∨ n = 3 ∨ n = 4 := by omega
  all_goals (constructor <;> decide)
theorem pow16 {n : Nat} (h : n < 16) : 1 ≤ 2 ^ n ∧ 2 ^ n ≤ 32768 := by
  have h1 := Nat.one_le_two_pow (n := n)
  have h2 := Nat.pow_le_pow_right (n := 2) (by omega) (show n ≤ 15 by omega)
  exact ⟨h1, by simpa using h2⟩
theorem and_low {k tl : Nat} (hk : k < 16) (h : tl ≤ 4) : bits .and .i64 (k : Int) (IntKind.i64.wrap (IntKind.i64.wrap (2 ^ tl) - 1)) = ((k % 2 ^ tl : Nat) : Int) := by
  have hp := pow4 h
  have e1 : IntKind.i64.wrap (2 ^ tl) = 2 ^ tl := by rw [IntKind.wrap_i64]; omega
  have e2 : IntKind.i64.wrap ((2 : Int) ^ tl - 1) = 2 ^ tl - 1 := by rw [IntKind.wrap_i64]; omega
  rw [e1, e2, bits_mask .i64 62 (by decide) (fun n h0 h1 => by rw [IntKind.wrap_i64]; omega) tl (by omega) k (by omega) (by omega)]
  push_cast; rfl
theorem or_bit {b k : Nat} (hk : k < 16) (hb : b < 2 ^ k) : bits .or .i64 (b : Int) (IntKind.i64.wrap (2 ^ k)) = ((b + 2 ^ k : Nat) : Int) := by
  have hp := pow16 hk
  have e1 : IntKind.i64.wrap (2 ^ k) = ((2 ^ k : Nat) : Int) := by rw [show ((2 : Int) ^ k) = ((2 ^ k : Nat) : Int) by push_cast; rfl, IntKind.wrap_i64]; omega
  rw [e1]
  have ha : (BitVec.ofInt 64 (b : Int)).toNat = b := by rw [BitVec.ofInt_natCast, BitVec.toNat_ofNat]; exact Nat.mod_eq_of_lt (by omega)
  have hc : (BitVec.ofInt 64 ((2 ^ k : Nat) : Int)).toNat = 2 ^ k := by rw [BitVec.ofInt_natCast, BitVec.toNat_ofNat]; exact Nat.mod_eq_of_lt (by omega)
  show IntKind.i64.wrap ((BitVec.ofInt 64 (b : Int) ||| BitVec.ofInt 64 ((2 ^ k : Nat) : Int)).toNat : Int) = _
  have h2 := Nat.two_pow_add_eq_or_of_lt hb 1
  rw [BitVec.toNat_or, ha, hc, Nat.or_comm, show 2 ^ k ||| b = 2 ^ k * 1 ||| b by rw [Nat.mul_one], ← h2, Nat.mul_one, IntKind.wrap_i64]
  omega
theorem and_one_i64 {l : Int} (h0 : 0 ≤ l) (h1 : l < 9223372036854775808) : bits .and .i64 l 1 = l % 2 := by
  obtain ⟨n, rfl⟩ := Int.eq_ofNat_of_zero_le h0
  have hn : n < 9223372036854775808 := by omega
  have ha : (BitVec.ofInt 64 (n : Int)).toNat = n := by rw [BitVec.ofInt_natCast, BitVec.toNat_ofNat]; exact Nat.mod_eq_of_lt (by omega)
  have hb : (BitVec.ofInt 64 1).toNat = 1 := by decide
  show IntKind.i64.wrap ((BitVec.ofInt 64 (n : Int) &&& BitVec.ofInt 64 1).toNat : Int) = _
  rw [BitVec.toNat_and, ha, hb, Nat.and_one_is_mod, IntKind.wrap_i64]
  omega
theorem shr_run {x : Int} {m : Nat} (_hx : 0 ≤ x) (hm : m < 64) (W : World) : (Op.shift BinOp.shr IntKind.i64 x IntKind.i64 (m : Int)).run Tryd.prog W = .ok (.int .i64 (x / 2 ^ m)) W := by
  unfold Op.shift
  rw [if_neg (by omega), Int.toNat_natCast, show min m IntKind.i64.bits = m from Nat.min_eq_left (by show m ≤ 64; omega)]
  show Result.ok (Value.int .i64 (x.fdiv (2 ^ m))) W = _
  rw [Int.fdiv_eq_ediv_of_nonneg _ (by exact_mod_cast Nat.zero_le (2 ^ m))]

theorem wpList_book {w : World} {ops : Array Oper} {rest : List Oper} {o : Oper} {a : Act} {Q : Exit → Act → World → Prop} (hg : o.guard = none) (m x v : Operand) (hop : o.op = Op.mapUpdate 54 m x v)
    {b n : Nat} {V : Nat → Nat → Int} (hB : Book w b n V) (hn : n < maxLen) {c y : Nat} (hc : c ≤ 1000) (hy : y ≤ 70368744177664) {z : Int} (hz : (Lit.int .i64 z).wf = true)
    (hm : a.eval m = .map (some b)) (hx : a.eval x = .agg #[.int .i64 (c : Int), .int .i64 (y : Int)]) (hv : a.eval v = .int .i64 z)
    (hK : ∀ w', Book w' b (n + 1) (fun c' x' => if c' = c ∧ x' = y then z else V c' x') → Only (fun k => k = b) w w' → wpList Tryd.prog ops Q rest (a.put o.dst undef) w') : wpList Tryd.prog ops Q (o :: rest) a w := by
  refine wpList_plain hg fun K' hK' => ?_
  obtain ⟨w', hrun, r1, r2⟩ := hB.store hn hc hy hz
  unfold Oper.wp
  simp [execOp, hop, hm, hx, hv, hrun, Result.andThen]
  exact hK' _ _ (hK w' r1 ⟨r2.os, r2.tape, r2.output, r2.size, fun k hk hne => r2.block k hk (fun e => hne (by injection e))⟩)
theorem CellAt.congr {w : World} {b : Nat} {L L' : Nat → Int} {B B' : Int} (h : CellAt w b L B) (e : ∀ j, j < 4 → L' j = L j) (eb : B' = B) : CellAt w b L' B' :=
  Arr.congr h (fun j hj => by
    obtain rfl | rfl | rfl | rfl | rfl : j = 0 ∨ j = 1 ∨ j = 2 ∨ j = 3 ∨ j = 4 := by omega
    all_goals first | (simp only [five]; rw [eb]) | (simp only [five]; rw [e _ (by omega)]))
theorem Book.mono {w : World} {b n m : Nat} {V : Nat → Nat → Int} (h : Book w b n V) (hm : n ≤ m) : Book w b m V := by
  obtain ⟨D, h1, h2⟩ := h
  exact ⟨D, h1.mono hm, h2⟩
def lenOf : Value → Nat
  | .slice _ n _ => n
  | _ => 0

set_option maxRecDepth 100000 in
set_option maxHeartbeats 16000000 in
theorem column_any (g : Tb) (a : Ta) (s : Nat → Int) (P bd bl bm c R n : Nat) (w0 w : World) (hg : g.At w0 a.A1 a.A2 a.A3 a.A4) (hv : g.Valid) (hfit : g.Fits) (hb0 : Below w0.heap.size w0 w) (hM : w0.heap.size ≤ bm)
    (hX : w.heap[P]? = some (plO g a s (g.pre : Int) (.slice (some ⟨bd, 0, none⟩) g.num g.num) (.slice (some ⟨bl, 0, none⟩) g.num g.num) bm))
    (hD : Ints w bd g.num g.D) (hL : Ints w bl g.num (g.L s)) (hB : Book w bm n (g.bk s c 2)) (hc : 1 ≤ c ∧ c ≤ 100) (hR : s 3 = R) (hR2 : 1 ≤ R ∧ R ≤ 500) (hn : n ≤ 1000000) :
    Calls Tryd.prog 18 #[.pointer (some ⟨P, 0, none⟩), .int .i64 (c : Int)] w fun e w' =>
      ((g.cnt s c g.num ≤ R ∧ ∃ A cA, e = .returned (.tuple #[.slice A R cA, .bool true]) ∧ RowT (fun b => w.heap.size ≤ b) w' 74 5 A R (fun k => five (fun m => .int .i64 (if k < g.cnt s c g.num then g.CL s c k m else 0)) (.int .i64 (if k < g.cnt s c g.num then g.CB s c k else 0))) ∧ Book w' bm (n + 501) (g.bk s (c + 1) 2)) ∨
        (¬ g.cnt s c g.num ≤ R ∧ e = .returned (.tuple #[.slice none 0 0, .bool false]))) ∧ Only (fun b => b = bm) w w' := by
  obtain ⟨nv, hnv, hnvi, hprei, hnvb, hn2⟩ := hv.nums hfit
  have hnum : g.num = nv := by rw [hnv]; rfl
  have HNUM := Lib.hid hnum
  rw [hnum] at hX hD hL ⊢
  obtain ⟨pre, hpre⟩ : ∃ pre, g.pre = pre := ⟨_, rfl⟩
  have HPRE := Lib.hid hpre
  rw [hpre] at hX
  have hpn : pre ≤ nv := by omega
  obtain ⟨TA, TC, t1, t2⟩ := hg.tabs
  have HT1 := Lib.hid t1; have HT2 := Lib.hid t2; have HV := Lib.hid hv; have HB0 := Lib.hid hb0
  have HX := Lib.hid hX; have HD := Lib.hid hD; have HL := Lib.hid hL; have HB := Lib.hid hB
  have hPw : P < w.heap.size := (Array.getElem?_eq_some_iff.1 hX).1
  have hBw : bm < w.heap.size := hB.lt
  have hDw : bd < w.heap.size := Arr.lt hD
  have hLw : bl < w.heap.size := Arr.lt hL
  have hne : P ≠ bm ∧ bd ≠ bm ∧ bl ≠ bm := by
    obtain ⟨D, ⟨es, clock, hb, _⟩, _⟩ := hB
    refine ⟨fun e => ?_, fun e => ?_, fun e => ?_⟩
    · rw [e, hb] at hX; unfold plO at hX; cases hX
    · obtain ⟨cur, hh, _⟩ := hD; rw [e, hb] at hh; cases hh
    · obtain ⟨cur, hh, _⟩ := hL; rw [e, hb] at hh; cases hh
  have HNV := Lib.hid hnv; have HN2 := Lib.hid hn2
  clear t1 t2 hg hv hb0 hX hD hL hB hnum hpre hnv hnvi hprei hn2 hfit
  have HKW : Hid (∀ wr, Only (fun b => b = bm) w wr → Keeps w0 wr) := Lib.hid (fun wr h => Keeps.of_below (HB0.out.trans (h.below (B := w0.heap.size) (fun b _ e => by omega) HB0.out.size)))
  have HKP : Hid (∀ wr, Only (fun b => b = bm) w wr → wr.heap[P]? = some (plO g a s (pre : Int) (.slice (some ⟨bd, 0, none⟩) nv nv) (.slice (some ⟨bl, 0, none⟩) nv nv) bm) ∧ Ints wr bd nv g.D ∧ Ints wr bl nv (g.L s)) :=
    Lib.hid (fun wr h => ⟨(h.block P hPw (by omega)).trans HX.out, Arr.only HD.out h (by omega), Arr.only HL.out h (by omega)⟩)
  have hmk := fun W => mk_cells R (by omega) W
  obtain ⟨⟨x0, x1, x2, x3, x4⟩, ⟨x8, x9⟩, x10, x11, x12, x13⟩ := pl_cell HX.out
  rw [hR] at x8
  go_enter Tryd.func18, Tryd.ntmps18
  have hb1 : Below w.heap.size w (w.alloc (.cells (madeCells #[.int .i64 0, .int .i64 0, .int .i64 0, .int .i64 0, .int .i64 0] (R * 5)) 74)) := (Below.refl _ _).alloc (Nat.le_refl _) _
  have hA1 : (w.alloc (.cells (madeCells #[.int .i64 0, .int .i64 0, .int .i64 0, .int .i64 0, .int .i64 0] (R * 5)) 74)).ownsRow w.heap.size 74 5 (.slice (some ⟨w.heap.size, 0, none⟩) 0 R) 0 [] :=
    World.ownsRow_made w _ _ (Nat.le_refl _) (by simp [maxLen]; omega) (by simp [madeCells])
  go_upto_region 2 with (fail)
  clear hmk x0 x1 x2 x3 x4 x8 x9 x10 x11 x12 x13
  have HO1 : Hid (Only (fun b => b = bm) w (w.alloc (.cells (madeCells #[.int .i64 0, .int .i64 0, .int .i64 0, .int .i64 0, .int .i64 0] (R * 5)) 74))) := Lib.hid ((Only.refl _ _).call hb1)
  have HB1 : Hid (Book (w.alloc (.cells (madeCells #[.int .i64 0, .int .i64 0, .int .i64 0, .int .i64 0, .int .i64 0] (R * 5)) 74)) bm n (g.bk s c 2)) := Lib.hid (HB.out.kept (hb1.block bm hBw))
  have hw1 : w.heap.size ≤ (w.alloc (.cells (madeCells #[.int .i64 0, .int .i64 0, .int .i64 0, .int .i64 0, .int .i64 0] (R * 5)) 74)).heap.size := hb1.size
  have HA1 := Lib.hid hA1
  clear hA1 hb1
  generalize w.alloc (.cells (madeCells #[.int .i64 0, .int .i64 0, .int .i64 0, .int .i64 0, .int .i64 0] (R * 5)) 74) = w1 at *
  obtain ⟨A0, hA0⟩ : ∃ A0 : Option Addr, A0 = some ⟨w.heap.size, 0, none⟩ := ⟨_, rfl⟩
  rw [← hA0] at HA1 ⊢
  clear hA0
  go_wp2_with fail
  have hpre2 : 2 ≤ nv := by have h1 := HNV.out; have h2 : 2 ≤ g.pre := (by unfold Tb.pre; omega); omega
  have HA2 : Hid (w1.ownsRow w.heap.size 74 5 (.slice A0 (g.cnt s c 2) R) (g.cnt s c 2) (flatF 5 (fun k => five (fun m => .int .i64 (g.CL s c k m)) (.int .i64 (g.CB s c k))) (g.cnt s c 2))) := Lib.hid (by rw [show g.cnt s c 2 = 0 from Nat.le_zero.1 (cnt_le g s c 2)]; exact HA1.out)
  have HB2 : Hid (Book w1 bm (n + g.cnt s c 2) (g.bk s c 2)) := Lib.hid (by rw [show g.cnt s c 2 = 0 from Nat.le_zero.1 (cnt_le g s c 2)]; exact HB1.out)
  have hc2 : g.cnt s c 2 = 0 := Nat.le_zero.1 (cnt_le g s c 2)
  clear HA1 HB1
  go_loopw [6, 7] (fun vA vx wr => ∃ (x : Nat) (A : Option Addr) (cA : Nat), (2 ≤ x ∧ x ≤ nv ∧ g.cnt s c x ≤ R) ∧ vx = .int .i64 x ∧ vA = .slice A (g.cnt s c x) cA ∧ Hid (wr.ownsRow w.heap.size 74 5 (.slice A (g.cnt s c x) cA) (g.cnt s c x) (flatF 5 (fun k => five (fun m => .int .i64 (g.CL s c k m)) (.int .i64 (g.CB s c k))) (g.cnt s c x))) ∧ Hid (Book wr bm (n + g.cnt s c x) (g.bk s c x)) ∧ Hid (Only (fun b => b = bm) w wr)) (fun _ vx _ => nv - (intOf vx).toNat)
  case atStart => exact ⟨2, A0, R, ⟨by omega, hpre2, by omega⟩, rfl, by rw [hc2], HA2, HB2, HO1⟩
  case round =>
    clear HA2 HB2 HO1 hc2
    obtain ⟨x, A, cA, ⟨hx2, hxn, hcR⟩, rfl, rfl, HA, HB, HO⟩ := hrel
    obtain ⟨wo, hwo⟩ : ∃ x, x = wr := ⟨_, rfl⟩
    subst hwo
    obtain ⟨hxk, hDk, hLk⟩ := HKP.out wo HO.out
    obtain ⟨⟨x0, x1, x2, x3, x4⟩, ⟨x8, x9⟩, x10, x11, x12, x13⟩ := pl_cell hxk
    rw [hR] at x8
    by_cases hlt : x < nv
    · have d0 := Arr.cell hDk hlt
      have l0 := Arr.cell hLk hlt
      obtain ⟨dx, hdx⟩ : ∃ dx, dx = g.D x := ⟨_, rfl⟩
      obtain ⟨lx, hlx⟩ : ∃ lx, lx = g.L s x := ⟨_, rfl⟩
      rw [← hdx] at d0
      rw [← hlx] at l0
      have HDX := Lib.hid hdx; have HLX := Lib.hid hlx
      clear hdx hlx hDk hLk hxk
      have HSKIP : Hid (¬ ((c : Int) ≤ lx ∧ dx ≤ c) → g.cnt s c (x + 1) = g.cnt s c x ∧ ∀ c' x', g.bk s c (x + 1) c' x' = g.bk s c x c' x') := Lib.hid (fun h => by
        have h2 : ¬ g.inCol s c x = true := by unfold Tb.inCol; rw [decide_eq_true_eq, ← HDX.out, ← HLX.out]; exact h
        exact ⟨cnt_out (fun h3 => h2 h3.2), bk_skip (sel_out hx2 (by omega) (fun h3 => h2 h3.2))⟩)
      by_cases hl : lx < c
      · -- QB skip
        obtain ⟨hcn, hbk⟩ := HSKIP.out (fun h => by omega)
        have HCN := Lib.hid hcn; have HBK := Lib.hid hbk
        clear hcn hbk
        go_wp2_with fail
        go_roundw
        case rel => exact ⟨x + 1, A, cA, ⟨by omega, by omega, by rw [HCN.out]; exact hcR⟩, by go_num, by rw [HCN.out], by rw [HCN.out]; exact HA, by rw [HCN.out]; exact Lib.hid (HB.out.congr (fun c' x' _ _ => HBK.out c' x')), HO⟩
        case measure => simp [intOf]; omega
        -- QE skip
      · have hq1 : decide (lx < (c : Int)) = false := decide_eq_false hl
        by_cases hd : (c : Int) < dx
        · -- QB skip
          obtain ⟨hcn, hbk⟩ := HSKIP.out (fun h => by omega)
          have HCN := Lib.hid hcn; have HBK := Lib.hid hbk
          clear hcn hbk
          go_wp2_with fail
          go_roundw
          case rel => exact ⟨x + 1, A, cA, ⟨by omega, by omega, by rw [HCN.out]; exact hcR⟩, by go_num, by rw [HCN.out], by rw [HCN.out]; exact HA, by rw [HCN.out]; exact Lib.hid (HB.out.congr (fun c' x' _ _ => HBK.out c' x')), HO⟩
          case measure => simp [intOf]; omega
          -- QE skip
        · have hin : g.inCol s c x = true := by unfold Tb.inCol; rw [decide_eq_true_eq, ← HDX.out, ← HLX.out]; omega
          have HIN := Lib.hid hin
          have HCN := Lib.hid (cnt_in hx2 hin)
          clear hin HSKIP
          have hbt : Below wo.heap.size wo (wo.alloc (.cells #[.int .i64 0, .int .i64 0, .int .i64 0, .int .i64 0, .int .i64 0] 74)) := (Below.refl _ _).alloc (Nat.le_refl _) _
          have hcl := CellAt.new wo
          have hz1 : (wo.alloc (.cells #[.int .i64 0, .int .i64 0, .int .i64 0, .int .i64 0, .int .i64 0] 74)).heap.size = wo.heap.size + 1 := by simp
          go_upto_region 7 with (fail)
          have hA3 := own_below HA.out hbt
          have hB3 := HB.out.kept (hbt.block bm HB.out.lt)
          have hO3 := HO.out.call hbt
          have hwo2 := HO.out.size
          have HAL := Lib.hid (own_lt HA.out)
          generalize wo.alloc (.cells #[.int .i64 0, .int .i64 0, .int .i64 0, .int .i64 0, .int .i64 0] 74) = w2 at *
          obtain ⟨bc, hbc⟩ : ∃ bc, bc = wo.heap.size := ⟨_, rfl⟩
          rw [← hbc] at hcl hz1 ⊢
          have HBC := Lib.hid hbc
          clear hbc
          have HA3 := Lib.hid hA3; have HB3 := Lib.hid hB3; have HO3 := Lib.hid hO3
          clear hA3 hB3 hO3 hbt x0 x1 x2 x3 x4 x8 x9 x10 x11 x12 x13 d0 l0 HA HB HO
          obtain ⟨hxk, hDk, _⟩ := HKP.out w2 HO3.out
          obtain ⟨⟨x0, x1, x2, x3, x4⟩, ⟨x8, x9⟩, x10, x11, x12, x13⟩ := pl_cell hxk
          have d0 := Arr.cell hDk hlt
          rw [← HDX.out] at d0
          have HCL := Lib.hid hcl; have HZ1 := Lib.hid hz1
          clear hcl hxk hDk hz1
          by_cases hD : dx = (c : Int)
          · have hp : pre ≤ x := by
              refine Nat.le_of_not_lt (fun h => ?_)
              have h2 := D_pre (g := g) (x := x) (by rw [HPRE.out]; exact h)
              rw [← HDX.out] at h2; omega
            obtain ⟨i, hi⟩ : ∃ i, x = pre + i := ⟨x - pre, by omega⟩
            have hi2 : i < g.n2 := by have h1 := HNV.out; have h2 := HPRE.out; omega
            obtain ⟨b2, o2, hA2, y0, y1⟩ := (HT1.out.keeps (HKW.out w2 HO3.out)).at2 hi2
            simp only [two] at y0 y1
            have ht2 := HT2.out i hi2
            obtain ⟨A', hA'⟩ : ∃ A', TA i = A' := ⟨_, rfl⟩
            rw [hA'] at y0 ht2
            obtain ⟨tl, htl⟩ : ∃ tl, tl = g.tl i := ⟨_, rfl⟩
            obtain ⟨tb, htb⟩ : ∃ tb, tb = g.tb i := ⟨_, rfl⟩
            rw [← htl] at y0 ht2
            rw [← htb] at y1
            have HTL := Lib.hid htl; have HTB := Lib.hid htb; have HTI := Lib.hid ht2; have HXI := Lib.hid hi; have HDC := Lib.hid hD
            rw [hA2] at x2
            have ewx : IntKind.i64.wrap ((x : Int) - (pre : Int)) = (i : Int) := by rw [IntKind.wrap_i64]; omega
            clear ht2 hA' hA2 htl htb hi
            rw [show dx = (c : Int) from hD] at d0
            clear hD
            go_wp2_with fail
            refine wp_region_z (fun w' => w'.cell? ⟨P, 2, none⟩ = some (.slice (some ⟨b2, o2, none⟩) g.n2 a.c2) ∧ w'.cell? ⟨P, 10, none⟩ = some (.int .i64 (pre : Nat)) ∧ w'.cell? ⟨b2, o2 + i * 2, none⟩ = some (.slice A' tl (TC i)) ∧ w'.cell? ⟨b2, o2 + i * 2 + 1, none⟩ = some (.int .i64 tb)) [0, 1, 2, 3, 4, 5, 6, 7, 8, 9, 10, 11, 12] [14] (by kernel_rfl) (by kernel_rfl) (by kernel_rfl) (by rfl) (fun _ _ _ _ e h => ⟨e.symm.trans h.1, h.2⟩) ⟨x2, x10, y0, y1⟩ ?_
            iterate 13
              refine Heads.step (v := ?_) rfl (by first | (go_simp; done) | rfl) (fun W hW => ?_) ?_
              rotate_left
              · (obtain ⟨t0, t1, t2, t3⟩ := hW; go_simp; try with_reducible rfl)
            refine AnyZ.one (i := 13) (by kernel_rfl) rfl (fun K hK => ?_)
            go_simp
            have hb8 : Below w2.heap.size w2 (w2.alloc (.cells #[.slice none 0 0, .int .i64 0] 50)).drew := ((Below.refl _ _).alloc (Nat.le_refl _) _).drew
            have hx8 : (w2.alloc (.cells #[.slice none 0 0, .int .i64 0] 50)).drew.heap[w2.heap.size]? = some (.cells #[.slice none 0 0, .int .i64 0] 50) := heap_alloc_new w2 _
            have kp := Keeps.of_below hb8
            refine hK _ _ (fun _ => ⟨kp _ _ x2, kp _ _ x10, kp _ _ y0, kp _ _ y1⟩) ?_
            clear hK
            refine AnyZ.one (i := 14) (by kernel_rfl) rfl (fun K hK => ?_)
            go_simp
            refine hK _ _ (fun h => by cases h) (AnyZ.done (by kernel_rfl) ?_)
            clear hK
            go_simp
            clear hb8 hx8 kp x0 x1 x2 x3 x4 x8 x9 x10 x11 x12 x13 d0 y0 y1 ewx
            have hb8 : Below w2.heap.size w2 (w2.alloc (.cells #[.slice A' tl (TC i), .int .i64 tb] 50)).drew := ((Below.refl _ _).alloc (Nat.le_refl _) _).drew
            have hx8 : (w2.alloc (.cells #[.slice A' tl (TC i), .int .i64 tb] 50)).drew.heap[w2.heap.size]? = some (.cells #[.slice A' tl (TC i), .int .i64 tb] 50) := heap_alloc_new w2 _
            obtain ⟨bt, hbt⟩ : ∃ bt, bt = w2.heap.size := ⟨_, rfl⟩
            rw [← hbt] at hx8 ⊢
            have HCL4 := Lib.hid (Arr.below HCL.out hb8)
            have HA4 := Lib.hid (own_below HA3.out hb8)
            have HB4 := Lib.hid (HB3.out.kept (hb8.block bm HB3.out.lt))
            have HO4 := Lib.hid (HO3.out.call hb8)
            have hbtc : bt ≠ bc := by have := HZ1.out; have := HBC.out; omega
            generalize (w2.alloc (.cells #[.slice A' tl (TC i), .int .i64 tb] 50)).drew = w3 at *
            have HTX : Hid (∀ wr, Only (fun b => b = bc) w3 wr → wr.cell? ⟨bt, 0, none⟩ = some (.slice A' tl (TC i)) ∧ wr.cell? ⟨bt, 1, none⟩ = some (.int .i64 tb)) := Lib.hid (fun wr h => by
              have h2 := (h.block bt (Array.getElem?_eq_some_iff.1 hx8).1 hbtc).trans hx8
              constructor
              all_goals (rw [cell_of_row wr bt _ _ _ _ h2]; rfl))
            clear hx8 hb8 hbt HCL HA3 HB3 HO3
            have htl4 : tl ≤ 4 := by rw [HTL.out]; exact (HV.out.tabs i hi2).len
            have htb0 : 0 ≤ tb ∧ tb < 65536 := by
              have h1 := (HV.out.tabs i hi2).lo; have h2 := (HV.out.tabs i hi2).hi
              rw [← HTL.out, ← HTB.out] at h2
              rw [← HTB.out] at h1
              refine ⟨h1, ?_⟩
              obtain rfl | rfl | rfl | rfl | rfl : tl = 0 ∨ tl = 1 ∨ tl = 2 ∨ tl = 3 ∨ tl = 4 := by omega
              all_goals (simp at h2; omega)
            go_wp2_with fail
            go_loopw [79] (fun vk wr => ∃ k : Nat, k ≤ 16 ∧ vk = .int .i64 k ∧ Hid (CellAt wr bc (fun _ => 0) (bitsT tb tl k : Nat)) ∧ Hid (Only (fun b => b = bc) w3 wr)) (fun vk _ => 16 - (intOf vk).toNat)
            case atStart => exact ⟨0, by omega, rfl, HCL4, Lib.hid (Only.refl _ _)⟩
            case round =>
              clear HCL4
              obtain ⟨k, hk, rfl, HCk, HOk⟩ := hrel
              by_cases hlk : k < 16
              · -- QB bits
                obtain ⟨q0, q1⟩ := HTX.out wr HOk.out
                have e90 := and_low hlk htl4
                obtain ⟨m, hm⟩ : ∃ m, m = k % 2 ^ tl := ⟨_, rfl⟩
                rw [← hm] at e90
                have hmk : m ≤ k := by rw [hm]; exact Nat.mod_le _ _
                have e91 := fun W => shr_run (x := tb) (m := m) htb0.1 (by omega) W
                have hq0 : 0 ≤ tb / 2 ^ m := Int.ediv_nonneg htb0.1 (by exact_mod_cast Nat.zero_le (2 ^ m))
                have hq9 : tb / 2 ^ m ≤ tb := Int.ediv_le_self _ htb0.1
                have HB93 : Hid (bitAt tb (k % 2 ^ tl) = (tb / 2 ^ m % 2 == 1)) := Lib.hid (by rw [← hm]; rfl)
                have e92 := and_one_i64 hq0 (by omega)
                have HE92 := Lib.hid e92
                clear hm hq0 hq9 e92
                go_wp2_with fail
                refine wp_region_z (fun w' => w'.cell? ⟨bt, 1, none⟩ = some (.int .i64 tb) ∧ w'.cell? ⟨bt, 0, none⟩ = some (.slice A' tl (TC i))) [0, 1, 2, 3, 4, 5, 6, 7, 8, 9, 10, 11] [] (by kernel_rfl) (by kernel_rfl) (by kernel_rfl) (by rfl) (fun _ _ _ _ e h => ⟨e.symm.trans h.1, h.2⟩) ⟨q1, q0⟩ ?_
                iterate 12
                  refine Heads.step (v := ?_) rfl (by first | (go_simp; done) | rfl) (fun W hW => ?_) ?_
                  rotate_left
                  · (obtain ⟨t0, t1⟩ := hW; go_simp; try with_reducible rfl)
                refine AnyZ.done (by kernel_rfl) ?_
                go_simp
                clear q0 q1 e90 e91 hmk
                obtain ⟨bv, hbv⟩ : ∃ bv, bv = bitsT tb tl k := ⟨_, rfl⟩
                rw [← hbv] at HCk
                have hblt : bv < 2 ^ k := by rw [hbv]; exact bitsT_lt _ _ _
                have HBV := Lib.hid hbv
                have HCd : Hid (CellAt wr.drew bc (fun _ => 0) (bv : Nat)) := HCk
                have HOd := Lib.hid HOk.out.drew
                clear hbv HCk HOk
                generalize wr.drew = wq at *
                by_cases hβ : tb / 2 ^ m % 2 = 1
                · have hq : (bits .and .i64 (tb / 2 ^ m) 1 == 1) = true := by rw [HE92.out, hβ]; rfl
                  rw [show (tb / 2 ^ m % 2 == 1) = true by rw [hβ]; rfl] at HB93
                  clear hβ
                  have HNX : Hid (bitsT tb tl (k + 1) = bv + 2 ^ k) := Lib.hid (by rw [HBV.out]; simp only [bitsT]; rw [if_pos HB93.out])
                  have e98 := or_bit hlk hblt
                  obtain ⟨_, _, _, _, c4⟩ := CellAt.read HCd.out
                  have cz := Arr.thaw HCd.out 4
                  clear hblt
                  go_wp2_with fail
                  refine wp_region_z (fun w' => w'.cell? ⟨bc, 4, none⟩ = some (.int .i64 (bv : Nat))) [0, 1, 2, 3, 4, 5] [6] (by kernel_rfl) (by kernel_rfl) (by kernel_rfl) (by rfl) (fun _ _ _ _ e h => ⟨e.symm.trans h.1, h.2⟩) c4 ?_
                  iterate 6
                    refine Heads.step (v := ?_) rfl (by first | (go_simp; done) | rfl) (fun W hW => ?_) ?_
                    rotate_left
                    · (have t0 := hW; go_simp; try with_reducible rfl)
                  replace c4 : wq.drew.cell? ⟨bc, 4, none⟩ = _ := c4
                  replace cz : wq.drew.frozen? ⟨bc, 4, none⟩ = _ := cz
                  refine AnyZ.one (i := 6) (by kernel_rfl) rfl (fun K hK => ?_)
                  go_simp
                  refine hK _ _ (fun h => by cases h) (AnyZ.done (by kernel_rfl) ?_)
                  clear hK
                  go_simp
                  have h1 : CellAt (wq.setCell ⟨bc, 4, none⟩ (.int .i64 ((bv + 2 ^ k : Nat) : Int))).drew bc (fun _ => 0) ((bitsT tb tl (k + 1) : Nat) : Int) := by rw [HNX.out]; exact CellAt.bits HCd.out _
                  have h2 := (HOd.out.setCell (p := ⟨bc, 4, none⟩) (fun _ => rfl) (.int .i64 ((bv + 2 ^ k : Nat) : Int))).drew
                  clear c4 cz e98 hq
                  go_wp2_with fail
                  go_roundw
                  case rel => exact ⟨k + 1, by omega, by go_num, Lib.hid h1, Lib.hid h2⟩
                  case measure => simp [intOf]; omega
                · have hq : (bits .and .i64 (tb / 2 ^ m) 1 == 1) = false := by rw [HE92.out]; simpa using hβ
                  rw [show (tb / 2 ^ m % 2 == 1) = false by simpa using hβ] at HB93
                  clear hβ
                  have HNX : Hid (bitsT tb tl (k + 1) = bv) := Lib.hid (by rw [HBV.out]; simp only [bitsT]; rw [if_neg (by rw [HB93.out]; simp)]; rfl)
                  clear hblt
                  go_wp2_with fail
                  go_roundw
                  case rel => exact ⟨k + 1, by omega, by go_num, by rw [HNX.out]; exact HCd, HOd⟩
                  case measure => simp [intOf]; omega
                -- QE bits
              · obtain rfl : k = 16 := by omega
                obtain ⟨w4, hw4⟩ : ∃ x, x = wr := ⟨_, rfl⟩
                subst hw4
                rw [show ((16 : Nat) : Int) = 16 from rfl]
                obtain ⟨q0, q1⟩ := HTX.out w4 HOk.out
                clear HTX
                have hbcw : w.heap.size ≤ bc := by have := HBC.out; omega
                go_wp2_with fail
                clear q0 q1
                go_loopw [104] (fun vj wr => ∃ j : Nat, j ≤ tl ∧ vj = .int .i64 j ∧ Hid (CellAt wr bc (fun m => if m < j then ((g.sel s (c - 1) (g.tw i m).toNat : Nat) : Int) else 0) (bitsT tb tl 16 : Nat)) ∧ Hid (Only (fun b => b = bc) w4 wr)) (fun vj _ => tl - (intOf vj).toNat)
                case atStart => exact ⟨0, by omega, rfl, Lib.hid (HCk.out.congr (fun m _ => if_neg (by omega)) rfl), Lib.hid (Only.refl _ _)⟩
                case round =>
                  clear HCk
                  obtain ⟨j, hj, rfl, HCj, HOj⟩ := hrel
                  have hO5 := HOk.out.trans HOj.out
                  have hokj : Only (fun b => b = bm) w wr := HO4.out.then_ hO5 (fun b hb e => by have e : b = bc := e; omega)
                  have hbmc : bm ≠ bc := by omega
                  have hBj : Book wr bm (n + g.cnt s c x) (g.bk s c x) := HB4.out.kept (hO5.block bm HB4.out.lt hbmc)
                  obtain ⟨wj, hwj⟩ : ∃ x, x = wr := ⟨_, rfl⟩
                  subst hwj
                  by_cases hlj : j < tl
                  · -- QB sels
                    obtain ⟨ba, oa, rfl, y0⟩ := (HTI.out.keeps (HKW.out wj hokj)).at_ hlj
                    have hin := (HV.out.tabs i hi2).ins j (by rw [← HTL.out]; exact hlj)
                    have hil := in_lt HV.out hi2 (j := j) (by rw [← HTL.out]; exact hlj)
                    rw [HPRE.out] at hil
                    obtain ⟨m, hm⟩ : ∃ m : Nat, g.tw i j = (m : Int) := ⟨(g.tw i j).toNat, by omega⟩
                    have HNX : Hid (((g.sel s (c - 1) (g.tw i j).toNat : Nat) : Int) = ((g.sel s (c - 1) m : Nat) : Int)) := Lib.hid (by rw [hm, Int.toNat_natCast])
                    rw [hm, Int.toNat_natCast] at hil
                    rw [hm] at y0
                    clear hm hin
                    have ewc : IntKind.i64.wrap ((c : Int) - 1) = ((c - 1 : Nat) : Int) := by rw [IntKind.wrap_i64]; omega
                    have hmx : m ≤ 70368744177664 := by have := HXI.out; omega
                    have HXJ := Lib.hid (HKP.out wj hokj).1
                    have HBJ := Lib.hid hBj; have HOKJ := Lib.hid hokj; have HO5 := Lib.hid hO5
                    clear hBj hokj hO5
                    go_wp2_with fail
                    refine (sel_any g a s (pre : Int) _ _ P bm _ (g.bk s c x) wj HXJ.out HBJ.out (c - 1) m (by omega) hmx).mono ?_
                    rintro e wt ⟨he, hwt⟩
                    rw [bk_sel (by omega)] at he
                    subst he; subst hwt
                    obtain ⟨sv, hsv⟩ : ∃ sv : Nat, sv = g.sel s (c - 1) m := ⟨_, rfl⟩
                    rw [← hsv] at HNX ⊢
                    have hc4 : j < 4 := by omega
                    have c4 : wt.cell? ⟨bc, j, none⟩ = some (.int .i64 0) := by
                      rw [Arr.cell HCj.out (k := j) (by omega)]
                      obtain h | h | h | h : j = 0 ∨ j = 1 ∨ j = 2 ∨ j = 3 := by omega
                      all_goals (subst h; simp [five])
                    have cz := Arr.thaw HCj.out j
                    clear y0 ewc hmx hil hsv
                    go_wp2_with fail
                    have h1 : CellAt (wt.setCell ⟨bc, j, none⟩ (.int .i64 (sv : Int))) bc (fun m => if m < j + 1 then ((g.sel s (c - 1) (g.tw i m).toNat : Nat) : Int) else 0) (bitsT tb tl 16 : Nat) :=
                      (CellAt.pick HCj.out hc4 (sv : Int)).congr (fun m _ => by
                        by_cases e : m = j
                        · subst e; rw [if_pos (by omega), if_pos rfl, HNX.out]
                        · rw [if_neg e]
                          by_cases h : m < j
                          · rw [if_pos h, if_pos (by omega)]
                          · rw [if_neg h, if_neg (by omega)]) rfl
                    have h2 := HOj.out.setCell (p := ⟨bc, j, none⟩) (fun _ => rfl) (.int .i64 (sv : Int))
                    clear c4 cz
                    go_roundw
                    case rel => exact ⟨j + 1, by omega, by go_num, Lib.hid h1, Lib.hid h2⟩
                    case measure => simp [intOf]; omega
                    -- QE sels
                  · obtain hjn : j = tl := by omega
                    rw [hjn] at HCj
                    obtain ⟨hcb, hcl⟩ := CB_tab (g := g) (s := s) hx2 HIN.out (by rw [HNUM.out]; exact hlt) (by rw [← HDX.out]; exact HDC.out) (by rw [HPRE.out]; exact hp)
                    rw [HXI.out, HPRE.out, Nat.add_sub_cancel_left, ← HXI.out, ← HTL.out] at hcb
                    have HCz : Hid (CellAt wj bc (g.CL s c (g.cnt s c x)) (g.CB s c (g.cnt s c x))) := Lib.hid (HCj.out.congr (fun m _ => by
                      rw [hcl m, HXI.out, HPRE.out, Nat.add_sub_cancel_left, ← HTL.out]
                      by_cases h : m < tl
                      · rw [if_pos h, if_pos h]
                      · rw [if_neg h, if_neg h]; rfl) (by rw [hcb, HTB.out]))
                    have HBz := Lib.hid hBj; have HOz := Lib.hid hokj
                    have HAz := Lib.hid (own_only HA4.out hO5 (fun b hb e => by have e : b = bc := e; have h2 := HAL.out b hb; have := HBC.out; omega))
                    obtain ⟨wz, hwz⟩ : ∃ x, x = wj := ⟨_, rfl⟩
                    subst hwz
                    clear hcb hcl hBj hokj hO5 hjn hj HCj HOj HOk
                    go_upto_region 22 with (fail)
                    clear hlj
                    obtain ⟨N, hN⟩ : ∃ N, N = g.cnt s c x := ⟨_, rfl⟩
                    rw [← hN] at hcR HCN HCz HAz HBz ⊢
                    obtain ⟨hxz, _, _⟩ := HKP.out wz HOz.out
                    obtain ⟨⟨x0, x1, x2, x3, x4⟩, ⟨x8, x9⟩, x10, x11, x12, x13⟩ := pl_cell hxz
                    rw [hR] at x8
                    have ewl : IntKind.i64.wrap (2 + (N : Int)) = 2 + (N : Int) := by rw [IntKind.wrap_i64]; omega
                    have HNN := Lib.hid hN
                    clear hN hxz x0 x1 x2 x3 x4 x9 x10 x11 x12
                    go_upto_region 23 with (at_mapUpdate; refine wpList_book rfl (.tmp 129) (.tmp 132) (.tmp 135) rfl HBz.out (by unfold maxLen; omega) (c := c) (y := x) (by omega) (by omega) (z := 2 + (N : Int)) (wf_of (by omega) (by omega)) rfl rfl rfl ?_; intro wm hBm hOm)
                    have hAm := own_only HAz.out hOm (fun b hb e => by have e : b = bm := e; have := own_base HAz.out b hb; omega)
                    have hCm : CellAt wm bc (g.CL s c N) (g.CB s c N) := Arr.only HCz.out hOm (by have := HOz.out.size; have := HBC.out; show ¬ bc = bm; omega)
                    have HOm := Lib.hid (HOz.out.trans hOm)
                    have HBm : Hid (Book wm bm (n + (N + 1)) (g.bk s c (x + 1))) := Lib.hid (hBm.congr (fun c' x' _ _ => by
                      rw [bk_put hx2, sel_in hx2 (by omega) (by rw [HNUM.out]; exact hlt) HIN.out, ← HNN.out]
                      push_cast; rfl))
                    obtain ⟨c0, c1, c2, c3, c4⟩ := CellAt.read hCm
                    have HAm := Lib.hid hAm
                    clear hBm hAm hCm hOm ewl x8 x13
                    have hszm := HOm.out.size
                    go_upto_region 24 with (at_builtin; refine wp_append rfl (.tmp 136) (.tmp 138) _ rfl elCells w.heap.size A N cA _ rfl (HAm.out.alloc _) _ 1 1 _ rfl (src_news wm #[.int .i64 (g.CL s c N 0), .int .i64 (g.CL s c N 1), .int .i64 (g.CL s c N 2), .int .i64 (g.CL s c N 3), .int .i64 (g.CB s c N)] _ 5 1 rfl (five_oneCell (g.CL s c N) (g.CB s c N))) (by omega) (sz_alloc hszm) ?_; intro A2 c2' w8 ho hk' hb')
                    have hal : Below wm.heap.size wm (wm.alloc (.cells #[.int .i64 (g.CL s c N 0), .int .i64 (g.CL s c N 1), .int .i64 (g.CL s c N 2), .int .i64 (g.CL s c N 3), .int .i64 (g.CB s c N)] 74)) := (Below.refl _ _).alloc (Nat.le_refl _) _
                    have hO8 : Only (fun b => b = bm) w w8 := (HOm.out.call hal).then_ hk' (fun b hb e => by have := own_base HAm.out b e; omega)
                    have HA8 : Hid (w8.ownsRow w.heap.size 74 5 (.slice A2 (N + 1) c2') (N + 1) (flatF 5 (fun k => five (fun m => .int .i64 (g.CL s c k m)) (.int .i64 (g.CB s c k))) (N + 1))) := Lib.hid (by
                      have hf := five_flat (g.CL s c) (g.CB s c) N
                      show w8.ownsRow w.heap.size 74 5 (.slice A2 (N + 1) c2') (N + 1) (flatF 5 _ N ++ (List.range 5).map _)
                      rw [hf]; exact ho)
                    have HB8 : Hid (Book w8 bm (n + (N + 1)) (g.bk s c (x + 1))) := Lib.hid (HBm.out.kept ((hk'.block bm (Nat.lt_of_lt_of_le HBm.out.lt hal.size) (fun e => by have := own_base HAm.out bm e; omega)).trans (hal.block bm HBm.out.lt)))
                    obtain ⟨hxz, _, _⟩ := HKP.out w8 hO8
                    obtain ⟨_, ⟨x8, _⟩, _⟩ := pl_cell hxz
                    rw [hR] at x8
                    have HO8 := Lib.hid hO8
                    clear hal hO8 hxz ho hk' hb' c0 c1 c2 c3 c4 HBm HAm HOm hszm
                    by_cases hfull : N + 1 ≤ R
                    · go_wp2_with fail
                      clear x8
                      go_roundw
                      case rel => exact ⟨x + 1, A2, c2', ⟨by omega, by omega, by rw [HCN.out]; exact hfull⟩, by go_num, by rw [HCN.out], by rw [HCN.out]; exact HA8, by rw [HCN.out]; exact HB8, HO8⟩
                      case measure => simp [intOf]; omega
                    · go_wp2_with fail
                      go_ret2
                      refine ⟨.inr ⟨fun h => ?_, rfl⟩, HO8.out⟩
                      have h2 := cnt_mono g s c (show x + 1 ≤ nv by omega)
                      rw [HCN.out] at h2
                      omega
          · -- QB pass
            have hnd : ¬ (g.D x = (c : Int) ∧ g.pre ≤ x) := fun h => hD (by rw [HDX.out]; exact h.1)
            obtain ⟨hcb, hcl⟩ := CB_pass (g := g) (s := s) hx2 HIN.out (by rw [HNUM.out]; exact hlt) hnd
            have HCB := Lib.hid hcb; have HCL2 := Lib.hid hcl
            have hq7 : (dx == (c : Int)) = false := by simpa using hD
            have hbcw : w.heap.size ≤ bc := by have := HBC.out; omega
            have hbmc : bm ≠ bc := by omega
            clear hnd hcb hcl
            obtain ⟨_, _, _, _, c4⟩ := CellAt.read HCL.out
            have cz := Arr.thaw HCL.out 4
            have ewc : IntKind.i64.wrap ((c : Int) - 1) = ((c - 1 : Nat) : Int) := by rw [IntKind.wrap_i64]; omega
            go_wp2_with fail
            clear c4 cz x0 x1 x2 x3 x4 x8 x9 x10 x11 x12 x13 d0 ewc hq7
            have h1 := CellAt.bits HCL.out 43690
            have hk1 : Only (fun b => b = bc) w2 (w2.setCell ⟨bc, 4, none⟩ (.int .i64 43690)) := Only.setCell (p := ⟨bc, 4, none⟩) (Only.refl (fun b => b = bc) w2) (fun _ => rfl) _
            have HC4 := Lib.hid h1
            have HB4 := Lib.hid (HB3.out.kept (hk1.block bm HB3.out.lt hbmc))
            have HO4 : Hid (Only (fun b => b = bm) w (w2.setCell ⟨bc, 4, none⟩ (.int .i64 43690))) := Lib.hid (HO3.out.then_ hk1 (fun b hb e => by have e : b = bc := e; omega))
            have HA4 := Lib.hid (own_only HA3.out hk1 (fun b hb e => by have e : b = bc := e; have h2 := HAL.out b hb; have := HBC.out; omega))
            clear h1 hk1
            generalize w2.setCell ⟨bc, 4, none⟩ (.int .i64 43690) = w4 at *
            refine (sel_any g a s (pre : Int) _ _ P bm _ (g.bk s c x) w4 (HKP.out w4 HO4.out).1 HB4.out (c - 1) x (by omega) (by omega)).mono ?_
            rintro e wt ⟨he, hwt⟩
            rw [bk_sel (by omega)] at he
            subst he; subst hwt
            have c0 := (CellAt.read HC4.out).1
            have cz := Arr.thaw HC4.out 0
            obtain ⟨sv, hsv⟩ : ∃ sv : Nat, sv = g.sel s (c - 1) x := ⟨_, rfl⟩
            rw [← hsv] at HCL2 ⊢
            clear hsv
            go_upto_region 22 with (fail)
            clear c0 cz
            have hk2 : Only (fun b => b = bc) wt (wt.setCell ⟨bc, 0, none⟩ (.int .i64 (sv : Int))) := Only.setCell (p := ⟨bc, 0, none⟩) (Only.refl (fun b => b = bc) wt) (fun _ => rfl) _
            have HCz : Hid (CellAt (wt.setCell ⟨bc, 0, none⟩ (.int .i64 (sv : Int))) bc (g.CL s c (g.cnt s c x)) (g.CB s c (g.cnt s c x))) := Lib.hid ((CellAt.pick HC4.out (k := 0) (by omega) (sv : Int)).congr (fun m _ => by
              rw [HCL2.out m]
              by_cases e : m = 0
              · rw [if_pos e, if_pos e]
              · rw [if_neg e, if_neg e]; rfl) HCB.out)
            have HBz := Lib.hid (HB4.out.kept (hk2.block bm HB4.out.lt hbmc))
            have HOz : Hid (Only (fun b => b = bm) w (wt.setCell ⟨bc, 0, none⟩ (.int .i64 (sv : Int)))) := Lib.hid (HO4.out.then_ hk2 (fun b hb e => by have e : b = bc := e; omega))
            have HAz := Lib.hid (own_only HA4.out hk2 (fun b hb e => by have e : b = bc := e; have h2 := own_lt HA4.out b hb; have h3 := HAL.out b (hb); have := HBC.out; omega))
            clear hk2 HC4 HB4 HO4 HA4 HCB HCL2
            generalize wt.setCell ⟨bc, 0, none⟩ (.int .i64 (sv : Int)) = wz at *
            obtain ⟨N, hN⟩ : ∃ N, N = g.cnt s c x := ⟨_, rfl⟩
            rw [← hN] at hcR HCN HCz HAz HBz ⊢
            obtain ⟨hxz, _, _⟩ := HKP.out wz HOz.out
            obtain ⟨⟨x0, x1, x2, x3, x4⟩, ⟨x8, x9⟩, x10, x11, x12, x13⟩ := pl_cell hxz
            rw [hR] at x8
            have ewl : IntKind.i64.wrap (2 + (N : Int)) = 2 + (N : Int) := by rw [IntKind.wrap_i64]; omega
            have HNN := Lib.hid hN
            clear hN hxz x0 x1 x2 x3 x4 x9 x10 x11 x12
            go_upto_region 23 with (at_mapUpdate; refine wpList_book rfl (.tmp 129) (.tmp 132) (.tmp 135) rfl HBz.out (by unfold maxLen; omega) (c := c) (y := x) (by omega) (by omega) (z := 2 + (N : Int)) (wf_of (by omega) (by omega)) rfl rfl rfl ?_; intro wm hBm hOm)
            have hAm := own_only HAz.out hOm (fun b hb e => by have e : b = bm := e; have := own_base HAz.out b hb; omega)
            have hCm : CellAt wm bc (g.CL s c N) (g.CB s c N) := Arr.only HCz.out hOm (by have := HOz.out.size; have := HBC.out; show ¬ bc = bm; omega)
            have HOm := Lib.hid (HOz.out.trans hOm)
            have HBm : Hid (Book wm bm (n + (N + 1)) (g.bk s c (x + 1))) := Lib.hid (hBm.congr (fun c' x' _ _ => by
              rw [bk_put hx2, sel_in hx2 (by omega) (by rw [HNUM.out]; exact hlt) HIN.out, ← HNN.out]
              push_cast; rfl))
            obtain ⟨c0, c1, c2, c3, c4⟩ := CellAt.read hCm
            have HAm := Lib.hid hAm
            clear hBm hAm hCm hOm ewl x8 x13
            have hszm := HOm.out.size
            go_upto_region 24 with (at_builtin; refine wp_append rfl (.tmp 136) (.tmp 138) _ rfl elCells w.heap.size A N cA _ rfl (HAm.out.alloc _) _ 1 1 _ rfl (src_news wm #[.int .i64 (g.CL s c N 0), .int .i64 (g.CL s c N 1), .int .i64 (g.CL s c N 2), .int .i64 (g.CL s c N 3), .int .i64 (g.CB s c N)] _ 5 1 rfl (five_oneCell (g.CL s c N) (g.CB s c N))) (by omega) (sz_alloc hszm) ?_; intro A2 c2' w8 ho hk' hb')
            have hal : Below wm.heap.size wm (wm.alloc (.cells #[.int .i64 (g.CL s c N 0), .int .i64 (g.CL s c N 1), .int .i64 (g.CL s c N 2), .int .i64 (g.CL s c N 3), .int .i64 (g.CB s c N)] 74)) := (Below.refl _ _).alloc (Nat.le_refl _) _
            have hO8 : Only (fun b => b = bm) w w8 := (HOm.out.call hal).then_ hk' (fun b hb e => by have := own_base HAm.out b e; omega)
            have HA8 : Hid (w8.ownsRow w.heap.size 74 5 (.slice A2 (N + 1) c2') (N + 1) (flatF 5 (fun k => five (fun m => .int .i64 (g.CL s c k m)) (.int .i64 (g.CB s c k))) (N + 1))) := Lib.hid (by
              have hf := five_flat (g.CL s c) (g.CB s c) N
              show w8.ownsRow w.heap.size 74 5 (.slice A2 (N + 1) c2') (N + 1) (flatF 5 _ N ++ (List.range 5).map _)
              rw [hf]; exact ho)
            have HB8 : Hid (Book w8 bm (n + (N + 1)) (g.bk s c (x + 1))) := Lib.hid (HBm.out.kept ((hk'.block bm (Nat.lt_of_lt_of_le HBm.out.lt hal.size) (fun e => by have := own_base HAm.out bm e; omega)).trans (hal.block bm HBm.out.lt)))
            obtain ⟨hxz, _, _⟩ := HKP.out w8 hO8
            obtain ⟨_, ⟨x8, _⟩, _⟩ := pl_cell hxz
            rw [hR] at x8
            have HO8 := Lib.hid hO8
            clear hal hO8 hxz ho hk' hb' c0 c1 c2 c3 c4 HBm HAm HOm hszm
            by_cases hfull : N + 1 ≤ R
            · go_wp2_with fail
              clear x8
              go_roundw
              case rel => exact ⟨x + 1, A2, c2', ⟨by omega, by omega, by rw [HCN.out]; exact hfull⟩, by go_num, by rw [HCN.out], by rw [HCN.out]; exact HA8, by rw [HCN.out]; exact HB8, HO8⟩
              case measure => simp [intOf]; omega
            · go_wp2_with fail
              go_ret2
              refine ⟨.inr ⟨fun h => ?_, rfl⟩, HO8.out⟩
              have h2 := cnt_mono g s c (show x + 1 ≤ nv by omega)
              rw [HCN.out] at h2
              omega
            -- QE pass
    · -- QB end
      obtain rfl : nv = x := by omega
      clear x0 x1 x2 x3 x4 x8 x9 x10 x12 x13 hDk hLk hxk
      obtain ⟨N, hN⟩ : ∃ N, N = g.cnt s c nv := ⟨_, rfl⟩
      have HNN := Lib.hid hN
      rw [← hN] at hcR HA HB ⊢
      have HF : Hid (∀ k, flatF 5 (fun k => five (fun m => .int .i64 (if k < N then g.CL s c k m else 0)) (.int .i64 (if k < N then g.CB s c k else 0))) (k + 1) = flatF 5 (fun k => five (fun m => .int .i64 (if k < N then g.CL s c k m else 0)) (.int .i64 (if k < N then g.CB s c k else 0))) k ++ [.int .i64 (if k < N then g.CL s c k 0 else 0), .int .i64 (if k < N then g.CL s c k 1 else 0), .int .i64 (if k < N then g.CL s c k 2 else 0), .int .i64 (if k < N then g.CL s c k 3 else 0), .int .i64 (if k < N then g.CB s c k else 0)]) :=
        Lib.hid (fun k => by
          show flatF 5 _ k ++ (List.range 5).map _ = _
          rw [← five_flat (fun k m => if k < N then g.CL s c k m else 0) (fun k => if k < N then g.CB s c k else 0) k])
      obtain ⟨FV, hFV⟩ : ∃ FV : Nat → Nat → Value, FV = fun k => five (fun m => .int .i64 (if k < N then g.CL s c k m else 0)) (.int .i64 (if k < N then g.CB s c k else 0)) := ⟨_, rfl⟩
      rw [← hFV] at HF
      have HFV := Lib.hid hFV
      have HA0 : Hid (wo.ownsRow w.heap.size 74 5 (.slice A N cA) N (flatF 5 FV N)) := Lib.hid (by
        rw [flatF_congr (g := (fun k => five (fun m => .int .i64 (g.CL s c k m)) (.int .i64 (g.CB s c k)))) N (fun k hk j hj => by rw [hFV]; simp only [if_pos hk])]; exact HA.out)
      clear hN hFV HA
      go_wp2_with fail
      clear x11
      go_loopw [6] (fun vA wr => ∃ (k : Nat) (A : Option Addr) (cA : Nat), (N ≤ k ∧ k ≤ R) ∧ vA = .slice A k cA ∧ Hid (wr.ownsRow w.heap.size 74 5 (.slice A k cA) k (flatF 5 FV k)) ∧ Hid (Book wr bm (n + N) (g.bk s c nv)) ∧ Hid (Only (fun b => b = bm) w wr)) (fun vA _ => R - lenOf vA)
      case atStart => exact ⟨N, A, cA, ⟨by omega, hcR⟩, rfl, HA0, HB, HO⟩
      case round =>
        clear HA0 HB HO
        obtain ⟨k, A, cA, ⟨hNk, hkR⟩, rfl, HA, HB, HO⟩ := hrel
        obtain ⟨wo, hwo⟩ : ∃ x, x = wr := ⟨_, rfl⟩
        subst hwo
        obtain ⟨hxk, _, _⟩ := HKP.out wo HO.out
        obtain ⟨_, ⟨x8, _⟩, _⟩ := pl_cell hxk
        rw [hR] at x8
        clear hxk
        have hszm := HO.out.size
        by_cases hlt : k < R
        · go_wp2_with (at_builtin; refine wp_append rfl (.tmp 156) (.tmp 158) _ rfl elCells w.heap.size A k cA _ rfl (HA.out.alloc _) _ 1 1 _ rfl (src_news wo #[.int .i64 0, .int .i64 0, .int .i64 0, .int .i64 0, .int .i64 0] _ 5 1 rfl (by intro u hu; simp at hu; subst hu; rfl)) (by omega) (sz_alloc hszm) ?_; intro A2 c2' w8 ho hk' hb')
          have hal : Below wo.heap.size wo (wo.alloc (.cells #[.int .i64 0, .int .i64 0, .int .i64 0, .int .i64 0, .int .i64 0] 74)) := (Below.refl _ _).alloc (Nat.le_refl _) _
          have hO8 : Only (fun b => b = bm) w w8 := (HO.out.call hal).then_ hk' (fun b hb e => by have := own_base HA.out b e; omega)
          have HB8 : Hid (Book w8 bm (n + N) (g.bk s c nv)) := Lib.hid (HB.out.kept ((hk'.block bm (Nat.lt_of_lt_of_le HB.out.lt hal.size) (fun e => by have := own_base HA.out bm e; omega)).trans (hal.block bm HB.out.lt)))
          have HA8 : Hid (w8.ownsRow w.heap.size 74 5 (.slice A2 (k + 1) c2') (k + 1) (flatF 5 FV (k + 1))) := Lib.hid (by
            rw [HF.out k]; simp only [if_neg (show ¬ k < N by omega)]; exact ho)
          clear ho hk' hb' hal x8
          go_roundw
          case rel => exact ⟨k + 1, A2, c2', ⟨by omega, by omega⟩, by go_num, HA8, HB8, Lib.hid hO8⟩
          case measure => simp [lenOf]; omega
        · obtain rfl : R = k := by omega
          go_wp2_with fail
          go_ret2
          refine ⟨.inl ⟨by rw [← HNN.out]; exact hcR, A, cA, rfl, ?_, ?_⟩, HO.out⟩
          · have h := own_flat HA.out
            rw [HFV.out] at h
            rw [← HNN.out]; exact h
          · refine (HB.out.congr (fun c' x' _ _ => bk_next (fun y hy hy2 => sel_out hy2 (by omega) (fun h3 => by have := HNUM.out; omega)) c' x')).mono ?_
            omega
      -- QE end
end Go.Proofs.YtlmcbhmaccncbaaDoor
