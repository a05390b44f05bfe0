/- The reference's Encode, walked. Condition: the configuration lies in memory and is valid. -/
import Derived.Test.YtbnjbclkmjjkhaaDoorEnW
namespace Go.Proofs.YtbnjbclkmjjkhaaDoor
open Go.RowKit Go.Shelf Go.Deep

theorem refPut_int (base bp : Nat) (L : List Bool) (A : Option Addr) (c : Nat) (v n : Int) (w : World) (hP : Strm base w bp L A c) (h0 : 0 ≤ v) (hv : v < 4611686018427387904) (hn0 : 0 ≤ n) (hn : n ≤ 62) (hL : L.length ≤ 1000000000) (hb : base ≤ w.heap.size) :
    Calls Tryd.prog 13 #[.pointer (some ⟨bp, 0, none⟩), .int .i64 v, .int .i64 n] w fun e w' => (∃ x, e = .returned x) ∧ (∃ A' c', Strm base w' bp (L ++ bitsOf v.toNat n.toNat) A' c') ∧ Only (PutS base bp w) w w' := by
  have h := refPut_any base bp L A c v.toNat n.toNat w hP (by omega) (by omega) hL hb
  rwa [show ((v.toNat : Nat) : Int) = v by omega, show ((n.toNat : Nat) : Int) = n by omega] at h
theorem heap_puts {base bp : Nat} {W W' : World} (h : Only (PutS base bp W) W W') {B : Nat} {cur : Array Value} {t : TypeId} {z : Nat × Nat} (hb : W.heap[B]? = some (.cells cur t z)) (hne : B ≠ bp) (ht : t ≠ 5) : W'.heap[B]? = some (.cells cur t z) :=
  (h.block B (Array.getElem?_eq_some_iff.1 hb).1 (fun hs => by
    rcases hs with e | ⟨_, cur', z', hc⟩
    · exact hne e
    · rw [hb] at hc; injection hc with hc; injection hc with _ h2; exact ht h2)).trans hb
theorem heap_below {W W' : World} (h : Below W.heap.size W W') {B : Nat} {o : Obj} (hb : W.heap[B]? = some o) : W'.heap[B]? = some o := (h.block B (Array.getElem?_eq_some_iff.1 hb).1).trans hb
/-- append of bytes at a step of a statement that draws its order -/
theorem step_append_b {w : World} {ops : Array Oper} {o : Oper} {a : Act} {K : Act → World → Prop} {Q : Exit → Act → World → Prop} {E : Prop} (hgd : o.guard = none) (s x : Operand)
    (ho : o.op = .call { callee := .builtin .append, args := #[s, x], argTypes := #[22, 22] })
    (base : Nat) (A : Option Addr) (n c : Nat) (xs : List Value) (hs : a.eval s = .slice A n c) (hown : OwnB base w A n c xs)
    (D : Option Addr) (m d : Nat) (news : List Value) (hx : a.eval x = .slice D m d) (hsrc : Src w 1 D m news)
    (hbytes : n + m ≤ 140737488355328) (hbase : base ≤ w.heap.size)
    (h : ∀ A' c' w', OwnB base w' A' (n + m) c' (xs ++ news) → Only (blockOf A) w w' → (∀ k, blockOf A' k → blockOf A k ∨ k = w.heap.size) → K (a.put o.dst (.slice A' (n + m) c')) w') :
    if Region.wanted o (yielded ops a.tmps) = true then Oper.wp Tryd.prog o a w K Q else E := by
  have hw : Region.wanted o (yielded ops a.tmps) = true := by simp [Region.wanted, hgd]
  rw [if_pos hw]
  obtain ⟨A', c', w', hr, h2, h3, h4⟩ := run_append_b o.type hown D m d news hsrc hbytes hbase
  unfold Oper.wp execOp
  simp only [ho, resolve, invoke, builtin, Sem.run_bind, Sem.run_pure, Result.andThen_ok, List.map_toArray, List.map_cons, List.map_nil, hs, hx, hr]
  exact h A' c' w' h2 h3 h4
/-- what stays while bits are written -/
structure Cf.Env (c : Cf) (AC AR AO : Option Addr) (w W : World) : Prop where
  bel : Below w.heap.size w W
  cfg : W.heap[w.heap.size]? = some (.cells #[.int .i64 (c.sh 0), .int .i64 (c.sh 1), .int .i64 (c.sh 2), .int .i64 (c.sh 3), .int .i64 (c.sh 4), .slice AC c.nc c.cC, .slice AR c.nr c.cR, .slice AO c.no c.cO] 31 (0, 0))
  shp : W.heap[w.heap.size + 1 + 1 + 1]? = some (.cells #[.int .i64 (c.sh 0), .int .i64 (c.sh 1), .int .i64 (c.sh 2), .int .i64 (c.sh 3), .int .i64 (c.sh 4)] 26 (0, 0))
theorem Cf.Env.puts {c : Cf} {AC AR AO : Option Addr} {w W W' : World} (h : c.Env AC AR AO w W) (k : Only (PutS w.heap.size (w.heap.size + 1 + 1) W) W W') : c.Env AC AR AO w W' :=
  ⟨h.bel.trans (below_puts k (Nat.le_refl _) (by omega) h.bel.size), heap_puts k h.cfg (by omega) (by decide), heap_puts k h.shp (by omega) (by decide)⟩
theorem Cf.Env.below {c : Cf} {AC AR AO : Option Addr} {w W W' : World} (h : c.Env AC AR AO w W) (k : Below W.heap.size W W') : c.Env AC AR AO w W' :=
  ⟨h.bel.trans (k.mono h.bel.size), heap_below k h.cfg, heap_below k h.shp⟩
theorem Cf.Env.q5 {c : Cf} {AC AR AO : Option Addr} {w W : World} (h : c.Env AC AR AO w W) : W.cell? ⟨w.heap.size, 5, none⟩ = some (.slice AC c.nc c.cC) := by rw [cell_of_row W _ 5 _ _ _ h.cfg]; rfl
theorem Cf.Env.q6 {c : Cf} {AC AR AO : Option Addr} {w W : World} (h : c.Env AC AR AO w W) : W.cell? ⟨w.heap.size, 6, none⟩ = some (.slice AR c.nr c.cR) := by rw [cell_of_row W _ 6 _ _ _ h.cfg]; rfl
theorem Cf.Env.q7 {c : Cf} {AC AR AO : Option Addr} {w W : World} (h : c.Env AC AR AO w W) : W.cell? ⟨w.heap.size, 7, none⟩ = some (.slice AO c.no c.cO) := by rw [cell_of_row W _ 7 _ _ _ h.cfg]; rfl
theorem Cf.Env.s {c : Cf} {AC AR AO : Option Addr} {w W : World} (h : c.Env AC AR AO w W) : W.cell? ⟨w.heap.size + 1 + 1 + 1, 0, none⟩ = some (.int .i64 (c.sh 0)) ∧ W.cell? ⟨w.heap.size + 1 + 1 + 1, 1, none⟩ = some (.int .i64 (c.sh 1)) ∧ W.cell? ⟨w.heap.size + 1 + 1 + 1, 2, none⟩ = some (.int .i64 (c.sh 2)) ∧ W.cell? ⟨w.heap.size + 1 + 1 + 1, 3, none⟩ = some (.int .i64 (c.sh 3)) ∧ W.cell? ⟨w.heap.size + 1 + 1 + 1, 4, none⟩ = some (.int .i64 (c.sh 4)) := by
  refine ⟨?_, ?_, ?_, ?_, ?_⟩
  · rw [cell_of_row W _ 0 _ _ _ h.shp]; rfl
  · rw [cell_of_row W _ 1 _ _ _ h.shp]; rfl
  · rw [cell_of_row W _ 2 _ _ _ h.shp]; rfl
  · rw [cell_of_row W _ 3 _ _ _ h.shp]; rfl
  · rw [cell_of_row W _ 4 _ _ _ h.shp]; rfl
/-- the fields from i0 on are few -/
theorem Cf.part_len {c : Cf} (h : c.Ok) {l : List Fi} (hl : l <+: c.flds) : (c.shB 5 ++ c.enc l).length ≤ 1000000000 := by
  have h1 := c.enc_len h.d.sh l
  have h2 := Cf.flds_len h.d
  have h3 := hl.length_le
  rw [List.length_append, Cf.shB_len]; omega
theorem Cf.enc_snoc (c : Cf) (H : List Bool) (l : List Fi) (x : Fi) {b : List Bool} (hb : c.fbits x = b) : (H ++ c.enc l) ++ b = H ++ c.enc (l ++ [x]) := by
  rw [c.enc_append, c.enc_one, hb, List.append_assoc]

set_option maxRecDepth 100000 in
set_option maxHeartbeats 16000000 in
theorem refEncode_any (c : Cf) (AC AR AO : Option Addr) (w : World) (hc : c.At w) (hf : c.Fits) (hok : c.Ok) (eC : c.AC = AC) (eR : c.AR = AR) (eO : c.AO = AO) :
    Calls Tryd.prog 6 #[.agg #[.int .i64 (c.sh 0), .int .i64 (c.sh 1), .int .i64 (c.sh 2), .int .i64 (c.sh 3), .int .i64 (c.sh 4), .slice AC c.nc c.cC, .slice AR c.nr c.cR, .slice AO c.no c.cO]] w fun e w' => (∃ A' c', e = .returned (.slice A' c.text.length c') ∧ Byt w.heap.size w' A' c' c.text) ∧ Below w.heap.size w w' := by
  have HC := Lib.hid hc; have HFT := Lib.hid hf; have HOK := Lib.hid hok; have EC := Lib.hid eC; have ER := Lib.hid eR; have EO := Lib.hid eO
  have h0 := hok.d.sh.s0; have h1 := hok.d.sh.s1; have h2 := hok.d.sh.s2; have h3 := hok.d.sh.s3; have h4 := hok.d.sh.s4
  have f1 := hf.b1; have f3 := hf.b3; have f4 := hf.b4
  have hb0 := (Below.refl w.heap.size w).alloc (Nat.le_refl _) (.cells #[.int .i64 (c.sh 0), .int .i64 (c.sh 1), .int .i64 (c.sh 2), .int .i64 (c.sh 3), .int .i64 (c.sh 4), .slice AC c.nc c.cC, .slice AR c.nr c.cR, .slice AO c.no c.cO] 31)
  have hz0 : (w.alloc (.cells #[.int .i64 (c.sh 0), .int .i64 (c.sh 1), .int .i64 (c.sh 2), .int .i64 (c.sh 3), .int .i64 (c.sh 4), .slice AC c.nc c.cC, .slice AR c.nr c.cR, .slice AO c.no c.cO] 31)).heap.size = w.heap.size + 1 := by simp
  have hg0 := heap_alloc_new w (.cells #[.int .i64 (c.sh 0), .int .i64 (c.sh 1), .int .i64 (c.sh 2), .int .i64 (c.sh 3), .int .i64 (c.sh 4), .slice AC c.nc c.cC, .slice AR c.nr c.cR, .slice AO c.no c.cO] 31)
  have hcv : (convert 22 22 (.slice (some ⟨w.heap.size + 1, 0, none⟩) 4 4)).run Tryd.prog ((w.alloc (.cells #[.int .i64 (c.sh 0), .int .i64 (c.sh 1), .int .i64 (c.sh 2), .int .i64 (c.sh 3), .int .i64 (c.sh 4), .slice AC c.nc c.cC, .slice AR c.nr c.cR, .slice AO c.no c.cO] 31)).alloc (.cells #[.int .u8 71, .int .u8 87, .int .u8 66, .int .u8 49] 5)) = .ok (.slice (some ⟨w.heap.size + 1, 0, none⟩) 4 4) ((w.alloc (.cells #[.int .i64 (c.sh 0), .int .i64 (c.sh 1), .int .i64 (c.sh 2), .int .i64 (c.sh 3), .int .i64 (c.sh 4), .slice AC c.nc c.cC, .slice AR c.nr c.cR, .slice AO c.no c.cO] 31)).alloc (.cells #[.int .u8 71, .int .u8 87, .int .u8 66, .int .u8 49] 5 (4, 5))) := by
    have := Go.Lib.run_convert_bytes_const (P := Tryd.prog) (w.alloc (.cells #[.int .i64 (c.sh 0), .int .i64 (c.sh 1), .int .i64 (c.sh 2), .int .i64 (c.sh 3), .int .i64 (c.sh 4), .slice AC c.nc c.cC, .slice AR c.nr c.cR, .slice AO c.no c.cO] 31)) 22 5 #[.int .u8 71, .int .u8 87, .int .u8 66, .int .u8 49] 4 4 Tryd.underlying22 Tryd.underlying5
    rw [hz0] at this
    exact this
  have HSR := Lib.hid (c.src_le hok.d.sh)
  clear eC eR eO hc hf hok
  go_enter Tryd.func6, Tryd.ntmps6
  go_wp2_with fail
  clear hcv
  have hpt : packB magicL = [71, 87, 66, 49] := magic_pack
  have hrow1 := Byt.marked w.heap.size (w.alloc (.cells #[.int .i64 (c.sh 0), .int .i64 (c.sh 1), .int .i64 (c.sh 2), .int .i64 (c.sh 3), .int .i64 (c.sh 4), .slice AC c.nc c.cC, .slice AR c.nr c.cR, .slice AO c.no c.cO] 31)) [71, 87, 66, 49] 4 rfl (by simp) (by simp)
  rw [hz0, show (Lib.byteCells [71, 87, 66, 49]).toArray = #[.int .u8 71, .int .u8 87, .int .u8 66, .int .u8 49] from rfl] at hrow1
  have hb1 := hb0.alloc (by omega) (.cells #[.int .u8 71, .int .u8 87, .int .u8 66, .int .u8 49] 5 (4, 5))
  have hg1 := heap_below ((Below.refl _ _).alloc (Nat.le_refl _) (.cells #[.int .u8 71, .int .u8 87, .int .u8 66, .int .u8 49] 5 (4, 5))) hg0
  have hz1 : ((w.alloc (.cells #[.int .i64 (c.sh 0), .int .i64 (c.sh 1), .int .i64 (c.sh 2), .int .i64 (c.sh 3), .int .i64 (c.sh 4), .slice AC c.nc c.cC, .slice AR c.nr c.cR, .slice AO c.no c.cO] 31)).alloc (.cells #[.int .u8 71, .int .u8 87, .int .u8 66, .int .u8 49] 5 (4, 5))).heap.size = w.heap.size + 1 + 1 := by simp
  clear hb0 hz0 hg0
  generalize (w.alloc (.cells #[.int .i64 (c.sh 0), .int .i64 (c.sh 1), .int .i64 (c.sh 2), .int .i64 (c.sh 3), .int .i64 (c.sh 4), .slice AC c.nc c.cC, .slice AR c.nr c.cR, .slice AO c.no c.cO] 31)).alloc (.cells #[.int .u8 71, .int .u8 87, .int .u8 66, .int .u8 49] 5 (4, 5)) = v1 at *
  have hbox2 : Arr (v1.alloc (.cells #[.slice (some ⟨w.heap.size + 1, 0, none⟩) 4 4, .int .i64 32, .int .i64 0, .bool false] 48)) v1.heap.size 48 4 (strV (some ⟨w.heap.size + 1, 0, none⟩) (nby magicL) 4 magicL.length) := (Arr.new v1 _ _).congr (fun j hj => by
    rw [magic_len, show nby magicL = 4 by unfold nby; rw [magic_len]]
    have hj' : j < 4 := hj
    obtain rfl | rfl | rfl | rfl : j = 0 ∨ j = 1 ∨ j = 2 ∨ j = 3 := by omega
    all_goals rfl)
  have hpen2 : Strm w.heap.size (v1.alloc (.cells #[.slice (some ⟨w.heap.size + 1, 0, none⟩) 4 4, .int .i64 32, .int .i64 0, .bool false] 48)) (w.heap.size + 1 + 1) magicL (some ⟨w.heap.size + 1, 0, none⟩) 4 := ⟨by rw [← hz1]; exact hbox2, by rw [hpt]; exact hrow1.alloc _⟩
  have hb2 := hb1.alloc (by omega) (.cells #[.slice (some ⟨w.heap.size + 1, 0, none⟩) 4 4, .int .i64 32, .int .i64 0, .bool false] 48)
  have hg2 := heap_below ((Below.refl _ _).alloc (Nat.le_refl _) (.cells #[.slice (some ⟨w.heap.size + 1, 0, none⟩) 4 4, .int .i64 32, .int .i64 0, .bool false] 48)) hg1
  have hz2 : (v1.alloc (.cells #[.slice (some ⟨w.heap.size + 1, 0, none⟩) 4 4, .int .i64 32, .int .i64 0, .bool false] 48)).heap.size = w.heap.size + 1 + 1 + 1 := by simp [hz1]
  clear hbox2 hrow1 hb1 hg1 hz1
  generalize v1.alloc (.cells #[.slice (some ⟨w.heap.size + 1, 0, none⟩) 4 4, .int .i64 32, .int .i64 0, .bool false] 48) = v2 at *
  have hs3 := heap_alloc_new v2 (.cells #[.int .i64 (c.sh 0), .int .i64 (c.sh 1), .int .i64 (c.sh 2), .int .i64 (c.sh 3), .int .i64 (c.sh 4)] 26)
  rw [hz2] at hs3
  have hbl3 : Below v2.heap.size v2 (v2.alloc (.cells #[.int .i64 (c.sh 0), .int .i64 (c.sh 1), .int .i64 (c.sh 2), .int .i64 (c.sh 3), .int .i64 (c.sh 4)] 26)) := (Below.refl _ _).alloc (Nat.le_refl _) _
  have hb3 := hb2.alloc (by omega) (.cells #[.int .i64 (c.sh 0), .int .i64 (c.sh 1), .int .i64 (c.sh 2), .int .i64 (c.sh 3), .int .i64 (c.sh 4)] 26)
  have hen3 : c.Env AC AR AO w (v2.alloc (.cells #[.int .i64 (c.sh 0), .int .i64 (c.sh 1), .int .i64 (c.sh 2), .int .i64 (c.sh 3), .int .i64 (c.sh 4)] 26)) := ⟨hb3, heap_below hbl3 hg2, hs3⟩
  have hpen3 := hpen2.below hbl3
  have hz3 : (v2.alloc (.cells #[.int .i64 (c.sh 0), .int .i64 (c.sh 1), .int .i64 (c.sh 2), .int .i64 (c.sh 3), .int .i64 (c.sh 4)] 26)).heap.size = w.heap.size + 1 + 1 + 1 + 1 := by simp [hz2]
  clear hb2 hbl3 hb3 hg2 hs3 hpen2 hz2
  generalize v2.alloc (.cells #[.int .i64 (c.sh 0), .int .i64 (c.sh 1), .int .i64 (c.sh 2), .int .i64 (c.sh 3), .int .i64 (c.sh 4)] 26) = v3 at *
  have hi4 := heap_alloc_new v3 (.cells #[.int .i64 (c.sh 0), .int .i64 (c.sh 1), .int .i64 (c.sh 2), .int .i64 (c.sh 3), .int .i64 (c.sh 4)] 3)
  rw [hz3] at hi4
  have hbl4 : Below v3.heap.size v3 (v3.alloc (.cells #[.int .i64 (c.sh 0), .int .i64 (c.sh 1), .int .i64 (c.sh 2), .int .i64 (c.sh 3), .int .i64 (c.sh 4)] 3)) := (Below.refl _ _).alloc (Nat.le_refl _) _
  have hen4 := hen3.below hbl4
  have hpen4 := hpen3.below hbl4
  clear hbl4 hen3 hpen3 hz3 hpt
  generalize v3.alloc (.cells #[.int .i64 (c.sh 0), .int .i64 (c.sh 1), .int .i64 (c.sh 2), .int .i64 (c.sh 3), .int .i64 (c.sh 4)] 3) = v4 at *
  have HI4 := Lib.hid hi4; have HE4 := Lib.hid hen4; have HP4 := Lib.hid hpen4
  clear hi4 hen4 hpen4
  go_loopw [6] (fun vi wr => ∃ (k : Nat) (A1 : Option Addr) (c1 : Nat), k ≤ 5 ∧ vi = .int .i64 k ∧ Hid (Strm w.heap.size wr (w.heap.size + 1 + 1) (c.shB k) A1 c1) ∧ Hid (c.Env AC AR AO w wr) ∧ Hid (wr.heap[w.heap.size + 1 + 1 + 1 + 1]? = some (.cells #[.int .i64 (c.sh 0), .int .i64 (c.sh 1), .int .i64 (c.sh 2), .int .i64 (c.sh 3), .int .i64 (c.sh 4)] 3 (0, 0)))) (fun vi _ => 5 - (intOf vi).toNat)
  case atStart => exact ⟨0, _, _, by omega, rfl, HP4, HE4, HI4⟩
  case round =>
    obtain ⟨k, A1, c1, hk, rfl, HST, HEN, HIR⟩ := hrel
    by_cases hlt : k < 5
    · obtain rfl | rfl | rfl | rfl | rfl : k = 0 ∨ k = 1 ∨ k = 2 ∨ k = 3 ∨ k = 4 := by omega
      · rw [show ((0 : Nat) : Int) = 0 from rfl]
        have y0 : wr.cell? ⟨w.heap.size + 1 + 1 + 1 + 1, 0, none⟩ = some (.int .i64 (c.sh 0)) := by rw [cell_of_row wr _ 0 _ _ _ HIR.out]; rfl
        go_wp2_with fail
        refine (refPut_int w.heap.size (w.heap.size + 1 + 1) (c.shB 0) A1 c1 (c.sh 0) 16 wr HST.out (by omega) (by omega) (by omega) (by omega) (by rw [Cf.shB_len]; omega) HEN.out.bel.size).mono ?_
        rintro e w5 ⟨⟨x5, rfl⟩, ⟨A5, c5, hp5⟩, ho5⟩
        have HP5 : Hid (Strm w.heap.size w5 (w.heap.size + 1 + 1) (c.shB 1) A5 c5) := Lib.hid hp5
        have HE5 := Lib.hid (HEN.out.puts ho5)
        have HI5 := Lib.hid (heap_puts ho5 HIR.out (by omega) (by decide))
        clear hp5 ho5 y0
        go_wp2_with fail
        go_roundw
        case rel => exact ⟨1, A5, c5, by omega, by first | rfl | go_num, HP5, HE5, HI5⟩
        case measure => simp [intOf]
      · rw [show ((1 : Nat) : Int) = 1 from rfl]
        have y0 : wr.cell? ⟨w.heap.size + 1 + 1 + 1 + 1, 1, none⟩ = some (.int .i64 (c.sh 1)) := by rw [cell_of_row wr _ 1 _ _ _ HIR.out]; rfl
        go_wp2_with fail
        refine (refPut_int w.heap.size (w.heap.size + 1 + 1) (c.shB 1) A1 c1 (c.sh 1) 16 wr HST.out (by omega) (by omega) (by omega) (by omega) (by rw [Cf.shB_len]; omega) HEN.out.bel.size).mono ?_
        rintro e w5 ⟨⟨x5, rfl⟩, ⟨A5, c5, hp5⟩, ho5⟩
        have HP5 : Hid (Strm w.heap.size w5 (w.heap.size + 1 + 1) (c.shB 2) A5 c5) := Lib.hid hp5
        have HE5 := Lib.hid (HEN.out.puts ho5)
        have HI5 := Lib.hid (heap_puts ho5 HIR.out (by omega) (by decide))
        clear hp5 ho5 y0
        go_wp2_with fail
        go_roundw
        case rel => exact ⟨2, A5, c5, by omega, by first | rfl | go_num, HP5, HE5, HI5⟩
        case measure => simp [intOf]
      · rw [show ((2 : Nat) : Int) = 2 from rfl]
        have y0 : wr.cell? ⟨w.heap.size + 1 + 1 + 1 + 1, 2, none⟩ = some (.int .i64 (c.sh 2)) := by rw [cell_of_row wr _ 2 _ _ _ HIR.out]; rfl
        go_wp2_with fail
        refine (refPut_int w.heap.size (w.heap.size + 1 + 1) (c.shB 2) A1 c1 (c.sh 2) 16 wr HST.out (by omega) (by omega) (by omega) (by omega) (by rw [Cf.shB_len]; omega) HEN.out.bel.size).mono ?_
        rintro e w5 ⟨⟨x5, rfl⟩, ⟨A5, c5, hp5⟩, ho5⟩
        have HP5 : Hid (Strm w.heap.size w5 (w.heap.size + 1 + 1) (c.shB 3) A5 c5) := Lib.hid hp5
        have HE5 := Lib.hid (HEN.out.puts ho5)
        have HI5 := Lib.hid (heap_puts ho5 HIR.out (by omega) (by decide))
        clear hp5 ho5 y0
        go_wp2_with fail
        go_roundw
        case rel => exact ⟨3, A5, c5, by omega, by first | rfl | go_num, HP5, HE5, HI5⟩
        case measure => simp [intOf]
      · rw [show ((3 : Nat) : Int) = 3 from rfl]
        have y0 : wr.cell? ⟨w.heap.size + 1 + 1 + 1 + 1, 3, none⟩ = some (.int .i64 (c.sh 3)) := by rw [cell_of_row wr _ 3 _ _ _ HIR.out]; rfl
        go_wp2_with fail
        refine (refPut_int w.heap.size (w.heap.size + 1 + 1) (c.shB 3) A1 c1 (c.sh 3) 16 wr HST.out (by omega) (by omega) (by omega) (by omega) (by rw [Cf.shB_len]; omega) HEN.out.bel.size).mono ?_
        rintro e w5 ⟨⟨x5, rfl⟩, ⟨A5, c5, hp5⟩, ho5⟩
        have HP5 : Hid (Strm w.heap.size w5 (w.heap.size + 1 + 1) (c.shB 4) A5 c5) := Lib.hid hp5
        have HE5 := Lib.hid (HEN.out.puts ho5)
        have HI5 := Lib.hid (heap_puts ho5 HIR.out (by omega) (by decide))
        clear hp5 ho5 y0
        go_wp2_with fail
        go_roundw
        case rel => exact ⟨4, A5, c5, by omega, by first | rfl | go_num, HP5, HE5, HI5⟩
        case measure => simp [intOf]
      · rw [show ((4 : Nat) : Int) = 4 from rfl]
        have y0 : wr.cell? ⟨w.heap.size + 1 + 1 + 1 + 1, 4, none⟩ = some (.int .i64 (c.sh 4)) := by rw [cell_of_row wr _ 4 _ _ _ HIR.out]; rfl
        go_wp2_with fail
        refine (refPut_int w.heap.size (w.heap.size + 1 + 1) (c.shB 4) A1 c1 (c.sh 4) 16 wr HST.out (by omega) (by omega) (by omega) (by omega) (by rw [Cf.shB_len]; omega) HEN.out.bel.size).mono ?_
        rintro e w5 ⟨⟨x5, rfl⟩, ⟨A5, c5, hp5⟩, ho5⟩
        have HP5 : Hid (Strm w.heap.size w5 (w.heap.size + 1 + 1) (c.shB 5) A5 c5) := Lib.hid hp5
        have HE5 := Lib.hid (HEN.out.puts ho5)
        have HI5 := Lib.hid (heap_puts ho5 HIR.out (by omega) (by decide))
        clear hp5 ho5 y0
        go_wp2_with fail
        go_roundw
        case rel => exact ⟨5, A5, c5, by omega, by first | rfl | go_num, HP5, HE5, HI5⟩
        case measure => simp [intOf]
    obtain rfl : k = 5 := by omega
    rw [show ((5 : Nat) : Int) = 5 from rfl]
    go_wp2_with fail
    go_loopw [7] (fun vi wr => ∃ (i : Nat) (A1 : Option Addr) (c1 : Nat), i ≤ c.nc ∧ vi = .int .i64 i ∧ Hid (Strm w.heap.size wr (w.heap.size + 1 + 1) (c.shB 5 ++ c.enc (c.allF i)) A1 c1) ∧ Hid (c.Env AC AR AO w wr)) (fun vi _ => c.nc - (intOf vi).toNat)
    case atStart => exact ⟨0, A1, c1, by omega, rfl, Lib.hid (by simpa [Cf.allF, Cf.enc] using HST.out), HEN⟩
    case round =>
      obtain ⟨i, A1, c1, hi, rfl, HST, HEN⟩ := hrel
      have q5 := HEN.out.q5
      by_cases hlt : i < c.nc
      · obtain ⟨ba, oa, A', rfl, hA', x0⟩ := (HC.out.keeps (Keeps.of_below HEN.out.bel)).col EC.out hlt
        have HA' := Lib.hid hA'
        clear hA'
        have hri := HFT.out.b2 i hlt
        go_wp2_with fail
        clear q5 x0
        go_loopw [8] (fun vk wr => ∃ (k : Nat) (A1 : Option Addr) (c1 : Nat), k ≤ c.rows i ∧ vk = .int .i64 k ∧ Hid (Strm w.heap.size wr (w.heap.size + 1 + 1) (c.shB 5 ++ c.enc (c.allF i ++ colF i k)) A1 c1) ∧ Hid (c.Env (some ⟨ba, oa, none⟩) AR AO w wr)) (fun vk _ => c.rows i - (intOf vk).toNat)
        case atStart => exact ⟨0, A1, c1, by omega, rfl, Lib.hid (by simpa [colF] using HST.out), HEN⟩
        case round =>
          obtain ⟨k, A1, c1, hk, rfl, HST, HEN⟩ := hrel
          obtain ⟨wk, hwk⟩ : ∃ wk, wk = wr := ⟨wr, rfl⟩
          subst hwk
          have q5 := HEN.out.q5
          obtain ⟨ba2, oa2, A2, e1, e2, x0⟩ := (HC.out.keeps (Keeps.of_below HEN.out.bel)).col EC.out hlt
          obtain ⟨rfl, rfl⟩ : ba = ba2 ∧ oa = oa2 := by simpa using e1
          obtain rfl : A' = A2 := HA'.out.symm.trans e2
          clear e1 e2
          by_cases hlk : k < c.rows i
          · obtain ⟨b4, o4, hA4, y0, y1, y2, y3, y4⟩ := (HC.out.keeps (Keeps.of_below HEN.out.bel)).cell hlt hlk HA'.out
            subst hA4
            have hPRE := c.cell_pre hlt hlk
            have HPRE := Lib.hid hPRE
            clear hPRE
            have hB := HOK.out.b i hlt k hlk
            have HLL := Lib.hid (fun j hj => HOK.out.l i hlt k hlk j hj)
            have HLN : Hid ((c.shB 5 ++ c.enc (c.allF i ++ colF i k)).length ≤ 1000000000) := Lib.hid (Cf.part_len HOK.out (List.IsPrefix.trans ⟨cellF i k, by simp⟩ HPRE.out))
            go_upto_region 16 with (fail)
            have hx := heap_alloc_new wk (.cells #[.int .i64 (c.L i k 0), .int .i64 (c.L i k 1), .int .i64 (c.L i k 2), .int .i64 (c.L i k 3), .int .i64 (c.B i k)] 53)
            have hblx : Below wk.heap.size wk (wk.alloc (.cells #[.int .i64 (c.L i k 0), .int .i64 (c.L i k 1), .int .i64 (c.L i k 2), .int .i64 (c.L i k 3), .int .i64 (c.B i k)] 53)) := (Below.refl _ _).alloc (Nat.le_refl _) _
            have HENX := Lib.hid (HEN.out.below hblx)
            have HSTX := Lib.hid (HST.out.below hblx)
            have hxp : wk.heap.size ≠ w.heap.size + 1 + 1 := by
              have h1 := HST.out.box.lt
              omega
            clear hblx q5 x0 y0 y1 y2 y3 y4
            generalize wk.alloc (.cells #[.int .i64 (c.L i k 0), .int .i64 (c.L i k 1), .int .i64 (c.L i k 2), .int .i64 (c.L i k 3), .int .i64 (c.B i k)] 53) = wx at *
            have HXP := Lib.hid hxp
            have HX := Lib.hid hx
            have z4 : wx.cell? ⟨wk.heap.size, 4, none⟩ = some (.int .i64 (c.B i k)) := by rw [cell_of_row wx _ 4 _ _ _ hx]; rfl
            clear hx hxp
            go_wp2_with fail
            refine (refPut_int w.heap.size (w.heap.size + 1 + 1) _ A1 c1 (c.B i k) 16 wx HSTX.out (by omega) (by omega) (by omega) (by omega) HLN.out HENX.out.bel.size).mono ?_
            rintro e w5 ⟨⟨x5, rfl⟩, ⟨A5, c5, hp5⟩, ho5⟩
            have HP5 : Hid (Strm w.heap.size w5 (w.heap.size + 1 + 1) (c.shB 5 ++ c.enc (c.allF i ++ (colF i k ++ (cellF i k).take (0 + 1)))) A5 c5) := Lib.hid (by
              have e := c.enc_snoc (c.shB 5) (c.allF i ++ colF i k) (.bits i k) (b := bitsOf (c.B i k).toNat 16) rfl
              rw [show c.allF i ++ (colF i k ++ (cellF i k).take (0 + 1)) = (c.allF i ++ colF i k) ++ [.bits i k] by simp [cellF], ← e]
              exact hp5)
            have HE5 := Lib.hid (HENX.out.puts ho5)
            have HX5 := Lib.hid (heap_puts ho5 HX.out HXP.out (by decide))
            clear hp5 ho5 z4
            go_wp2_with fail
            go_loopw [10] (fun vj wr => ∃ (j : Nat) (A1 : Option Addr) (c1 : Nat), j ≤ 4 ∧ vj = .int .i64 j ∧ Hid (Strm w.heap.size wr (w.heap.size + 1 + 1) (c.shB 5 ++ c.enc (c.allF i ++ (colF i k ++ (cellF i k).take (j + 1)))) A1 c1) ∧ Hid (c.Env (some ⟨ba, oa, none⟩) AR AO w wr) ∧ Hid (wr.heap[wk.heap.size]? = some (.cells #[.int .i64 (c.L i k 0), .int .i64 (c.L i k 1), .int .i64 (c.L i k 2), .int .i64 (c.L i k 3), .int .i64 (c.B i k)] 53 (0, 0)))) (fun vj _ => 4 - (intOf vj).toNat)
            case atStart => exact ⟨0, A5, c5, by omega, rfl, HP5, HE5, HX5⟩
            case round =>
              obtain ⟨j, A1, c1, hj, rfl, HST, HEN, HXR⟩ := hrel
              by_cases hlj : j < 4
              · have hL := HLL.out j hlj
                have htk : (cellF i k).take (j + 1 + 1) = (cellF i k).take (j + 1) ++ [.sel i k j] := by
                  obtain rfl | rfl | rfl | rfl : j = 0 ∨ j = 1 ∨ j = 2 ∨ j = 3 := by omega
                  all_goals rfl
                have HTK := Lib.hid htk
                have HLN2 : Hid ((c.shB 5 ++ c.enc (c.allF i ++ (colF i k ++ (cellF i k).take (j + 1)))).length ≤ 1000000000) := Lib.hid (Cf.part_len HOK.out (List.IsPrefix.trans (app_pre _ (app_pre _ (List.take_prefix _ _))) HPRE.out))
                have hsr := HSR.out i
                have hwl := wid_le (n := c.src i) (by omega) (by omega)
                have xj : wr.cell? ⟨wk.heap.size, j, none⟩ = some (.int .i64 (c.L i k j)) := by
                  rw [cell_of_row wr _ j _ _ _ HXR.out]
                  have := cell_get (c.L i k) (c.B i k) hlj
                  simpa using this
                obtain ⟨s0, s1, s2, s3, s4⟩ := HEN.out.s
                clear htk
                go_upto_region 20 with (fail)
                refine wp_region_z (fun w' => w'.cell? ⟨wk.heap.size, j, none⟩ = some (.int .i64 (c.L i k j)) ∧ w'.cell? ⟨w.heap.size + 1 + 1 + 1, 0, none⟩ = some (.int .i64 (c.sh 0)) ∧ w'.cell? ⟨w.heap.size + 1 + 1 + 1, 1, none⟩ = some (.int .i64 (c.sh 1)) ∧ w'.cell? ⟨w.heap.size + 1 + 1 + 1, 2, none⟩ = some (.int .i64 (c.sh 2)) ∧ w'.cell? ⟨w.heap.size + 1 + 1 + 1, 3, none⟩ = some (.int .i64 (c.sh 3)) ∧ w'.cell? ⟨w.heap.size + 1 + 1 + 1, 4, none⟩ = some (.int .i64 (c.sh 4))) [0, 1, 2, 3, 4, 5, 6] [9] (by kernel_rfl) (by kernel_rfl) (by kernel_rfl) (by rfl) (fun _ _ _ _ e h => ⟨e.symm.trans h.1, h.2⟩) ⟨xj, s0, s1, s2, s3, s4⟩ ?_
                iterate 7
                  refine Heads.step (v := ?_) rfl (by first | (go_simp; done) | rfl) (fun W hW => ?_) ?_
                  rotate_left
                  · (obtain ⟨t0, t1, t2, t3, t4, t5⟩ := hW; go_simp; try with_reducible rfl)
                refine AnyZ.one (i := 7) (by kernel_rfl) rfl (fun K hK => ?_)
                go_simp
                refine (refSources_src c i _ HOK.out.d.sh).mono ?_
                rintro e wv ⟨rfl, hbv⟩
                have hbv' : Below wr.heap.size wr wv := ⟨hbv.os, hbv.tape, hbv.output, hbv.size, hbv.block⟩
                have kp := Keeps.of_below hbv'
                replace xj := kp _ _ xj
                replace s0 := kp _ _ s0; replace s1 := kp _ _ s1; replace s2 := kp _ _ s2; replace s3 := kp _ _ s3; replace s4 := kp _ _ s4
                have HEV := Lib.hid (HEN.out.below hbv')
                have HSV := Lib.hid (HST.out.below hbv')
                have HXV := Lib.hid (heap_below hbv' HXR.out)
                refine hK _ _ (fun _ => ⟨xj, s0, s1, s2, s3, s4⟩) ?_
                clear hK
                clear hbv hbv' kp
                refine AnyZ.one (i := 8) (by kernel_rfl) rfl (fun K hK => ?_)
                go_simp
                refine (bits_any (c.src i) _ (by omega) (by omega)).mono ?_
                rintro e wv' ⟨rfl, rfl⟩
                refine hK _ _ (fun _ => ⟨xj, s0, s1, s2, s3, s4⟩) ?_
                clear hK
                refine AnyZ.one (i := 9) (by kernel_rfl) rfl (fun K hK => ?_)
                go_simp
                refine (refPut_int w.heap.size (w.heap.size + 1 + 1) _ A1 c1 (c.L i k j) (wid (c.src i)) wv HSV.out (by omega) (by omega) (by omega) (by omega) HLN2.out HEV.out.bel.size).mono ?_
                rintro e w6 ⟨⟨x6, rfl⟩, ⟨A6, c6, hp6⟩, ho6⟩
                have HP6 : Hid (Strm w.heap.size w6 (w.heap.size + 1 + 1) (c.shB 5 ++ c.enc (c.allF i ++ (colF i k ++ (cellF i k).take (j + 1 + 1)))) A6 c6) := Lib.hid (by
                  have e := c.enc_snoc (c.shB 5) (c.allF i ++ (colF i k ++ (cellF i k).take (j + 1))) (.sel i k j) (b := bitsOf (c.L i k j).toNat (wid (c.src i)).toNat) rfl
                  rw [HTK.out, show c.allF i ++ (colF i k ++ ((cellF i k).take (j + 1) ++ [.sel i k j])) = (c.allF i ++ (colF i k ++ (cellF i k).take (j + 1))) ++ [.sel i k j] by simp, ← e]
                  exact hp6)
                have HE6 := Lib.hid (HEV.out.puts ho6)
                have HX6 := Lib.hid (heap_puts ho6 HXV.out HXP.out (by decide))
                refine hK _ _ (fun h => by cases h) (AnyZ.done (by kernel_rfl) ?_)
                clear hK
                clear hp6 ho6 xj s0 s1 s2 s3 s4
                go_wp2_with fail
                go_roundw
                case rel => exact ⟨j + 1, A6, c6, by omega, by go_num, HP6, HE6, HX6⟩
                case measure => simp [intOf]; omega
              · obtain rfl : j = 4 := by omega
                go_wp2_with fail
                go_roundw
                case rel => exact ⟨k + 1, A1, c1, by omega, by go_num, HST, HEN⟩
                case measure => simp [intOf]; omega
          · obtain rfl : k = c.rows i := by omega
            go_wp2_with fail
            go_roundw
            case rel => exact ⟨i + 1, A1, c1, by omega, by go_num, HST, HEN⟩
            case measure => simp [intOf]; omega
      obtain rfl : i = c.nc := by omega
      go_wp2_with fail
      clear q5
      go_loopw [11] (fun vk wr => ∃ (k : Nat) (A1 : Option Addr) (c1 : Nat), k ≤ c.nr ∧ vk = .int .i64 k ∧ Hid (Strm w.heap.size wr (w.heap.size + 1 + 1) (c.shB 5 ++ c.enc (c.allF c.nc ++ regF k)) A1 c1) ∧ Hid (c.Env AC AR AO w wr)) (fun vk _ => c.nr - (intOf vk).toNat)
      case atStart => exact ⟨0, A1, c1, by omega, rfl, Lib.hid (by simpa [regF] using HST.out), HEN⟩
      case round =>
        obtain ⟨k, A1, c1, hk, rfl, HST, HEN⟩ := hrel
        have q6 := HEN.out.q6
        by_cases hlk : k < c.nr
        · obtain ⟨bb, off, rfl, y0, y1⟩ := (HC.out.keeps (Keeps.of_below HEN.out.bel)).reg ER.out hlk
          have HPRE := Lib.hid (c.reg_pre hlk)
          have HLN : Hid ((c.shB 5 ++ c.enc (c.allF c.nc ++ regF k)).length ≤ 1000000000) := Lib.hid (Cf.part_len HOK.out (List.IsPrefix.trans ⟨[.init k, .rsel k], by simp⟩ HPRE.out))
          have HLN2 : Hid ((c.shB 5 ++ c.enc (c.allF c.nc ++ (regF k ++ [.init k]))).length ≤ 1000000000) := Lib.hid (Cf.part_len HOK.out (List.IsPrefix.trans ⟨[.rsel k], by simp⟩ HPRE.out))
          have hR := HOK.out.r k hlk
          have hsr := HSR.out 1
          have hwl := wid_le (n := c.src 1) (by omega) (by omega)
          go_upto_if 99 with (fail)
          go_cut [12] (fun s wy => s = .int .i64 (if c.RI k = true then 1 else 0) ∧ wy = wr)
          case first =>
            cases hri : c.RI k
            · rw [hri] at y1
              go_wp2_with fail
              go_meet
              exact ⟨by simp [hri], rfl⟩
            · rw [hri] at y1
              go_wp2_with fail
              go_meet
              exact ⟨by simp [hri], rfl⟩
          case rest =>
          obtain ⟨rfl, rfl⟩ := hcut
          have hi01 : (0 : Int) ≤ (if c.RI k = true then 1 else 0) ∧ (if c.RI k = true then 1 else 0) ≤ (1 : Int) := by split <;> omega
          have HIB : Hid (bitsOf ((if c.RI k = true then 1 else 0 : Int)).toNat 1 = c.fbits (.init k)) := Lib.hid (by
            show _ = bitsOf (if c.RI k = true then 1 else 0) 1
            congr 1
            split <;> rfl)
          generalize (if c.RI k = true then 1 else 0 : Int) = u at *
          go_wp2_with fail
          refine (refPut_int w.heap.size (w.heap.size + 1 + 1) _ A1 c1 u 1 wc HST.out (by omega) (by omega) (by omega) (by omega) HLN.out HEN.out.bel.size).mono ?_
          rintro e w5 ⟨⟨x5, rfl⟩, ⟨A5, c5, hp5⟩, ho5⟩
          have HP5 : Hid (Strm w.heap.size w5 (w.heap.size + 1 + 1) (c.shB 5 ++ c.enc (c.allF c.nc ++ (regF k ++ [.init k]))) A5 c5) := Lib.hid (by
            have e := c.enc_snoc (c.shB 5) (c.allF c.nc ++ regF k) (.init k) rfl
            rw [← List.append_assoc (c.allF c.nc), ← e, ← HIB.out]
            exact hp5)
          have HE5 := Lib.hid (HEN.out.puts ho5)
          clear hp5 ho5 q6 y0 y1
          have q6 := HE5.out.q6
          obtain ⟨bb2, off2, e1, y0, y1⟩ := (HC.out.keeps (Keeps.of_below HE5.out.bel)).reg ER.out hlk
          obtain ⟨rfl, rfl⟩ : bb = bb2 ∧ off = off2 := by simpa using e1
          clear e1 y1
          obtain ⟨s0, s1, s2, s3, s4⟩ := HE5.out.s
          go_upto_region 28 with (fail)
          refine wp_region_z (fun w' => w'.cell? ⟨w.heap.size, 6, none⟩ = some (.slice (some ⟨bb, off, none⟩) c.nr c.cR) ∧ w'.cell? ⟨bb, off + k * 2, none⟩ = some (.int .i64 (c.RS k)) ∧ w'.cell? ⟨w.heap.size + 1 + 1 + 1, 0, none⟩ = some (.int .i64 (c.sh 0)) ∧ w'.cell? ⟨w.heap.size + 1 + 1 + 1, 1, none⟩ = some (.int .i64 (c.sh 1)) ∧ w'.cell? ⟨w.heap.size + 1 + 1 + 1, 2, none⟩ = some (.int .i64 (c.sh 2)) ∧ w'.cell? ⟨w.heap.size + 1 + 1 + 1, 3, none⟩ = some (.int .i64 (c.sh 3)) ∧ w'.cell? ⟨w.heap.size + 1 + 1 + 1, 4, none⟩ = some (.int .i64 (c.sh 4))) [0, 1, 2, 3, 4, 5, 6, 7] [10] (by kernel_rfl) (by kernel_rfl) (by kernel_rfl) (by rfl) (fun _ _ _ _ e h => ⟨e.symm.trans h.1, h.2⟩) ⟨q6, y0, s0, s1, s2, s3, s4⟩ ?_
          iterate 8
            refine Heads.step (v := ?_) rfl (by first | (go_simp; done) | rfl) (fun W hW => ?_) ?_
            rotate_left
            · (obtain ⟨t0, t1, t2, t3, t4, t5, t6⟩ := hW; go_simp; try with_reducible rfl)
          refine AnyZ.one (i := 8) (by kernel_rfl) rfl (fun K hK => ?_)
          go_simp
          refine (refSources_neg c _ HOK.out.d.sh).mono ?_
          rintro e wv ⟨rfl, hbv⟩
          have hbv' : Below w5.heap.size w5 wv := ⟨hbv.os, hbv.tape, hbv.output, hbv.size, hbv.block⟩
          have kp := Keeps.of_below hbv'
          replace q6 := kp _ _ q6
          replace y0 := kp _ _ y0
          replace s0 := kp _ _ s0; replace s1 := kp _ _ s1; replace s2 := kp _ _ s2; replace s3 := kp _ _ s3; replace s4 := kp _ _ s4
          have HEV := Lib.hid (HE5.out.below hbv')
          have HSV := Lib.hid (HP5.out.below hbv')
          refine hK _ _ (fun _ => ⟨q6, y0, s0, s1, s2, s3, s4⟩) ?_
          clear hK
          clear hbv hbv' kp
          refine AnyZ.one (i := 9) (by kernel_rfl) rfl (fun K hK => ?_)
          go_simp
          refine (bits_any (c.src 1) _ (by omega) (by omega)).mono ?_
          rintro e wv' ⟨rfl, rfl⟩
          refine hK _ _ (fun _ => ⟨q6, y0, s0, s1, s2, s3, s4⟩) ?_
          clear hK
          refine AnyZ.one (i := 10) (by kernel_rfl) rfl (fun K hK => ?_)
          go_simp
          refine (refPut_int w.heap.size (w.heap.size + 1 + 1) _ A5 c5 (c.RS k) (wid (c.src 1)) wv HSV.out (by omega) (by omega) (by omega) (by omega) HLN2.out HEV.out.bel.size).mono ?_
          rintro e w6 ⟨⟨x6, rfl⟩, ⟨A6, c6, hp6⟩, ho6⟩
          have HP6 : Hid (Strm w.heap.size w6 (w.heap.size + 1 + 1) (c.shB 5 ++ c.enc (c.allF c.nc ++ regF (k + 1))) A6 c6) := Lib.hid (by
            have e := c.enc_snoc (c.shB 5) (c.allF c.nc ++ (regF k ++ [.init k])) (.rsel k) (b := bitsOf (c.RS k).toNat (wid (c.src 1)).toNat) rfl
            rw [show c.allF c.nc ++ regF (k + 1) = (c.allF c.nc ++ (regF k ++ [.init k])) ++ [.rsel k] by simp [regF], ← e]
            exact hp6)
          have HE6 := Lib.hid (HEV.out.puts ho6)
          refine hK _ _ (fun h => by cases h) (AnyZ.done (by kernel_rfl) ?_)
          clear hK
          clear hp6 ho6 q6 y0 s0 s1 s2 s3 s4
          go_wp2_with fail
          go_roundw
          case rel => exact ⟨k + 1, A6, c6, by omega, by go_num, HP6, HE6⟩
          case measure => simp [intOf]; omega
        obtain rfl : k = c.nr := by omega
        go_wp2_with fail
        clear q6
        go_loopw [13] (fun vk wr => ∃ (k : Nat) (A1 : Option Addr) (c1 : Nat), k ≤ c.no ∧ vk = .int .i64 k ∧ Hid (Strm w.heap.size wr (w.heap.size + 1 + 1) (c.shB 5 ++ c.enc (c.allF c.nc ++ (regF c.nr ++ outF k))) A1 c1) ∧ Hid (c.Env AC AR AO w wr)) (fun vk _ => c.no - (intOf vk).toNat)
        case atStart => exact ⟨0, A1, c1, by omega, rfl, Lib.hid (by simpa [outF] using HST.out), HEN⟩
        case round =>
          obtain ⟨k, A1, c1, hk, rfl, HST, HEN⟩ := hrel
          have q7 := HEN.out.q7
          by_cases hlk : k < c.no
          · obtain ⟨bb, off, rfl, y0⟩ := (HC.out.keeps (Keeps.of_below HEN.out.bel)).out EO.out hlk
            have HPRE := Lib.hid (c.out_pre hlk)
            have HLN : Hid ((c.shB 5 ++ c.enc (c.allF c.nc ++ (regF c.nr ++ outF k))).length ≤ 1000000000) := Lib.hid (Cf.part_len HOK.out (List.IsPrefix.trans ⟨[.out k], by simp⟩ HPRE.out))
            have hO := HOK.out.o k hlk
            have hsr := HSR.out 1
            have hwl := wid_le (n := c.src 1) (by omega) (by omega)
            obtain ⟨s0, s1, s2, s3, s4⟩ := HEN.out.s
            go_upto_region 32 with (fail)
            refine wp_region_z (fun w' => w'.cell? ⟨w.heap.size, 7, none⟩ = some (.slice (some ⟨bb, off, none⟩) c.no c.cO) ∧ w'.cell? ⟨bb, off + k, none⟩ = some (.int .i64 (c.O k)) ∧ w'.cell? ⟨w.heap.size + 1 + 1 + 1, 0, none⟩ = some (.int .i64 (c.sh 0)) ∧ w'.cell? ⟨w.heap.size + 1 + 1 + 1, 1, none⟩ = some (.int .i64 (c.sh 1)) ∧ w'.cell? ⟨w.heap.size + 1 + 1 + 1, 2, none⟩ = some (.int .i64 (c.sh 2)) ∧ w'.cell? ⟨w.heap.size + 1 + 1 + 1, 3, none⟩ = some (.int .i64 (c.sh 3)) ∧ w'.cell? ⟨w.heap.size + 1 + 1 + 1, 4, none⟩ = some (.int .i64 (c.sh 4))) [0, 1, 2, 3, 4, 5, 6] [9] (by kernel_rfl) (by kernel_rfl) (by kernel_rfl) (by rfl) (fun _ _ _ _ e h => ⟨e.symm.trans h.1, h.2⟩) ⟨q7, y0, s0, s1, s2, s3, s4⟩ ?_
            iterate 7
              refine Heads.step (v := ?_) rfl (by first | (go_simp; done) | rfl) (fun W hW => ?_) ?_
              rotate_left
              · (obtain ⟨t0, t1, t2, t3, t4, t5, t6⟩ := hW; go_simp; try with_reducible rfl)
            refine AnyZ.one (i := 7) (by kernel_rfl) rfl (fun K hK => ?_)
            go_simp
            refine (refSources_neg c _ HOK.out.d.sh).mono ?_
            rintro e wv ⟨rfl, hbv⟩
            have hbv' : Below wr.heap.size wr wv := ⟨hbv.os, hbv.tape, hbv.output, hbv.size, hbv.block⟩
            have kp := Keeps.of_below hbv'
            replace q7 := kp _ _ q7
            replace y0 := kp _ _ y0
            replace s0 := kp _ _ s0; replace s1 := kp _ _ s1; replace s2 := kp _ _ s2; replace s3 := kp _ _ s3; replace s4 := kp _ _ s4
            have HEV := Lib.hid (HEN.out.below hbv')
            have HSV := Lib.hid (HST.out.below hbv')
            refine hK _ _ (fun _ => ⟨q7, y0, s0, s1, s2, s3, s4⟩) ?_
            clear hK
            clear hbv hbv' kp
            refine AnyZ.one (i := 8) (by kernel_rfl) rfl (fun K hK => ?_)
            go_simp
            refine (bits_any (c.src 1) _ (by omega) (by omega)).mono ?_
            rintro e wv' ⟨rfl, rfl⟩
            refine hK _ _ (fun _ => ⟨q7, y0, s0, s1, s2, s3, s4⟩) ?_
            clear hK
            refine AnyZ.one (i := 9) (by kernel_rfl) rfl (fun K hK => ?_)
            go_simp
            refine (refPut_int w.heap.size (w.heap.size + 1 + 1) _ A1 c1 (c.O k) (wid (c.src 1)) wv HSV.out (by omega) (by omega) (by omega) (by omega) HLN.out HEV.out.bel.size).mono ?_
            rintro e w6 ⟨⟨x6, rfl⟩, ⟨A6, c6, hp6⟩, ho6⟩
            have HP6 : Hid (Strm w.heap.size w6 (w.heap.size + 1 + 1) (c.shB 5 ++ c.enc (c.allF c.nc ++ (regF c.nr ++ outF (k + 1)))) A6 c6) := Lib.hid (by
              have e := c.enc_snoc (c.shB 5) (c.allF c.nc ++ (regF c.nr ++ outF k)) (.out k) (b := bitsOf (c.O k).toNat (wid (c.src 1)).toNat) rfl
              rw [show c.allF c.nc ++ (regF c.nr ++ outF (k + 1)) = (c.allF c.nc ++ (regF c.nr ++ outF k)) ++ [.out k] by simp [outF], ← e]
              exact hp6)
            have HE6 := Lib.hid (HEV.out.puts ho6)
            refine hK _ _ (fun h => by cases h) (AnyZ.done (by kernel_rfl) ?_)
            clear hK
            clear hp6 ho6 q7 y0 s0 s1 s2 s3 s4
            go_wp2_with fail
            go_roundw
            case rel => exact ⟨k + 1, A6, c6, by omega, by go_num, HP6, HE6⟩
            case measure => simp [intOf]; omega
          obtain rfl : k = c.no := by omega
          have c0 := HST.out.box.cell (k := 0) (by omega)
          simp only [strV] at c0
          rw [← packB_len] at c0
          have hlen : (packB (c.shB 5 ++ c.enc (c.allF c.nc ++ (regF c.nr ++ outF c.no)))).length ≤ 1000000000 := by
            have h1 := Cf.part_len HOK.out (List.prefix_refl c.flds)
            unfold Cf.flds at h1
            rw [packB_len]; unfold nby; omega
          have HROW := Lib.hid HST.out.row
          have HTX : Hid (packB (c.shB 5 ++ c.enc (c.allF c.nc ++ (regF c.nr ++ outF c.no))) ++ be4 (crcF (packB (c.shB 5 ++ c.enc (c.allF c.nc ++ (regF c.nr ++ outF c.no))))) = c.text) := Lib.hid rfl
          generalize packB (c.shB 5 ++ c.enc (c.allF c.nc ++ (regF c.nr ++ outF c.no))) = l at *
          have HLE := Lib.hid hlen
          go_wp2_with fail
          clear q7
          refine wp_region_z (fun w' => w'.cell? ⟨w.heap.size + 1 + 1, 0, none⟩ = some (.slice A1 l.length c1)) [0, 1, 2, 3, 4, 5, 6, 7] [9, 10] (by kernel_rfl) (by kernel_rfl) (by kernel_rfl) (by rfl) (fun _ _ _ _ e h => ⟨e.symm.trans h.1, h.2⟩) c0 ?_
          iterate 8
            refine Heads.step (v := ?_) rfl (by first | (go_simp; done) | rfl) (fun W hW => ?_) ?_
            rotate_left
            · (have t0 := hW; go_simp; try with_reducible rfl)
          refine AnyZ.one (i := 8) (by kernel_rfl) rfl (fun K hK => ?_)
          go_simp
          refine (sums_any l A1 c1 _ (Byt.mem (HROW.out.below (Below.refl _ _).drew)) (Nat.le_trans HLE.out (by decide))).mono ?_
          rintro e wv ⟨rfl, hwv⟩
          have HRV : Hid (OwnB w.heap.size wv A1 l.length c1 (Lib.byteCells l)) := Lib.hid (by rw [hwv]; exact (HROW.out.below (Below.refl _ _).drew).alloc _)
          have HSR2 : Hid (Src wv 1 (some ⟨wr.heap.size, 0, none⟩) 4 (Lib.byteCells (be4 (crcF l)))) := Lib.hid (by
            rw [hwv]
            exact src_news wr.drew (Lib.byteCells (be4 (crcF l))).toArray 5 1 4 rfl (by simp [Lib.byteCells, be4, Value.oneCell']))
          have hbv : Below wr.heap.size wr wv := by
            rw [hwv]
            exact (Below.refl _ _).drew.alloc (Nat.le_refl _) _
          have HEV := Lib.hid (HEN.out.below hbv)
          have hzv : w.heap.size ≤ wv.heap.size := HEV.out.bel.size
          have c0' := Keeps.of_below hbv _ _ c0
          refine hK _ _ (fun _ => c0') ?_
          clear hK hbv hwv c0 c0'
          refine AnyZ.one (i := 9) (by kernel_rfl) rfl (fun K hK => ?_)
          refine step_append_b (by rfl) (.tmp 134) (.tmp 139) (by rfl) w.heap.size A1 l.length c1 (Lib.byteCells l) (by rfl) HRV.out _ 4 4 _ (by rfl) HSR2.out (by omega) hzv ?_
          intro A7 c7 w7 ho hko hbo
          have HO7 := Lib.hid ho; have HKO := Lib.hid hko
          clear ho hko hbo
          refine hK _ _ (fun h => by cases h) ?_
          clear hK
          refine AnyZ.one (i := 10) (by kernel_rfl) rfl (fun K hK => ?_)
          go_simp
          refine hK _ _ (fun h => by cases h) (AnyZ.done (by kernel_rfl) ?_)
          clear hK
          go_wp2_with fail
          go_ret
          refine ⟨⟨A7, c7, ?_, ?_⟩, ?_⟩
          · rw [← HTX.out, List.length_append]; rfl
          · rw [← HTX.out]
            have h := HO7.out
            unfold Byt
            rw [Lib.byteCells_append, List.length_append]; exact h
          · exact HEV.out.bel.trans (HKO.out.below (fun j _ hs => (HRV.out.base j hs).1) hzv)
end Go.Proofs.YtbnjbclkmjjkhaaDoor
