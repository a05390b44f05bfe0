/- stream.Encode, walked. Condition: the configuration lies in memory and is valid. -/
import Derived.Test.YtbnjbclkmjjkhaaDoorEnP
import Derived.Lib.SlBytesConst
namespace Go.Proofs.YtbnjbclkmjjkhaaDoor
open Go.RowKit Go.Shelf Go.Deep
attribute [local go_sem] Oper.semAt_some

theorem Byt.marked (base : Nat) (w : World) (l : List UInt8) (n : Nat) (hn : n = l.length) (hb : base ≤ w.heap.size) (hl : l.length ≤ 1000000000) : Byt base (w.alloc (.cells (Lib.byteCells l).toArray 5 (n, n + 1))) (some ⟨w.heap.size, 0, none⟩) l.length l :=
  ⟨by simp [Lib.byteCells], .inr ⟨w.heap.size, _, _, _, rfl, hb, heap_alloc_new w _, .inr (by simp [Lib.byteCells, hn]), Nat.le_refl _, by simp only [maxLen]; omega, by simp [Lib.byteCells], by
    rw [show (Lib.byteCells l).toArray.toList = Lib.byteCells l from rfl]; exact List.take_of_length_le (by simp [Lib.byteCells])⟩⟩

theorem five_index (f : Nat → Int) (w : World) (k : Int) (h0 : 0 ≤ k) (h1 : k < 5) : (Instr.index 102 (.agg #[.int .i64 (f 0), .int .i64 (f 1), .int .i64 (f 2), .int .i64 (f 3), .int .i64 (f 4)]) (.int .i64 k)).run Tryd.prog w = .ok (.int .i64 (f k.toNat)) w := by
  obtain rfl | rfl | rfl | rfl | rfl : k = 0 ∨ k = 1 ∨ k = 2 ∨ k = 3 ∨ k = 4 := by omega
  all_goals simp [Instr.index, run_underlying Tryd.underlying102, asIntOf, go_sem]
theorem put_int (base bp : Nat) (L : List Bool) (A : Option Addr) (c : Nat) (v n : Int) (w : World) (hP : Pen base w bp L A c) (h0 : 0 ≤ v) (hv : v < 4611686018427387904) (hn0 : 0 ≤ n) (hn : n ≤ 62) (hL : L.length ≤ 1000000000) (hb : base ≤ w.heap.size) :
    Calls Tryd.prog 41 #[.pointer (some ⟨bp, 0, none⟩), .int .i64 v, .int .i64 n] w fun e w' => (∃ x, e = .returned x) ∧ (∃ A' c', Pen base w' bp (L ++ bitsOf v.toNat n.toNat) A' c') ∧ Only (PutS base bp w) w w' := by
  have h := put_any base bp L A c v.toNat n.toNat w hP (by omega) (by omega) hL hb
  rwa [show ((v.toNat : Nat) : Int) = v by omega, show ((n.toNat : Nat) : Int) = n by omega] at h
theorem boxed_puts {base bp : Nat} {W W' : World} (h : Only (PutS base bp W) W W') {B : Nat} {t : TypeId} {v : Value} (hb : Boxed W B t v) (hne : B ≠ bp) (ht : t ≠ 5) : Boxed W' B t v :=
  (h.block B hb.lt (fun hs => by
    rcases hs with e | ⟨_, cur, z, hc⟩
    · exact hne e
    · rw [show W.heap[B]? = _ from hb] at hc; injection hc with hc; injection hc with _ h2; exact ht h2)).trans hb
theorem boxed_grown {W W' : World} {row : Option Nat} (hg : W.grownBy W' row) (hr : ∀ r, row = some r → ∃ o : Obj, W.heap[r]? = some o ∧ o.isCells = false) {B : Nat} {t : TypeId} {v : Value} (h : Boxed W B t v) : Boxed W' B t v := heap_kept hg hr h
theorem boxed_below {W W' : World} (hb : Below W.heap.size W W') {B : Nat} {t : TypeId} {v : Value} (h : Boxed W B t v) : Boxed W' B t v := (hb.block B h.lt).trans h
theorem Pen.typed {base bp c : Nat} {W : World} {L : List Bool} {A : Option Addr} (h : Pen base W bp L A c) : ∃ cur z, W.heap[bp]? = some (.cells cur 101 z) := by
  obtain ⟨cur, hh, _⟩ := h.box
  exact ⟨cur, _, hh⟩

set_option maxRecDepth 100000 in
set_option maxHeartbeats 16000000 in
theorem encode_any (c : Cf) (AC AR AO : Option Addr) (w : World) (hc : c.At w) (hf : c.Fits) (hok : c.Ok) (eC : c.AC = AC) (eR : c.AR = AR) (eO : c.AO = AO) :
    Calls Tryd.prog 27 #[.agg #[.int .i64 (c.sh 0), .int .i64 (c.sh 1), .int .i64 (c.sh 2), .int .i64 (c.sh 3), .int .i64 (c.sh 4), .slice AC c.nc c.cC, .slice AR c.nr c.cR, .slice AO c.no c.cO]] w fun e w' => (∃ A' c', e = .returned (.slice A' c.text.length c') ∧ Byt w.heap.size w' A' c' c.text) ∧ Below w.heap.size w w' := by
  have hF : ∀ f, Fence.wide.fn f := fun _ => trivial
  have HC := Lib.hid hc; have HFT := Lib.hid hf; have HOK := Lib.hid hok; have EC := Lib.hid eC; have ER := Lib.hid eR; have EO := Lib.hid eO
  have h0 := hok.d.sh.s0; have h1 := hok.d.sh.s1; have h2 := hok.d.sh.s2; have h3 := hok.d.sh.s3; have h4 := hok.d.sh.s4
  have hbox : ∀ j v, c.cells[j]? = some v → Firm w.heap.size (w.alloc (.cells c.cells.toArray 31)) ⟨w.heap.size, j, none⟩ v := fun j v e => ⟨BoxAt.new w c.cells 31 j v e, .inr ⟨_, _, _, .inl rfl, heap_alloc_new w _⟩⟩
  have hcols : ∀ i, i < c.nc → ∃ b off, c.AC = some ⟨b, off, none⟩ ∧ Firm w.heap.size (w.alloc (.cells c.cells.toArray 31)) ⟨b, off + i, none⟩ (.slice (c.CA i) (c.rows i) (c.cc i)) := fun i hi => by
    obtain ⟨b, off, e, h⟩ := hc.cols.at_ hi
    exact ⟨b, off, e, Keeps.alloc _ _ _ _ h, .inl (World.block_lt_of_cell? w _ h)⟩
  have HH0 : Hid (c.Hdr w.heap.size (w.alloc (.cells c.cells.toArray 31)) w.heap.size) := Lib.hid ⟨hbox, hcols⟩
  have hcs : c.cells.toArray = #[.int .i64 (c.sh 0), .int .i64 (c.sh 1), .int .i64 (c.sh 2), .int .i64 (c.sh 3), .int .i64 (c.sh 4), .slice AC c.nc c.cC, .slice AR c.nr c.cR, .slice AO c.no c.cO] := by simp [Cf.cells, eC, eR, eO]
  rw [hcs] at HH0
  have hb0 := (Below.refl w.heap.size w).alloc (Nat.le_refl _) (.cells #[.int .i64 (c.sh 0), .int .i64 (c.sh 1), .int .i64 (c.sh 2), .int .i64 (c.sh 3), .int .i64 (c.sh 4), .slice AC c.nc c.cC, .slice AR c.nr c.cR, .slice AO c.no c.cO] 31)
  have hz0 : (w.alloc (.cells #[.int .i64 (c.sh 0), .int .i64 (c.sh 1), .int .i64 (c.sh 2), .int .i64 (c.sh 3), .int .i64 (c.sh 4), .slice AC c.nc c.cC, .slice AR c.nr c.cR, .slice AO c.no c.cO] 31)).heap.size = w.heap.size + 1 := by simp
  have hq := BoxAt.new w [.int .i64 (c.sh 0), .int .i64 (c.sh 1), .int .i64 (c.sh 2), .int .i64 (c.sh 3), .int .i64 (c.sh 4), .slice AC c.nc c.cC, .slice AR c.nr c.cR, .slice AO c.no c.cO] 31
  have hcv : (convert 22 22 (.slice (some ⟨w.heap.size + 1, 0, none⟩) 4 4)).run Tryd.prog ((w.alloc (.cells #[.int .i64 (c.sh 0), .int .i64 (c.sh 1), .int .i64 (c.sh 2), .int .i64 (c.sh 3), .int .i64 (c.sh 4), .slice AC c.nc c.cC, .slice AR c.nr c.cR, .slice AO c.no c.cO] 31)).alloc (.cells #[.int .u8 71, .int .u8 87, .int .u8 66, .int .u8 49] 5)) = .ok (.slice (some ⟨w.heap.size + 1, 0, none⟩) 4 4) ((w.alloc (.cells #[.int .i64 (c.sh 0), .int .i64 (c.sh 1), .int .i64 (c.sh 2), .int .i64 (c.sh 3), .int .i64 (c.sh 4), .slice AC c.nc c.cC, .slice AR c.nr c.cR, .slice AO c.no c.cO] 31)).alloc (.cells #[.int .u8 71, .int .u8 87, .int .u8 66, .int .u8 49] 5 (4, 5))) := by
    have := Go.Lib.run_convert_bytes_const (P := Tryd.prog) (w.alloc (.cells #[.int .i64 (c.sh 0), .int .i64 (c.sh 1), .int .i64 (c.sh 2), .int .i64 (c.sh 3), .int .i64 (c.sh 4), .slice AC c.nc c.cC, .slice AR c.nr c.cR, .slice AO c.no c.cO] 31)) 22 5 #[.int .u8 71, .int .u8 87, .int .u8 66, .int .u8 49] 4 4 Tryd.underlying22 Tryd.underlying5
    rw [hz0] at this
    exact this
  clear eC eR eO hc hf hbox hcols hcs hok
  refine (callsIn_wide (n := 10)).1 ?_
  refine callsIn_of_wp_marks Tryd.func27 rfl trivial ?_ rfl
  simp only [Tryd.ntmps27, List.size_toArray, List.length_cons, List.length_nil, Nat.reduceAdd, Nat.reduceSub, Array.replicate_succ, Array.replicate_zero, List.push_toArray, List.append_toArray, List.nil_append, List.cons_append]
  gi_wp2_with fail
  clear hcv
  have hH1 := HH0.out
  have hpt : packB magicL = [71, 87, 66, 49] := magic_pack
  have hrow1 := Byt.marked w.heap.size (w.alloc (.cells #[.int .i64 (c.sh 0), .int .i64 (c.sh 1), .int .i64 (c.sh 2), .int .i64 (c.sh 3), .int .i64 (c.sh 4), .slice AC c.nc c.cC, .slice AR c.nr c.cR, .slice AO c.no c.cO] 31)) [71, 87, 66, 49] 4 rfl (by simp) (by simp)
  rw [hz0, show (Lib.byteCells [71, 87, 66, 49]).toArray = #[.int .u8 71, .int .u8 87, .int .u8 66, .int .u8 49] from rfl] at hrow1
  have hb1 := hb0.alloc (by omega) (.cells #[.int .u8 71, .int .u8 87, .int .u8 66, .int .u8 49] 5 (4, 5))
  have hk1 : Kept w.heap.size (w.alloc (.cells #[.int .i64 (c.sh 0), .int .i64 (c.sh 1), .int .i64 (c.sh 2), .int .i64 (c.sh 3), .int .i64 (c.sh 4), .slice AC c.nc c.cC, .slice AR c.nr c.cR, .slice AO c.no c.cO] 31)) ((w.alloc (.cells #[.int .i64 (c.sh 0), .int .i64 (c.sh 1), .int .i64 (c.sh 2), .int .i64 (c.sh 3), .int .i64 (c.sh 4), .slice AC c.nc c.cC, .slice AR c.nr c.cR, .slice AO c.no c.cO] 31)).alloc (.cells #[.int .u8 71, .int .u8 87, .int .u8 66, .int .u8 49] 5 (4, 5))) := Kept.below ((Below.refl _ _).alloc (Nat.le_refl _) _)
  replace hH1 := hH1.kept hk1
  have hz1 : ((w.alloc (.cells #[.int .i64 (c.sh 0), .int .i64 (c.sh 1), .int .i64 (c.sh 2), .int .i64 (c.sh 3), .int .i64 (c.sh 4), .slice AC c.nc c.cC, .slice AR c.nr c.cR, .slice AO c.no c.cO] 31)).alloc (.cells #[.int .u8 71, .int .u8 87, .int .u8 66, .int .u8 49] 5 (4, 5))).heap.size = w.heap.size + 1 + 1 := by simp
  clear hk1 hb0 hz0 HH0 hq
  generalize (w.alloc (.cells #[.int .i64 (c.sh 0), .int .i64 (c.sh 1), .int .i64 (c.sh 2), .int .i64 (c.sh 3), .int .i64 (c.sh 4), .slice AC c.nc c.cC, .slice AR c.nr c.cR, .slice AO c.no c.cO] 31)).alloc (.cells #[.int .u8 71, .int .u8 87, .int .u8 66, .int .u8 49] 5 (4, 5)) = v1 at *
  have hbox2 : Arr (v1.alloc (.cells #[.slice (some ⟨w.heap.size + 1, 0, none⟩) 4 4, .int .i64 0] 101)) v1.heap.size 101 2 (penV (some ⟨w.heap.size + 1, 0, none⟩) (nby magicL) 4 (8 * nby magicL - magicL.length)) := (Arr.new v1 _ _).congr (fun j hj => by
    rw [magic_len, show nby magicL = 4 by unfold nby; rw [magic_len]]
    have hj' : j < 2 := hj
    obtain rfl | rfl : j = 0 ∨ j = 1 := by omega
    all_goals rfl)
  have hpen2 : Pen w.heap.size (v1.alloc (.cells #[.slice (some ⟨w.heap.size + 1, 0, none⟩) 4 4, .int .i64 0] 101)) (w.heap.size + 1 + 1) magicL (some ⟨w.heap.size + 1, 0, none⟩) 4 := ⟨by rw [← hz1]; exact hbox2, by rw [hpt]; exact hrow1.alloc _⟩
  have hb2 := hb1.alloc (by omega) (.cells #[.slice (some ⟨w.heap.size + 1, 0, none⟩) 4 4, .int .i64 0] 101)
  have hH2 := hH1.kept (Kept.below ((Below.refl v1.heap.size v1).alloc (Nat.le_refl _) (.cells #[.slice (some ⟨w.heap.size + 1, 0, none⟩) 4 4, .int .i64 0] 101)))
  have hz2 : (v1.alloc (.cells #[.slice (some ⟨w.heap.size + 1, 0, none⟩) 4 4, .int .i64 0] 101)).heap.size = w.heap.size + 1 + 1 + 1 := by simp [hz1]
  clear hbox2 hrow1 hb1 hH1 hz1
  generalize v1.alloc (.cells #[.slice (some ⟨w.heap.size + 1, 0, none⟩) 4 4, .int .i64 0] 101) = v2 at *
  have hqb := Boxed.new v2 99 (.pointer (some ⟨w.heap.size + 1 + 1, 0, none⟩))
  rw [hz2] at hqb
  have hb3 := hb2.alloc (by omega) (.cells #[.pointer (some ⟨w.heap.size + 1 + 1, 0, none⟩)] 99)
  have hbl3 : Below v2.heap.size v2 (v2.alloc (.cells #[.pointer (some ⟨w.heap.size + 1 + 1, 0, none⟩)] 99)) := (Below.refl _ _).alloc (Nat.le_refl _) _
  have hH3 := hH2.kept (Kept.below hbl3)
  have hpen3 := hpen2.below hbl3
  have hz3 : (v2.alloc (.cells #[.pointer (some ⟨w.heap.size + 1 + 1, 0, none⟩)] 99)).heap.size = w.heap.size + 1 + 1 + 1 + 1 := by simp [hz2]
  clear hb2 hbl3 hH2 hpen2 hz2
  generalize v2.alloc (.cells #[.pointer (some ⟨w.heap.size + 1 + 1, 0, none⟩)] 99) = v3 at *
  have hb4 := hb3.alloc (by omega) (.cells #[.int .i64 (c.sh 0), .int .i64 (c.sh 1), .int .i64 (c.sh 2), .int .i64 (c.sh 3), .int .i64 (c.sh 4)] 26)
  have hbl4 : Below v3.heap.size v3 (v3.alloc (.cells #[.int .i64 (c.sh 0), .int .i64 (c.sh 1), .int .i64 (c.sh 2), .int .i64 (c.sh 3), .int .i64 (c.sh 4)] 26)) := (Below.refl _ _).alloc (Nat.le_refl _) _
  have hH4 := hH3.kept (Kept.below hbl4)
  have hpen4 := hpen3.below hbl4
  have hqb4 := boxed_below hbl4 hqb
  have hz4 : (v3.alloc (.cells #[.int .i64 (c.sh 0), .int .i64 (c.sh 1), .int .i64 (c.sh 2), .int .i64 (c.sh 3), .int .i64 (c.sh 4)] 26)).heap.size = w.heap.size + 1 + 1 + 1 + 1 + 1 := by simp [hz3]
  clear hb3 hbl4 hH3 hpen3 hqb hz3 hpt
  generalize v3.alloc (.cells #[.int .i64 (c.sh 0), .int .i64 (c.sh 1), .int .i64 (c.sh 2), .int .i64 (c.sh 3), .int .i64 (c.sh 4)] 26) = v4 at *
  have HB4 := Lib.hid hb4; have HH4 := Lib.hid hH4; have HP4 := Lib.hid hpen4; have HQ4 := Lib.hid hqb4; have HZ4 := Lib.hid hz4
  have hzv : w.heap.size + 1 + 1 + 1 + 1 + 1 ≤ v4.heap.size := by omega
  clear hb4 hH4 hpen4 hqb4 hz4
  gi_loopw [25] (fun vi wr => ∃ (k : Nat) (A1 : Option Addr) (c1 : Nat), k ≤ 5 ∧ vi = .int .i64 k ∧ Hid (Pen w.heap.size wr (w.heap.size + 1 + 1) (c.shB k) A1 c1) ∧ Hid (Only (PutS w.heap.size (w.heap.size + 1 + 1) v4) v4 wr)) (fun vi _ => 5 - (intOf vi).toNat)
  case atStart => exact ⟨0, _, _, by omega, rfl, HP4, Lib.hid (Only.refl _ _)⟩
  case round =>
    obtain ⟨k, A1, c1, hk, rfl, HPK, HOK1⟩ := hrel
    have hzw : w.heap.size ≤ wr.heap.size := by have := HOK1.out.size; omega
    have qp := (boxed_puts HOK1.out HQ4.out (by omega) (by decide)).cell
    by_cases hlt : k < 5
    · obtain rfl | rfl | rfl | rfl | rfl : k = 0 ∨ k = 1 ∨ k = 2 ∨ k = 3 ∨ k = 4 := by omega
      · rw [show ((0 : Nat) : Int) = 0 from rfl]
        have hix : (Instr.index 102 (.agg #[.int .i64 (c.sh 0), .int .i64 (c.sh 1), .int .i64 (c.sh 2), .int .i64 (c.sh 3), .int .i64 (c.sh 4)]) (.int .i64 0)).run Tryd.prog wr = .ok (.int .i64 (c.sh 0)) wr := five_index c.sh wr 0 (by omega) (by omega)
        gi_wp2_with fail
        clear hix
        refine (callsIn_wide.2 (put_int w.heap.size (w.heap.size + 1 + 1) (c.shB 0) A1 c1 (c.sh 0) 16 wr HPK.out (by omega) (by omega) (by omega) (by omega) (by rw [Cf.shB_len]; omega) hzw)).mono ?_
        rintro e w5 ⟨⟨x5, rfl⟩, ⟨A5, c5, hp5⟩, ho5⟩
        have HP5 : Hid (Pen w.heap.size w5 (w.heap.size + 1 + 1) (c.shB 1) A5 c5) := Lib.hid hp5
        have HO5 := Lib.hid (puts_then HOK1.out ho5)
        clear hp5 ho5 qp
        gi_wp2_with fail
        go_roundw
        case rel => exact ⟨1, A5, c5, by omega, by first | rfl | go_num, HP5, HO5⟩
        case measure => simp [intOf]
      · rw [show ((1 : Nat) : Int) = 1 from rfl]
        have hix : (Instr.index 102 (.agg #[.int .i64 (c.sh 0), .int .i64 (c.sh 1), .int .i64 (c.sh 2), .int .i64 (c.sh 3), .int .i64 (c.sh 4)]) (.int .i64 1)).run Tryd.prog wr = .ok (.int .i64 (c.sh 1)) wr := five_index c.sh wr 1 (by omega) (by omega)
        gi_wp2_with fail
        clear hix
        refine (callsIn_wide.2 (put_int w.heap.size (w.heap.size + 1 + 1) (c.shB 1) A1 c1 (c.sh 1) 16 wr HPK.out (by omega) (by omega) (by omega) (by omega) (by rw [Cf.shB_len]; omega) hzw)).mono ?_
        rintro e w5 ⟨⟨x5, rfl⟩, ⟨A5, c5, hp5⟩, ho5⟩
        have HP5 : Hid (Pen w.heap.size w5 (w.heap.size + 1 + 1) (c.shB 2) A5 c5) := Lib.hid hp5
        have HO5 := Lib.hid (puts_then HOK1.out ho5)
        clear hp5 ho5 qp
        gi_wp2_with fail
        go_roundw
        case rel => exact ⟨2, A5, c5, by omega, by first | rfl | go_num, HP5, HO5⟩
        case measure => simp [intOf]
      · rw [show ((2 : Nat) : Int) = 2 from rfl]
        have hix : (Instr.index 102 (.agg #[.int .i64 (c.sh 0), .int .i64 (c.sh 1), .int .i64 (c.sh 2), .int .i64 (c.sh 3), .int .i64 (c.sh 4)]) (.int .i64 2)).run Tryd.prog wr = .ok (.int .i64 (c.sh 2)) wr := five_index c.sh wr 2 (by omega) (by omega)
        gi_wp2_with fail
        clear hix
        refine (callsIn_wide.2 (put_int w.heap.size (w.heap.size + 1 + 1) (c.shB 2) A1 c1 (c.sh 2) 16 wr HPK.out (by omega) (by omega) (by omega) (by omega) (by rw [Cf.shB_len]; omega) hzw)).mono ?_
        rintro e w5 ⟨⟨x5, rfl⟩, ⟨A5, c5, hp5⟩, ho5⟩
        have HP5 : Hid (Pen w.heap.size w5 (w.heap.size + 1 + 1) (c.shB 3) A5 c5) := Lib.hid hp5
        have HO5 := Lib.hid (puts_then HOK1.out ho5)
        clear hp5 ho5 qp
        gi_wp2_with fail
        go_roundw
        case rel => exact ⟨3, A5, c5, by omega, by first | rfl | go_num, HP5, HO5⟩
        case measure => simp [intOf]
      · rw [show ((3 : Nat) : Int) = 3 from rfl]
        have hix : (Instr.index 102 (.agg #[.int .i64 (c.sh 0), .int .i64 (c.sh 1), .int .i64 (c.sh 2), .int .i64 (c.sh 3), .int .i64 (c.sh 4)]) (.int .i64 3)).run Tryd.prog wr = .ok (.int .i64 (c.sh 3)) wr := five_index c.sh wr 3 (by omega) (by omega)
        gi_wp2_with fail
        clear hix
        refine (callsIn_wide.2 (put_int w.heap.size (w.heap.size + 1 + 1) (c.shB 3) A1 c1 (c.sh 3) 16 wr HPK.out (by omega) (by omega) (by omega) (by omega) (by rw [Cf.shB_len]; omega) hzw)).mono ?_
        rintro e w5 ⟨⟨x5, rfl⟩, ⟨A5, c5, hp5⟩, ho5⟩
        have HP5 : Hid (Pen w.heap.size w5 (w.heap.size + 1 + 1) (c.shB 4) A5 c5) := Lib.hid hp5
        have HO5 := Lib.hid (puts_then HOK1.out ho5)
        clear hp5 ho5 qp
        gi_wp2_with fail
        go_roundw
        case rel => exact ⟨4, A5, c5, by omega, by first | rfl | go_num, HP5, HO5⟩
        case measure => simp [intOf]
      · rw [show ((4 : Nat) : Int) = 4 from rfl]
        have hix : (Instr.index 102 (.agg #[.int .i64 (c.sh 0), .int .i64 (c.sh 1), .int .i64 (c.sh 2), .int .i64 (c.sh 3), .int .i64 (c.sh 4)]) (.int .i64 4)).run Tryd.prog wr = .ok (.int .i64 (c.sh 4)) wr := five_index c.sh wr 4 (by omega) (by omega)
        gi_wp2_with fail
        clear hix
        refine (callsIn_wide.2 (put_int w.heap.size (w.heap.size + 1 + 1) (c.shB 4) A1 c1 (c.sh 4) 16 wr HPK.out (by omega) (by omega) (by omega) (by omega) (by rw [Cf.shB_len]; omega) hzw)).mono ?_
        rintro e w5 ⟨⟨x5, rfl⟩, ⟨A5, c5, hp5⟩, ho5⟩
        have HP5 : Hid (Pen w.heap.size w5 (w.heap.size + 1 + 1) (c.shB 5) A5 c5) := Lib.hid hp5
        have HO5 := Lib.hid (puts_then HOK1.out ho5)
        clear hp5 ho5 qp
        gi_wp2_with fail
        go_roundw
        case rel => exact ⟨5, A5, c5, by omega, by first | rfl | go_num, HP5, HO5⟩
        case measure => simp [intOf]
    · obtain rfl : k = 5 := by omega
      have HB5 : Hid (Below w.heap.size w wr) := Lib.hid (HB4.out.trans (below_puts HOK1.out (Nat.le_refl _) (by omega) (by omega)))
      have HH5 := Lib.hid (HH4.out.kept (kept_puts HOK1.out (Nat.le_refl _) (by omega) HP4.out.typed))
      have HQ5 := Lib.hid (boxed_puts HOK1.out HQ4.out (by omega) (by decide))
      have hz5 : w.heap.size + 1 + 1 + 1 + 1 + 1 ≤ wr.heap.size := by have := HOK1.out.size; omega
      clear qp hzw
      gi_wp2_with fail
      refine (callsIn_wide.2 (fields_any w.heap.size wr)).mono ?_
      rintro e v6 ⟨rfl, rfl⟩
      gi_wp2_with fail
      clear hzv
      have hHdr : c.Hdr w.heap.size (wr.alloc (.cells #[.pointer (some ⟨w.heap.size, 0, none⟩)] 72)) w.heap.size := HH5.out.kept (Kept.below ((Below.refl _ _).alloc (Nat.le_refl _) _))
      have hfp := Firm.new w.heap.size wr (.pointer (some ⟨w.heap.size, 0, none⟩)) 72 (.inr (.inl rfl))
      have hb6 := HB5.out.alloc (by omega) (.cells #[.pointer (some ⟨w.heap.size, 0, none⟩)] 72)
      have hbx6 := HQ5.out.alloc (.cells #[.pointer (some ⟨w.heap.size, 0, none⟩)] 72)
      have hpn6 : Pen w.heap.size (wr.alloc (.cells #[.pointer (some ⟨w.heap.size, 0, none⟩)] 72)) (w.heap.size + 1 + 1) (c.shB 5 ++ c.enc (List.map Subtype.val ([] : List c.F))) A1 c1 := by
        have := HPK.out.below ((Below.refl _ _).alloc (Nat.le_refl _) (.cells #[.pointer (some ⟨w.heap.size, 0, none⟩)] 72))
        simpa [Cf.enc] using this
      have HPTR := Lib.hid HC.out.ptr
      have HFL := Lib.hid (Cf.flds_len HOK.out.d)
      refine wpIn_rangeFunc_ownH rfl (by omega) (gf := 37) (lb := #[.pointer (some ⟨wr.heap.size, 0, none⟩)]) rfl trivial (enters_of Tryd.func37 (by kernel_rfl) rfl)
        (fields_stops c _ w.heap.size wr.heap.size w.heap.size _ HOK.out.d.sh HFT.out HPTR.out hHdr hfp) (fun h k => h.trans k) (kept_b (by simp; omega)) (Below.refl _ _) (fun _ => rfl)
        (fun pre W => ((∃ A c', Pen w.heap.size W (w.heap.size + 1 + 1) (c.shB 5 ++ c.enc (pre.map Subtype.val)) A c') ∧ Boxed W (w.heap.size + 1 + 1 + 1) 99 (.pointer (some ⟨w.heap.size + 1 + 1, 0, none⟩))) ∧ Below w.heap.size w W)
        (fun _ _ _ => False)
        (OwnFrom.and (Own.from (fun s A B row hs hg hr => by
          obtain ⟨⟨A', c', h⟩, h2⟩ := hs
          exact ⟨⟨A', c', h.grown hg hr⟩, boxed_grown hg hr h2⟩) _) (ownFrom_below (Nat.le_refl _) (by simp; omega)))
        (fun _ _ _ _ _ hs _ _ => hs)
        ⟨⟨⟨A1, c1, hpn6⟩, hbx6⟩, hb6⟩
        (fun x a' W => ∃ Bx P Q m d, c.fv x.1 = .agg #[.pointer P, .pointer Q, .int .i64 m, .int .i64 d] ∧ W.heap[Bx]? = some (.cells #[.pointer P, .pointer Q, .int .i64 m, .int .i64 d] 75 (0, 0)) ∧ a' = { tmps := #[.agg #[.int .i64 (c.sh 0), .int .i64 (c.sh 1), .int .i64 (c.sh 2), .int .i64 (c.sh 3), .int .i64 (c.sh 4), .slice AC c.nc c.cC, .slice AR c.nr c.cR, .slice AO c.no c.cO], .pointer (some ⟨w.heap.size, 0, none⟩), .slice none 0 0, .pointer (some ⟨w.heap.size + 1 + 1 + 1, 0, none⟩), .pointer (some ⟨w.heap.size + 1 + 1 + 1 + 1, 0, none⟩), undef, u6, .pointer (some ⟨Bx, 0, none⟩), .slice (some ⟨w.heap.size + 1, 0, none⟩) 4 4, .slice (some ⟨w.heap.size + 1, 0, none⟩) 4 4, .agg #[.slice (some ⟨w.heap.size + 1, 0, none⟩) 4 4, .int .i64 0], .pointer (some ⟨w.heap.size + 1 + 1, 0, none⟩), .pointer (some ⟨w.heap.size, 0, none⟩), .agg #[.int .i64 (c.sh 0), .int .i64 (c.sh 1), .int .i64 (c.sh 2), .int .i64 (c.sh 3), .int .i64 (c.sh 4)], .pointer (some ⟨w.heap.size + 1 + 1 + 1 + 1, 0, none⟩), .int .i64 (c.sh 0), .pointer (some ⟨w.heap.size + 1 + 1 + 1 + 1, 1, none⟩), .int .i64 (c.sh 1), .pointer (some ⟨w.heap.size + 1 + 1 + 1 + 1, 2, none⟩), .int .i64 (c.sh 2), .pointer (some ⟨w.heap.size + 1 + 1 + 1 + 1, 3, none⟩), .int .i64 (c.sh 3), .pointer (some ⟨w.heap.size + 1 + 1 + 1 + 1, 4, none⟩), .int .i64 (c.sh 4), .agg #[.int .i64 (c.sh 0), .int .i64 (c.sh 1), .int .i64 (c.sh 2), .int .i64 (c.sh 3), .int .i64 (c.sh 4)], .int .i64 5, .bool false, u27, u28, u29, u30, u31, .func (.func 37) #[] #[.pointer (some ⟨wr.heap.size, 0, none⟩)], .agg #[.pointer P, .pointer Q, .int .i64 m, .int .i64 d], undef, undef, undef, undef, undef, undef, undef, undef, undef, undef, undef, undef, undef, undef, undef, undef, undef, undef, undef, undef, undef, undef, undef, undef, undef, undef], defers := [] })
        (fun x a' s A B row hs hg hr => by
          obtain ⟨Bx, P, Q, m, d, h1, h2, h3⟩ := hs
          exact ⟨Bx, P, Q, m, d, h1, heap_kept hg (fun r e => (hr r e).2) h2, h3⟩) ?assign ?body ?done ?stop
      case assign =>
        rintro l pre x W K ⟨⟨⟨A', c', hP⟩, hQ⟩, hB⟩ hK
        obtain ⟨P, Q, m, d, e, _⟩ := Cf.fv_cases (HC.out.keeps (Keeps.of_below hB)) x
        simp only [e]
        have hKE := Lib.hid e
        have HPP := Lib.hid hP; have HQQ := Lib.hid hQ
        clear e hP hQ
        gi_wp2
        exact hK _ _ ((KeepsOthers.alloc _ _).from _) (Kept.below ((Below.refl _ _).alloc (Nat.le_refl _) _)) ⟨⟨⟨A', c', HPP.out.below ((Below.refl _ _).alloc (Nat.le_refl _) _)⟩, HQQ.out.alloc _⟩, hB.alloc hB.size _⟩ ⟨W.heap.size, P, Q, m, d, hKE.out, heap_alloc_new W _, rfl⟩
      case body =>
        rintro l pre x a' W hl hrec ⟨⟨⟨A', c', hP⟩, hQ⟩, hB⟩ ⟨Bx, P, Q, m, d, he, hbx, rfl⟩ hlt
        have hF : ∀ f, (Fence.wide.inRound l).fn f := fun _ => trivial
        have hcase := Cf.fv_enc (HC.out.keeps (Keeps.of_below hB)) HOK.out x
        have x0 : W.cell? ⟨Bx, 0, none⟩ = some (.pointer P) := by rw [cell_of_row W Bx 0 _ _ _ hbx]; rfl
        have x1 : W.cell? ⟨Bx, 1, none⟩ = some (.pointer Q) := by rw [cell_of_row W Bx 1 _ _ _ hbx]; rfl
        have x3 : W.cell? ⟨Bx, 3, none⟩ = some (.int .i64 d) := by rw [cell_of_row W Bx 3 _ _ _ hbx]; rfl
        have qp := hQ.cell
        have hln : (c.shB 5 ++ c.enc (pre.map Subtype.val)).length ≤ 1000000000 := by
          have h1 := c.enc_len HOK.out.d.sh (pre.map Subtype.val)
          have h2 := HFL.out
          rw [List.length_append, Cf.shB_len]
          simp only [List.length_map] at h1
          omega
        have HLN := Lib.hid hln
        have HPP := Lib.hid hP; have HQB := Lib.hid hQ; have HRE := Lib.hid hrec; have HBW := Lib.hid hB
        have HPT := Lib.hid hP.typed
        have hzw : w.heap.size ≤ W.heap.size := hB.size
        clear hbx hrec hP hQ hB hln
        rcases hcase with ⟨b, o, β, hfv, hv, hfb⟩ | ⟨b, o, v, dd, mm, hfv, hv, hfb, hd16, hv16⟩
        · rw [he] at hfv
          obtain ⟨rfl, rfl, rfl, rfl⟩ : P = none ∧ Q = some ⟨b, o, none⟩ ∧ m = 2 ∧ d = 1 := by simpa using hfv
          clear hfv he
          cases β
          · have HFB : Hid (c.fbits x.1 = bitsOf 0 1) := Lib.hid (by rw [hfb]; rfl)
            clear hfb
            gi_wp2_with fail
            refine (CallsIn.inRound l (callsIn_wide.2 (put_int w.heap.size (w.heap.size + 1 + 1) _ A' c' 0 1 W HPP.out (by omega) (by omega) (by omega) (by omega) HLN.out hzw))).mono ?_
            rintro e w5 ⟨⟨x5, rfl⟩, ⟨A5, c5, hp5⟩, ho5⟩
            have HP5 : Hid (Pen w.heap.size w5 (w.heap.size + 1 + 1) (c.shB 5 ++ c.enc ((pre ++ [x]).map Subtype.val)) A5 c5) := Lib.hid (by
              rw [List.map_append, List.map_cons, List.map_nil, c.enc_append, c.enc_one, HFB.out, ← List.append_assoc]
              exact hp5)
            have HON : Hid (Only (PutS w.heap.size (w.heap.size + 1 + 1) W) W w5) := Lib.hid (ho5)
            clear hp5 ho5
            gi_wp2
            exact ⟨others_puts HON.out HPT.out, kept_puts HON.out (Nat.le_refl _) (by omega) HPT.out, ⟨⟨_, _, HP5.out⟩, boxed_puts HON.out HQB.out (by omega) (by decide)⟩, HBW.out.trans (below_puts HON.out (Nat.le_refl _) (by omega) HBW.out.size)⟩
          · have HFB : Hid (c.fbits x.1 = bitsOf 1 1) := Lib.hid (by rw [hfb]; rfl)
            clear hfb
            gi_wp2_with fail
            refine (CallsIn.inRound l (callsIn_wide.2 (put_int w.heap.size (w.heap.size + 1 + 1) _ A' c' 1 1 W HPP.out (by omega) (by omega) (by omega) (by omega) HLN.out hzw))).mono ?_
            rintro e w5 ⟨⟨x5, rfl⟩, ⟨A5, c5, hp5⟩, ho5⟩
            have HP5 : Hid (Pen w.heap.size w5 (w.heap.size + 1 + 1) (c.shB 5 ++ c.enc ((pre ++ [x]).map Subtype.val)) A5 c5) := Lib.hid (by
              rw [List.map_append, List.map_cons, List.map_nil, c.enc_append, c.enc_one, HFB.out, ← List.append_assoc]
              exact hp5)
            have HON : Hid (Only (PutS w.heap.size (w.heap.size + 1 + 1) W) W w5) := Lib.hid (ho5)
            clear hp5 ho5
            gi_wp2
            exact ⟨others_puts HON.out HPT.out, kept_puts HON.out (Nat.le_refl _) (by omega) HPT.out, ⟨⟨_, _, HP5.out⟩, boxed_puts HON.out HQB.out (by omega) (by decide)⟩, HBW.out.trans (below_puts HON.out (Nat.le_refl _) (by omega) HBW.out.size)⟩
        · rw [he] at hfv
          obtain ⟨rfl, rfl, rfl, rfl⟩ : P = some ⟨b, o, none⟩ ∧ Q = none ∧ m = mm ∧ d = (dd : Int) := by simpa using hfv
          have HFB : Hid (c.fbits x.1 = bitsOf v dd) := Lib.hid hfb
          clear hfv he hfb
          gi_wp2_with fail
          refine wpIn_region_z (fun w' => w'.cell? ⟨w.heap.size + 1 + 1 + 1, 0, none⟩ = some (.pointer (some ⟨w.heap.size + 1 + 1, 0, none⟩)) ∧ w'.cell? ⟨Bx, 0, none⟩ = some (.pointer (some ⟨b, o, none⟩)) ∧ w'.cell? ⟨b, o, none⟩ = some (.int .i64 v) ∧ w'.cell? ⟨Bx, 3, none⟩ = some (.int .i64 dd)) [0, 1, 2, 3, 4, 5, 6] [7] hF (by kernel_rfl) (by kernel_rfl) (by kernel_rfl) (by kernel_rfl) (by rfl) (fun _ _ _ _ _ h => h) ⟨qp, x0, hv, x3⟩ ?_
          iterate 7
            refine Heads.step (v := ?_) rfl (by first | (go_simp; done) | rfl) (fun W hW => ?_) ?_
            rotate_left
            · (obtain ⟨t0, t1, t2, t3⟩ := hW; go_simp; try with_reducible rfl)
          refine AnyY.one (i := 7) hF (by kernel_rfl) rfl (fun K hK => ?_)
          go_simp
          refine (CallsIn.inRound l (callsIn_wide.2 (put_any w.heap.size (w.heap.size + 1 + 1) _ A' c' v dd W.drew (HPP.out.below (Below.refl _ _).drew) (by omega) (by omega) HLN.out hzw))).mono ?_
          rintro e w5 ⟨⟨x5, rfl⟩, ⟨A5, c5, hp5⟩, ho5⟩
          have HP5 : Hid (Pen w.heap.size w5 (w.heap.size + 1 + 1) (c.shB 5 ++ c.enc ((pre ++ [x]).map Subtype.val)) A5 c5) := Lib.hid (by
            rw [List.map_append, List.map_cons, List.map_nil, c.enc_append, c.enc_one, HFB.out, ← List.append_assoc]
            exact hp5)
          have HON : Hid (Only (PutS w.heap.size (w.heap.size + 1 + 1) W) W w5) := Lib.hid (puts_then ((Only.refl _ W).drew) ho5)
          clear hp5 ho5
          refine hK _ _ (fun h => by cases h) (AnyY.done (by kernel_rfl) ?_)
          clear hK
          gi_wp2
          exact ⟨others_puts HON.out HPT.out, kept_puts HON.out (Nat.le_refl _) (by omega) HPT.out, ⟨⟨_, _, HP5.out⟩, boxed_puts HON.out HQB.out (by omega) (by decide)⟩, HBW.out.trans (below_puts HON.out (Nat.le_refl _) (by omega) HBW.out.size)⟩
      case done =>
        rintro D ys W hD hS ⟨⟨⟨A', c', hP⟩, hQ⟩, hB⟩ hK
        rw [hS] at hP
        have qp := hQ.cell
        have c0 := hP.box.cell (k := 0) (by omega)
        simp only [penV] at c0
        rw [← packB_len] at c0
        have hlen : (packB (c.shB 5 ++ c.enc c.flds)).length ≤ 1000000000 := by
          have h1 := c.enc_len HOK.out.d.sh c.flds
          have h2 := HFL.out
          rw [packB_len]; unfold nby
          rw [List.length_append, Cf.shB_len]; omega
        have HRW := Lib.hid hP.row; have HS := Lib.hid hS; have HLEN := Lib.hid hlen; have HBW := Lib.hid hB; have HKD := Lib.hid hK
        have HQB := Lib.hid hQ
        have hDD : w.heap.size ≤ D := by simp at hD; omega
        clear hP hQ hS hlen hB hK
        gi_wp2_with fail
        refine (callsIn_wide.2 (sealed_any w.heap.size (packB (c.shB 5 ++ c.enc c.flds)) A' c' W HRW.out HLEN.out HBW.out.size)).mono ?_
        rintro e w7 ⟨⟨A7, c7, rfl, hb7⟩, ho7⟩
        have hK7 : w7.heap[D]? = some (.deferred (some [])) := (ho7.block D (Array.getElem?_eq_some_iff.1 HKD.out).1 (fun hb => by
          obtain ⟨_, cur, z, hc⟩ := HRW.out.typed D hb
          rw [HKD.out] at hc; cases hc)).trans HKD.out
        have HB7 := Lib.hid hb7; have HO7 := Lib.hid ho7; have HK7 := Lib.hid hK7
        clear hb7 ho7 hK7 qp c0
        gi_wp2
        refine ⟨by simp, .inl ⟨_, _, rfl, run_takeDeferred HK7.out, ?_⟩⟩
        refine leaves0 (v := .slice A7 ((packB (c.shB 5 ++ c.enc c.flds)).length + 4) c7) (by simp [results, Tryd.f27, go_sem]) ⟨⟨A7, c7, ?_, ?_⟩, ?_⟩
        · rw [show c.text.length = (packB (c.shB 5 ++ c.enc c.flds)).length + 4 by unfold Cf.text; rw [List.length_append]; rfl]
        · exact HB7.out.grown (grownBy_putObj' _ D (.deferred none)) (fun r e => by cases e; exact ⟨_, HK7.out, rfl⟩)
        · exact (HBW.out.trans (HO7.out.below (fun j _ hs => (HRW.out.typed j hs).1) HBW.out.size)).trans (belowK_b (w := w) (Nat.le_refl _) w7 D _ _ hDD HK7.out rfl rfl)
      case stop =>
        rintro D cc pre W _ _ h _
        exact h.elim
end Go.Proofs.YtbnjbclkmjjkhaaDoor
