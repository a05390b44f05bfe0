/- The reference's Stream.put, walked: the bits are packed behind those that stand. Condition: the stream's row is the call's own. -/
import Derived.Test.YtbnjbclkmjjkhaaDoorBtW
import Derived.Test.YtbnjbclkmjjkhaaDoorDrawn2
import Derived.IntWalk
import Derived.Deep.DeepCutAuto
import Derived.Laws.Bits64b
namespace Go.Proofs.YtbnjbclkmjjkhaaDoor
open Go.RowKit

/-- the reference's stream: its bytes, how many bits they hold -/
def strV (A : Option Addr) (n c : Nat) (m : Nat) : Nat → Value
  | 0 => .slice A n c
  | 1 => .int .i64 m
  | 2 => .int .i64 0
  | _ => .bool false
structure Strm (base : Nat) (w : World) (bp : Nat) (L : List Bool) (A : Option Addr) (c : Nat) : Prop where
  box : Arr w bp 48 4 (strV A (nby L) c L.length)
  row : Byt base w A c (packB L)
theorem Strm.apart {base : Nat} {w : World} {bp : Nat} {L : List Bool} {A : Option Addr} {c : Nat} (h : Strm base w bp L A c) : ¬ blockOf A bp := fun hb => by
  obtain ⟨_, cur, z, hc⟩ := h.row.typed bp hb
  obtain ⟨cur', hh, _⟩ := h.box
  rw [hc] at hh
  injection hh with hh
  injection hh with _ h2
  exact absurd h2 (by decide)

set_option maxRecDepth 100000 in
set_option maxHeartbeats 8000000 in
theorem refPut_any (base bp : Nat) (L : List Bool) (A : Option Addr) (c : Nat) (v n : Nat) (w : World) (hP : Strm base w bp L A c) (_ : v < 4611686018427387904) (hn : n ≤ 62) (hL : L.length ≤ 1000000000) (hb : base ≤ w.heap.size) :
    Calls Tryd.prog 13 #[.pointer (some ⟨bp, 0, none⟩), .int .i64 v, .int .i64 n] w fun e w' => (∃ x, e = .returned x) ∧ (∃ A' c', Strm base w' bp (L ++ bitsOf v n) A' c') ∧ Only (PutS base bp w) w w' := by
  have HP := Lib.hid hP
  clear hP
  go_enter Tryd.func13, Tryd.ntmps13
  go_wp2_with fail
  go_loopw [6] (fun vi wr => ∃ (k : Nat) (A' : Option Addr) (c' : Nat), k ≤ n ∧ vi = .int .i64 ((n : Int) - 1 - k) ∧ Hid (Strm base wr bp (L ++ (bitsOf v n).take k) A' c') ∧ Hid (Only (PutS base bp w) w wr)) (fun vi _ => (intOf vi + 1).toNat)
  case atStart => exact ⟨0, A, c, by omega, by simp, Lib.hid (by simpa using HP.out), Lib.hid (Only.refl _ _)⟩
  case round =>
    obtain ⟨k, A', c', hk, rfl, HPK, HO⟩ := hrel
    by_cases hlt : k < n
    · have hbx := HPK.out.box
      have hrow := HPK.out.row
      have hm : (L ++ (bitsOf v n).take k).length ≤ 1000000062 := by simp [bitsOf_len]; omega
      have HTK : Hid (L ++ (bitsOf v n).take (k + 1) = (L ++ (bitsOf v n).take k) ++ [decide (v / 2 ^ (n - 1 - k) % 2 = 1)]) := Lib.hid (by rw [bitsOf_take v n k hlt, List.append_assoc])
      have hap := HPK.out.apart
      have hi : (n : Int) - 1 - k = ((n - 1 - k : Nat) : Int) := by omega
      rw [hi]
      have hik : n - 1 - k + k + 1 = n := by omega
      generalize n - 1 - k = i at *
      have HIK := Lib.hid hik; have HI := Lib.hid hi
      clear hik hi
      generalize L ++ (bitsOf v n).take k = M at *
      have hm1 : (M.length : Int) ≤ 1000000062 := by omega
      have c0 := hbx.cell (k := 0) (by omega); have c1 := hbx.cell (k := 1) (by omega)
      have z0 := hbx.thaw 0; have z1 := hbx.thaw 1
      simp only [strV] at c0 c1
      have hrowO : OwnB base wr A' (nby M) c' (Lib.byteCells (packB M)) := by have := hrow; unfold Byt at this; rwa [packB_len] at this
      have hnb : nby M ≤ 200000000 := by unfold nby; omega
      have hbs : base ≤ wr.heap.size := Nat.le_trans hb HO.out.size
      obtain ⟨q, hq⟩ : ∃ q, q = M.length / 8 := ⟨_, rfl⟩
      obtain ⟨r, hr⟩ : ∃ r, r = 7 - M.length % 8 := ⟨_, rfl⟩
      obtain ⟨m, hmm⟩ : ∃ m, m = M.length := ⟨_, rfl⟩
      rw [← hmm] at hbx c1 hm hm1
      have HBX := Lib.hid hbx; have HROW := Lib.hid hrow; have HAP := Lib.hid hap; have HRO := Lib.hid hrowO
      have hqm : m = 8 * q + (7 - r) ∧ r ≤ 7 := by omega
      have hr7 := hqm.2
      have hqb : q ≤ 200000000 := by omega
      have HQM := Lib.hid hqm.1
      have HQ := Lib.hid hq; have HR := Lib.hid hr; have HMM := Lib.hid hmm
      clear hbx hrow hap hrowO hq hr hmm hqm
      go_upto_if 18 with (fail)
      go_cut [] (fun wx => ∃ A2 c2, Hid (Arr wx bp 48 4 (strV A2 (q + 1) c2 m)) ∧ Hid (Byt base wx A2 c2 (rowQ M (q + 1))) ∧ Hid (Only (PutS base bp wr) wr wx))
      case first =>
        by_cases h8 : M.length % 8 = 0
        · have hb0 : ((m : Int) % 8 == 0) = true := by
            have : (m : Int) % 8 = 0 := by rw [HMM.out]; omega
            rw [this]; rfl
          have H8 := Lib.hid h8; have HM := Lib.hid hm
          have HN8 : Hid (nby M = q) := Lib.hid (by rw [HQ.out]; unfold nby; omega)
          clear h8 hm
          go_wp2_with (at_builtin; refine wp_append_b rfl (.tmp 23) (.tmp 24) (by rfl) base A' (nby M) c' (Lib.byteCells (packB M)) (by rfl) (HRO.out.alloc _) _ 1 1 [.int .u8 0] (by rfl) (src_new wr _ _ rfl) (by omega) (by simp; omega) ?_; intro A2 c2 w2 ho hko hbo; have hbx2 := (HBX.out.alloc (.cells #[.int .u8 0] 5)).only hko HAP.out; have d0 := hbx2.cell (k := 0) (by omega); have y0 := hbx2.thaw 0; simp only [strV] at d0; have HO2 := Lib.hid ho; have HKO := Lib.hid hko; have HBO := Lib.hid hbo; have HBX2 := Lib.hid hbx2; clear ho hko hbo hbx2)
          go_meet
          have hrow2 : Byt base w2 A2 c2 (rowQ M (q + 1)) := by
            rw [HQ.out, packB_new H8.out]
            have h := HO2.out
            unfold Byt
            rw [Lib.byteCells_append, List.length_append, packB_len]; exact h
          have hon : Only (PutS base bp wr) wr w2 := puts_then ((Only.refl _ wr).alloc (.cells #[.int .u8 0] 5)) (puts_blk (HROW.out.alloc _) HKO.out)
          have hap2 : ¬ blockOf A2 bp := fun h => by
            rcases HBO.out bp h with h | h
            · exact HAP.out h
            · have := HBX.out.lt; simp at h; omega
          refine ⟨A2, c2, Lib.hid ?_, Lib.hid ?_, Lib.hid ?_⟩
          · have h1 : Arr (w2.setCell ⟨bp, 0, none⟩ (.slice A2 (nby M + 1) c2)) bp 48 4 (strV A2 (nby M + 1) c2 m) := HBX2.out.set (fun j hj hne => by
              obtain rfl | rfl | rfl : j = 1 ∨ j = 2 ∨ j = 3 := by omega
              all_goals rfl) rfl
            rw [HN8.out] at h1
            rw [HN8.out]
            exact h1
          · have hs : Only (fun k => k = bp) w2 (w2.setCell ⟨bp, 0, none⟩ (.slice A2 (nby M + 1) c2)) := Only.setCell (p := ⟨bp, 0, none⟩) (Only.refl (fun k => k = bp) w2) (fun _ => rfl) _
            exact hrow2.only hs (fun b hb e => hap2 (e ▸ hb))
          · exact puts_then hon (puts_box 0 _)
        · have hb0 : ((m : Int) % 8 == 0) = false := by
            have : (m : Int) % 8 ≠ 0 := by rw [HMM.out]; omega
            simpa using this
          have H8 := Lib.hid h8; have HM := Lib.hid hm
          clear h8 hm
          go_wp2_with fail
          go_meet
          exact ⟨A', c', Lib.hid (by rw [show q + 1 = nby M by rw [HQ.out]; have := H8.out; unfold nby; omega]; exact HBX.out), Lib.hid (by rw [HQ.out, packB_more H8.out]; exact HROW.out), Lib.hid (Only.refl _ _)⟩
      case rest =>
        obtain ⟨A2, c2, HB2, HW2, HO2⟩ := hcut
        have hi63 : i ≤ 62 := by have := HIK.out; omega
        have hapc : ¬ blockOf A2 bp := fun hb => by
          obtain ⟨_, cur, z, hc⟩ := HW2.out.typed bp hb
          obtain ⟨cur', hh, _⟩ := HB2.out
          rw [hc] at hh
          injection hh with hh
          injection hh with _ h2
          exact absurd h2 (by decide)
        have HAPC := Lib.hid hapc
        clear hapc c0 c1 z0 z1
        go_upto_if 33 with (fail)
        have htm : ((v : Int) / 2 ^ i).tmod 2 = ((v / 2 ^ i % 2 : Nat) : Int) := by
          have h0 : (v : Int) / 2 ^ i = ((v / 2 ^ i : Nat) : Int) := by push_cast; rfl
          rw [h0]
          generalize v / 2 ^ i = u
          rw [Int.tmod_eq_emod_of_nonneg (by omega)]
          omega
        have HTM := Lib.hid htm
        clear htm
        have c0 := HB2.out.cell (k := 0) (by omega); have c1 := HB2.out.cell (k := 1) (by omega)
        have z0 := HB2.out.thaw 0; have z1 := HB2.out.thaw 1
        simp only [strV] at c0 c1
        have HLEN : Hid (nby (M ++ [decide (v / 2 ^ i % 2 = 1)]) = q + 1 ∧ (M ++ [decide (v / 2 ^ i % 2 = 1)]).length = m + 1) := Lib.hid (by rw [HQ.out, HMM.out]; unfold nby; simp; omega)
        go_cut [] (fun wx => Hid (Arr wx bp 48 4 (strV A2 (q + 1) c2 m)) ∧ Hid (Byt base wx A2 c2 (packB (M ++ [decide (v / 2 ^ i % 2 = 1)]))) ∧ Hid (Only (PutS base bp wr) wr wx))
        case first =>
          by_cases hbit : v / 2 ^ i % 2 = 1
          case neg =>
            have ht : (((v : Int) / 2 ^ i).tmod 2 == 1) = false := by
              rw [HTM.out]
              have : v / 2 ^ i % 2 = 0 := by omega
              rw [this]; rfl
            have HW3 : Hid (Byt base wc A2 c2 (packB (M ++ [decide (v / 2 ^ i % 2 = 1)]))) := Lib.hid (by rw [decide_eq_false hbit, packB_false, ← HQ.out]; exact HW2.out)
            clear hbit
            go_wp2_with fail
            go_meet
            exact ⟨HB2, HW3, HO2⟩
          have ht : (((v : Int) / 2 ^ i).tmod 2 == 1) = true := by
            rw [HTM.out, hbit]; rfl
          obtain ⟨g, cur, lo, hi', hA2, hbg, hg, x0, xz⟩ := HW2.out.at_ (i := q) (by rw [HQ.out]; exact rowQ_last M)
          subst hA2
          have hxn : ((UInt8.ofNat (byteN M (M.length / 8))).toNat : Int) = (byteN M q : Nat) := by
            rw [← HQ.out]
            have := byteN_lt M q
            simp [UInt8.toNat_ofNat']; omega
          rw [hxn] at x0
          have hy := byteN_lt M q
          have HYM : Hid (byteN M q % 2 ^ (r + 1) = 0) := Lib.hid (by have := (byteN_new M true).2; rw [← HQ.out] at this; rw [HR.out, show 7 - M.length % 8 + 1 = 8 - M.length % 8 by omega]; exact this)
          have HPS : Hid (packB (M ++ [decide (v / 2 ^ i % 2 = 1)]) = (rowQ M (q + 1)).set q (UInt8.ofNat (byteN M q + 2 ^ r))) := Lib.hid (by rw [packB_snoc, ← HQ.out, ← HR.out, decide_eq_true hbit]; simp)
          clear hxn hg hbit
          generalize byteN M q = y at *
          have e0 : (m : Int) / 8 = q := by rw [HQM.out]; omega
          have e8 : (m : Int) % 8 = 7 - r := by rw [HQM.out]; omega
          have e9 : (7 : Int) - (7 - r) = r := by omega
          have e1 : IntKind.i64.wrap (r : Int) = r := IntWalk.i64_in _ (by omega)
          have e5 : IntKind.i64.wrap (q : Int) = q := IntWalk.i64_in _ (by omega)
          have e2 : (q : Int).toNat = q := by omega
          have e3 : (q : Int) < q + 1 := by omega
          have e4 : IntKind.u64.wrap (r : Int) = r := by rw [IntKind.wrap_u64]; omega
          have hm0 : (0 : Int) ≤ m := by omega
          go_wp2_with fail
          refine wp_region_z (fun w' => w'.cell? ⟨bp, 0, none⟩ = some (.slice (some ⟨g, 0, none⟩) (q + 1) c2) ∧ w'.cell? ⟨bp, 1, none⟩ = some (.int .i64 m) ∧ w'.cell? ⟨g, q, none⟩ = some (.int .u8 y)) [0, 1, 2, 3, 4, 5, 6, 7, 8, 9, 10, 11, 12, 13, 14, 15, 16, 17, 18, 19, 20, 21, 22, 23, 24, 25] [30] (by kernel_rfl) (by kernel_rfl) (by kernel_rfl) (by rfl) (fun _ _ _ _ e h => ⟨e.symm.trans h.1, h.2⟩) ⟨c0, c1, x0⟩ ?_
          iterate 26
            refine Heads.step (v := ?_) rfl (by first | (go_simp; done) | rfl) (fun W hW => ?_) ?_
            rotate_left
            · (obtain ⟨t0, t1, t2⟩ := hW; go_simp; try with_reducible rfl)
          refine AnyZ.one (i := 26) (by kernel_rfl) rfl (fun K hK => ?_)
          go_simp
          refine hK _ _ (fun _ => ⟨c0, c1, x0⟩) ?_
          clear hK
          refine AnyZ.mid [27, 28, 29] [30] 1 rfl (by kernel_rfl) (by kernel_rfl) (by kernel_rfl) (fun _ _ _ _ e h => ⟨e.symm.trans h.1, h.2⟩) ⟨c0, c1, x0⟩ ?_
          iterate 3
            refine Heads.step (v := ?_) rfl (by first | (go_simp; done) | rfl) (fun W hW => ?_) ?_
            rotate_left
            · (obtain ⟨t0, t1, t2⟩ := hW; go_simp; try with_reducible rfl)
          refine AnyZ.one (i := 30) (by kernel_rfl) rfl (fun K hK => ?_)
          go_simp
          have hsum : y + 2 ^ r < 256 := by
            have h := HYM.out
            obtain rfl | rfl | rfl | rfl | rfl | rfl | rfl | rfl : r = 0 ∨ r = 1 ∨ r = 2 ∨ r = 3 ∨ r = 4 ∨ r = 5 ∨ r = 6 ∨ r = 7 := by omega
            all_goals omega
          have hor : bits BinOp.or IntKind.u8 (y : Int) (IntKind.u8.wrap (2 ^ min (IntKind.u64.wrap (IntKind.i64.wrap (7 - (m : Int).tmod 8))).toNat 8)) = ((y + 2 ^ r : Nat) : Int) := by
            have ht : (7 : Int) - (m : Int).tmod 8 = r := by rw [Int.tmod_eq_emod_of_nonneg (by omega), e8]; omega
            rw [ht, e1, e4]
            have h := or_pow ⟨r, by omega⟩ ⟨y, hy⟩ HYM.out
            rw [show IntKind.u8.wrap (2 ^ min ((r : Int).toNat) 8) = ((2 ^ r : Nat) : Int) by
              obtain rfl | rfl | rfl | rfl | rfl | rfl | rfl | rfl : r = 0 ∨ r = 1 ∨ r = 2 ∨ r = 3 ∨ r = 4 ∨ r = 5 ∨ r = 6 ∨ r = 7 := by omega
              all_goals rfl]
            exact h
          rw [hor]
          have HXV : Hid (((y + 2 ^ r : Nat) : Int) = ((UInt8.ofNat (y + 2 ^ r)).toNat : Int)) := Lib.hid (by rw [show (UInt8.ofNat (y + 2 ^ r)).toNat = y + 2 ^ r by rw [UInt8.toNat_ofNat']; exact Nat.mod_eq_of_lt hsum])
          clear hor
          refine hK _ _ (fun h => by cases h) (AnyZ.done (by kernel_rfl) ?_)
          clear hK
          have hgb : g ≠ bp := fun e => HAPC.out ⟨_, rfl, e.symm⟩
          have HB4 : Hid (Arr ((wc.setCell ⟨g, q, none⟩ (.int .u8 ((y + 2 ^ r : Nat) : Int))).drew) bp 48 4 (strV (some ⟨g, 0, none⟩) (q + 1) c2 m)) := Lib.hid ((HB2.out.only (Only.setCell (p := ⟨g, q, none⟩) (Only.refl (fun k => k = g) wc) (fun _ => rfl) _) (fun e => hgb e.symm)).heap rfl)
          have HW4 : Hid (Byt base ((wc.setCell ⟨g, q, none⟩ (.int .u8 ((y + 2 ^ r : Nat) : Int))).drew) (some ⟨g, 0, none⟩) c2 (packB (M ++ [decide (v / 2 ^ i % 2 = 1)]))) := Lib.hid (by rw [HPS.out]; exact (HW2.out.set q _ _ HXV.out).heap rfl)
          have HO4 : Hid (Only (PutS base bp wr) wr ((wc.setCell ⟨g, q, none⟩ (.int .u8 ((y + 2 ^ r : Nat) : Int))).drew)) := Lib.hid (puts_drew (puts_then HO2.out (puts_cell HW2.out q _)))
          clear c0 c1 z0 z1 x0 xz e0 e1 e2 e3 e4 e5 e8 e9 hgb ht
          go_wp2_with fail
          go_meet
          exact ⟨HB4, HW4, HO4⟩
        case rest =>
          obtain ⟨HB5, HW5, HO5⟩ := hcut
          clear c0 c1 z0 z1
          have c1 := HB5.out.cell (k := 1) (by omega)
          have z1 := HB5.out.thaw 1
          simp only [strV] at c1
          have HSTR : Hid (Strm base (wc.setCell ⟨bp, 1, none⟩ (.int .i64 ((m : Int) + 1))) bp (L ++ (bitsOf v n).take (k + 1)) A2 c2) := Lib.hid (by
            rw [HTK.out]
            refine ⟨?_, ?_⟩
            · rw [HLEN.out.1, HLEN.out.2]
              exact HB5.out.set (fun j hj hne => by
                obtain rfl | rfl | rfl : j = 0 ∨ j = 2 ∨ j = 3 := by omega
                all_goals rfl) rfl
            · exact HW5.out.only (Only.setCell (p := ⟨bp, 1, none⟩) (Only.refl (fun k => k = bp) wc) (fun _ => rfl) _) (fun b hb e => HAPC.out (e ▸ hb)))
          have HON : Hid (Only (PutS base bp w) w (wc.setCell ⟨bp, 1, none⟩ (.int .i64 ((m : Int) + 1)))) := Lib.hid (puts_then HO.out (puts_then HO5.out (puts_box 1 _)))
          go_wp2_with fail
          go_roundw
          case rel => exact ⟨k + 1, A2, c2, by omega, congrArg (Value.int .i64) (by have := HI.out; push_cast; omega), HSTR, HON⟩
          case measure => simp [intOf]
    · obtain rfl : k = n := by omega
      go_wp2_with fail
      go_end0
      exact ⟨⟨_, rfl⟩, ⟨A', c', by have := HPK.out; rwa [List.take_of_length_le (by rw [bitsOf_len]; exact Nat.le_refl _)] at this⟩, HO.out⟩
end Go.Proofs.YtbnjbclkmjjkhaaDoor
