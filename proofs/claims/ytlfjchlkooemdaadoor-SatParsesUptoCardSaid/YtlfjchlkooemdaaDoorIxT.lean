/- strings.IndexAny of blank, tab, line's end in whatever bytes. Condition: the text is shorter than 4294967281 bytes. -/
import Derived.Test.YtlfjchlkooemdaaDoorIxS
import Derived.Lib.TrimUEq
import Derived.Lib.OthersKept
namespace Go.Proofs.YtlfjchlkooemdaaDoor
open Go.RowKit Go.Shelf

theorem decodeN_tail (n b0 b1 b2 b3 : Nat) (h0 : 128 ≤ b0) : 1 ≤ (Lib.decodeN n b0 b1 b2 b3).2 ∧ (Lib.decodeN n b0 b1 b2 b3).2 ≤ 4 ∧ (1 < (Lib.decodeN n b0 b1 b2 b3).2 → 1 < n ∧ 128 ≤ b1) ∧ (2 < (Lib.decodeN n b0 b1 b2 b3).2 → 2 < n ∧ 128 ≤ b2) ∧
    (3 < (Lib.decodeN n b0 b1 b2 b3).2 → 3 < n ∧ 128 ≤ b3) ∧ 128 ≤ (Lib.decodeN n b0 b1 b2 b3).1 := by
  unfold Lib.decodeN
  repeat' split
  all_goals (simp only; omega)
theorem dec_high (s : ByteArray) (i : Nat) (x : UInt8) (hx : s.data.toList[i]? = some x) (h : 128 ≤ x.toNat) :
    1 ≤ (Utf8.decode s i).2 ∧ i + (Utf8.decode s i).2 ≤ s.size ∧ 128 ≤ (Utf8.decode s i).1 ∧ Utf8.valid ((Utf8.decode s i).1 : Int) = true ∧ ∀ j b, i ≤ j → j < i + (Utf8.decode s i).2 → s.data.toList[j]? = some b → 128 ≤ b.toNat := by
  rw [Lib.decode_N]
  obtain ⟨l, hl⟩ : ∃ l, l = s.data.toList := ⟨_, rfl⟩
  rw [← hl] at hx ⊢
  have hi : i < l.length := (List.getElem?_eq_some_iff.1 hx).1
  have hsz : s.size = l.length := by rw [hl]; exact Lib.size_eq s
  have hg : ∀ j b, l[j]? = some b → l.getD j 0 = b := fun j b e => by rw [List.getD_eq_getElem?_getD, e]; rfl
  have h0 : (l.getD i 0).toNat = x.toNat := by rw [hg i x hx]
  have ht := decodeN_tail (l.length - i) (l.getD i 0).toNat (l.getD (i + 1) 0).toNat (l.getD (i + 2) 0).toNat (l.getD (i + 3) 0).toNat (by omega)
  have hv := Lib.decodeN_valid (l.length - i) (l.getD i 0).toNat (l.getD (i + 1) 0).toNat (l.getD (i + 2) 0).toNat (l.getD (i + 3) 0).toNat (UInt8.toNat_lt _)
  generalize hd : Lib.decodeN (l.length - i) (l.getD i 0).toNat (l.getD (i + 1) 0).toNat (l.getD (i + 2) 0).toNat (l.getD (i + 3) 0).toNat = d at *
  obtain ⟨t1, t2, t3, t4, t5, t6⟩ := ht
  refine ⟨t1, by omega, t6, ?_, fun j b hj hj2 hb => ?_⟩
  · unfold Utf8.valid
    simp only [Bool.or_eq_true, Bool.and_eq_true, decide_eq_true_eq]
    omega
  · have e := hg j b hb
    obtain rfl | rfl | rfl | rfl : j = i ∨ j = i + 1 ∨ j = i + 2 ∨ j = i + 3 := by omega
    · rw [← e]; omega
    · rw [← e]; exact (t3 (by omega)).2
    · rw [← e]; exact (t4 (by omega)).2
    · rw [← e]; exact (t5 (by omega)).2
theorem noAny_high {l : List UInt8} {i W : Nat} (h : Lib.NoAny l [32, 9, 10] i) (hh : ∀ j b, i ≤ j → j < i + W → l[j]? = some b → 128 ≤ b.toNat) : Lib.NoAny l [32, 9, 10] (i + W) := fun j b hj hb => by
  by_cases e : j < i
  · exact h j b e hb
  · have h2 := hh j b (by omega) hj hb
    have h3 : ¬ b = 32 := by rintro rfl; revert h2; decide
    have h4 : ¬ b = 9 := by rintro rfl; revert h2; decide
    have h5 : ¬ b = 10 := by rintro rfl; revert h2; decide
    simp [h3, h4, h5]

def strLeft (k n : Nat) (w : World) : Nat := match w.heap[k]? with
  | some (.stringIter _ i) => n - i
  | _ => 0
theorem strLeft_at {k n i : Nat} {w : World} {s : ByteArray} (h : w.heap[k]? = some (.stringIter s i)) : strLeft k n w = n - i := by unfold strLeft; rw [h]

set_option maxRecDepth 100000 in
set_option maxHeartbeats 4000000 in
theorem indexAny_few (s : ByteArray) (w : World) (h8 : s.size ≤ 8) :
    Calls Tryd.prog 21 #[.string s, .string ⟨#[32, 9, 10]⟩] w fun e w' => e = .returned (.int .i64 (Lib.indexAny s.data.toList [32, 9, 10])) ∧ Below w.heap.size w w' := by
  have h8z : decide ((8 : Int) < (s.size : Int)) = false := decide_eq_false (by omega)
  have H8 := Lib.hid h8
  clear h8
  go_enter Tryd.func21, Tryd.ntmps21
  go_wp2_with (go_at_call 33; refine (Tryd.strings_shouldUseASCIISet _ _).mono ?_; rintro e w' ⟨rfl, hw⟩; rw [hw, h8z])
  clear hw h8z
  go_wp2_with fail
  go_loopw [9, 10] (fun _ _ wx => ∃ i : Nat, i ≤ s.size ∧ wx.heap[w.heap.size]? = some (.stringIter s i) ∧ Below w.heap.size w wx ∧ Hid (Lib.NoAny s.data.toList [32, 9, 10] i)) (fun _ _ wx => strLeft w.heap.size s.size wx)
  case atStart => exact ⟨0, by omega, World.iter_heap w s 0, (Below.refl _ _).alloc (Nat.le_refl _) _, Lib.hid (Lib.NoAny.zero _ _)⟩
  case round =>
    obtain ⟨i, hi, hit, hbw, HNO⟩ := hrel
    have HIT := Lib.hid hit; have HBW := Lib.hid hbw
    have hkl : w.heap.size < wr.heap.size := (Array.getElem?_eq_some_iff.1 hit).1
    by_cases hlt : i < s.size
    · have hxl := Lib.data_getElem? s i hlt
      obtain ⟨x, hxe⟩ : ∃ x : UInt8, s[i]'hlt = x := ⟨_, rfl⟩
      rw [hxe] at hxl
      have HX := Lib.hid hxl
      by_cases hx : x.toNat < 128
      · have hnx := fun ty => Lib.run_next_ascii_at (P := Tryd.prog) wr w.heap.size s i ty HIT.out hlt (by rw [hxe]; exact hx)
        rw [hxe] at hnx
        have hh := Lib.iterAt_heap wr w.heap.size s i (i + 1) HIT.out
        have hb2 := Lib.below_iterAt HBW.out (Nat.le_refl _) s (i + 1)
        have hms := strLeft_at (n := s.size) HIT.out
        have hms2 := strLeft_at (n := s.size) hh
        clear hxe hxl hit hbw
        generalize wr.iterAt w.heap.size s (i + 1) = w2 at *
        have HH := Lib.hid hh; have HB2 := Lib.hid hb2; have HMS := Lib.hid hms; have HMS2 := Lib.hid hms2
        clear hh hb2 hms hms2
        have hcon := Lib.contains_iff_indexByte [32, 9, 10] x
        have hback : ((x.toNat : Int)).toNat.toUInt8 = x := by simp
        cases hin : ([32, 9, 10] : List UInt8).contains x
        · rw [hin] at hcon
          have hlt2 : ¬ ((0 : Int) ≤ Lib.indexByte [32, 9, 10] x) := of_decide_eq_false hcon.symm
          have HIN := Lib.hid hin
          clear hcon hin
          go_wp2_with (go_at_call 32; refine (Tryd.strings_IndexRune_ascii ⟨#[32, 9, 10]⟩ _ _ (by omega) (by omega)).mono ?_; rintro e w' ⟨rfl, hw⟩; rw [hw, hback])
          go_roundw
          case rel => exact ⟨i + 1, by omega, HH.out, HB2.out, Lib.hid (HNO.out.succ HX.out HIN.out)⟩
          case measure => rw [HMS2.out, HMS.out]; omega
        · rw [hin] at hcon
          have hge : (0 : Int) ≤ Lib.indexByte [32, 9, 10] x := of_decide_eq_true hcon.symm
          have HIN := Lib.hid hin
          clear hcon hin
          go_wp2_with (go_at_call 32; refine (Tryd.strings_IndexRune_ascii ⟨#[32, 9, 10]⟩ _ _ (by omega) (by omega)).mono ?_; rintro e w' ⟨rfl, hw⟩; rw [hw, hback])
          go_ret
          exact ⟨by rw [Lib.indexAny_hit HNO.out HX.out HIN.out]; rfl, HB2.out⟩
      · obtain ⟨d1, d2, d3, d4, d5⟩ := dec_high s i x hxl (by omega)
        have hnx := fun ty => Lib.run_next_any_at (P := Tryd.prog) wr w.heap.size s i ty HIT.out hlt
        obtain ⟨d, hd⟩ : ∃ d, Utf8.decode s i = d := ⟨_, rfl⟩
        rw [hd] at d1 d2 d3 d4 d5 hnx
        have hh := Lib.iterAt_heap wr w.heap.size s i (i + d.2) HIT.out
        have hb2 := Lib.below_iterAt HBW.out (Nat.le_refl _) s (i + d.2)
        have hms := strLeft_at (n := s.size) HIT.out
        clear hxe hxl hit hbw hd
        generalize wr.iterAt w.heap.size s (i + d.2) = w2 at *
        have HH := Lib.hid hh; have HB2 := Lib.hid hb2; have HMS := Lib.hid hms; have H5 := Lib.hid (noAny_high HNO.out d5); have H4 := Lib.hid d4
        clear hh hb2 hms d5 d4
        go_wp2_with (go_at_call 32; refine (indexRune_high d.1 _ d3 H4.out).mono ?_; rintro e w3 ⟨rfl, hb3⟩)
        have hk2 : w.heap.size < w2.heap.size := (Array.getElem?_eq_some_iff.1 HH.out).1
        have hh3 := (hb3.block w.heap.size hk2).trans HH.out
        have hms3 := strLeft_at (n := s.size) hh3
        have hbb := HB2.out.trans (hb3.mono (by omega))
        go_roundw
        case rel => exact ⟨i + d.2, by omega, hh3, hbb, H5⟩
        case measure => rw [hms3, HMS.out]; omega
    · have hnx := fun ty => Lib.run_next_end_at (P := Tryd.prog) wr w.heap.size s i ty HIT.out hlt
      obtain hie : i = s.size := by omega
      rw [hie] at HNO
      have hno : Lib.indexAny s.data.toList [32, 9, 10] = -1 := Lib.indexAny_none (by rw [← Lib.size_eq]; exact HNO.out)
      have HNX := Lib.hid hno
      clear hit hno hie
      go_wp2_with fail
      go_ret
      exact ⟨by rw [HNX.out]; rfl, HBW.out⟩
/-- .. of whatever text -/
theorem indexAny_sp (s : ByteArray) (w : World) (hs : s.size < 4294967281) :
    Calls Tryd.prog 21 #[.string s, .string ⟨#[32, 9, 10]⟩] w fun e w' => e = .returned (.int .i64 (Lib.indexAny s.data.toList [32, 9, 10])) ∧ Below w.heap.size w w' := by
  by_cases h8 : s.size ≤ 8
  · exact indexAny_few s w h8
  · refine (Any.strings_IndexAny_long Tryd.lays153 (fun w => by kernel_rfl) (by kernel_rfl) s ⟨#[32, 9, 10]⟩ w (by decide) (by omega) hs (by decide) (fun j b h => by
      match j, h with
      | 0, h => simp at h; subst h; decide
      | 1, h => simp at h; subst h; decide
      | 2, h => simp at h; subst h; decide
      | j + 3, h => simp at h)).mono fun e w' ⟨h1, h2⟩ => ⟨h1, ?_⟩
    rw [h2]
    exact ((Below.refl _ _).alloc (Nat.le_refl _) _).alloc (by simp) _
end Go.Proofs.YtlfjchlkooemdaaDoor
