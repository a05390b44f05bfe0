/- StreamDecodes, its walk: whatever bytes come in, the law returns true: stream.Decode tells what the reference's Decode tells. Conditions: the bytes lie in memory and are within the form's reach; errors.errorType is as the program lays it. -/
import Derived.Test.YtbnjbclkmjjkhaaDoorDrW
import Derived.Test.YtbnjbclkmjjkhaaDoorDkW
import Derived.Test.YtbnjbclkmjjkhaaDoorSmC
import Derived.Test.YtbnjbclkmjjkhaaDoorErB
import Derived.Test.YtbnjbclkmjjkhaaDoorCfT
namespace Go.Proofs.YtbnjbclkmjjkhaaDoor
open Go.RowKit Go.Shelf Go.Deep

set_option maxHeartbeats 4000000 in
theorem faulty_nil (w : World) : Calls Tryd.prog 11 #[.nilIface, .agg #[.int .i64 0, .int .i64 0]] w fun e w' => e = .returned (.bool true) ∧ Below w.heap.size w w' := by
  go_enter Tryd.func11, Tryd.ntmps11
  go_wp2_with fail
  refine (code_nil _).mono ?_
  rintro e w1 ⟨rfl, e1⟩
  subst e1
  go_wp2_with fail
  go_ret
  exact ⟨rfl, (Below.refl _ _).alloc (Nat.le_refl _) _⟩
set_option maxHeartbeats 4000000 in
theorem faulty_fault (b : Nat) (w : World) (hg : ErrT w) (hx : w.cell? ⟨b, 0, none⟩ = some (.int .i64 18)) (hy : w.cell? ⟨b, 1, none⟩ = some (.int .i64 0)) : Calls Tryd.prog 11 #[.iface 63 (.pointer (some ⟨b, 0, none⟩)), .agg #[.int .i64 18, .int .i64 0]] w fun e w' => e = .returned (.bool true) ∧ Below w.heap.size w w' := by
  have HG := Lib.hid hg; have HX := Lib.hid hx; have HY := Lib.hid hy
  clear hg hx hy
  go_enter Tryd.func11, Tryd.ntmps11
  go_wp2_with fail
  have hk : Keeps w (w.alloc (.cells #[.int .i64 18, .int .i64 0] 41)) := Keeps.alloc _ _
  have hb0 : Below w.heap.size w (w.alloc (.cells #[.int .i64 18, .int .i64 0] 41)) := (Below.refl _ _).alloc (Nat.le_refl _) _
  have hn := heap_alloc_new w (.cells #[.int .i64 18, .int .i64 0] 41)
  refine (code_fault b 0 18 0 _ (HG.out.keeps hk) (hk _ _ HX.out) (hk _ _ HY.out)).mono ?_
  rintro e w1 ⟨rfl, h1⟩
  have hn1 := heap_below h1 hn
  have c0 : w1.cell? ⟨w.heap.size, 0, none⟩ = some (.int .i64 18) := by rw [cell_of_row w1 w.heap.size 0 _ _ _ hn1]; rfl
  have c1 : w1.cell? ⟨w.heap.size, 1, none⟩ = some (.int .i64 0) := by rw [cell_of_row w1 w.heap.size 1 _ _ _ hn1]; rfl
  have HB := Lib.hid (hb0.trans (h1.mono (by simp)))
  clear hn hn1 hk hb0 h1
  go_wp2_with fail
  go_ret
  exact ⟨rfl, HB.out⟩

theorem ErrT.below {w w1 : World} (h : ErrT w) (k : Below w.heap.size w w1) : ErrT w1 := h.keeps (Keeps.of_below k)
theorem plain_len : (plainC 0).text.length ≤ 100000000 := by
  have h := (plainC 0).enc_len (plain_ok 0).d.sh (plainC 0).flds
  have h3 := Cf.flds_len (plain_ok 0).d
  unfold Cf.text Cf.encB
  rw [List.length_append, packB_len]
  unfold nby
  rw [List.length_append, Cf.shB_len]
  show _ + 4 ≤ _
  omega
/-- no configuration, as one -/
def cfZ : Cf := { sh := fun _ => 0, nc := 0, rows := fun _ => 0, B := fun _ _ => 0, L := fun _ _ _ => 0, nr := 0, RS := fun _ => 0, RI := fun _ => false, no := 0, O := fun _ => 0, AC := none, AR := none, AO := none, cC := 0, cR := 0, cO := 0, CA := fun _ => none, cc := fun _ => 0 }
theorem cfZ_at (w : World) : (cfZ.lay none none none 0 0 0 (fun _ => none) (fun _ => 0)).At w := ⟨fun h => absurd h (by show ¬ (0 < 0); omega), fun i hi => absurd hi (by show ¬ (i < 0); omega), fun h => absurd h (by show ¬ (0 < 0); omega), fun h => absurd h (by show ¬ (0 < 0); omega)⟩
theorem cfZ_fits : cfZ.Fits := ⟨by show 0 ≤ _; omega, fun i hi => absurd hi (by show ¬ (i < 0); omega), by show 0 ≤ _; omega, by show 0 ≤ _; omega, fun i hi => by show -9223372036854775808 ≤ (0 : Int) ∧ (0 : Int) ≤ 9223372036854775807; omega⟩

set_option maxHeartbeats 8000000 in
set_option maxRecDepth 100000 in
theorem decoded_any (l : List UInt8) (A : Option Addr) (c : Nat) (w : World) (hm : Mem w A l) (hl : l.length ≤ 100000000) (hlc : l.length ≤ c) (hg : ErrT w) :
    Calls Tryd.prog 5 #[.slice A l.length c] w fun e w' => e = .returned (.bool true) ∧ Below w.heap.size w w' := by
  have HM := Lib.hid hm; have HG := Lib.hid hg
  clear hm hg
  go_enter Tryd.func5, Tryd.ntmps5
  go_wp2_with fail
  refine (decode_any l A c w HM.out hl hlc).mono ?_
  rintro e w1 ⟨h, hb1⟩
  have HB1 := Lib.hid hb1
  clear hb1
  rcases h with ⟨hG, AC, AR, AO, cC, cR, cO, CA, cc, hAt1, rfl⟩ | ⟨hG, b, rfl, hx, hy⟩
  · have HAT1 := Lib.hid hAt1; have HGD := Lib.hid hG
    clear hAt1 hG
    go_wp2_with fail
    have r3 := heap_alloc_new w1 (.cells #[.int .i64 (shD (body l) 0), .int .i64 (shD (body l) 1), .int .i64 (shD (body l) 2), .int .i64 (shD (body l) 3), .int .i64 (shD (body l) 4), .slice AC (dec (body l)).nc cC, .slice AR (dec (body l)).nr cR, .slice AO (dec (body l)).no cO] 31)
    have b3 : Below w1.heap.size w1 (w1.alloc (.cells #[.int .i64 (shD (body l) 0), .int .i64 (shD (body l) 1), .int .i64 (shD (body l) 2), .int .i64 (shD (body l) 3), .int .i64 (shD (body l) 4), .slice AC (dec (body l)).nc cC, .slice AR (dec (body l)).nr cR, .slice AO (dec (body l)).no cO] 31)) := (Below.refl _ _).alloc (Nat.le_refl _) _
    generalize w1.alloc (.cells #[.int .i64 (shD (body l) 0), .int .i64 (shD (body l) 1), .int .i64 (shD (body l) 2), .int .i64 (shD (body l) 3), .int .i64 (shD (body l) 4), .slice AC (dec (body l)).nc cC, .slice AR (dec (body l)).nr cR, .slice AO (dec (body l)).no cO] 31) = w2 at *
    have HB2 := Lib.hid (HB1.out.trans (b3.mono HB1.out.size))
    have HAT2 := Lib.hid (HAT1.out.keeps (Keeps.of_below b3)); have HR3 := Lib.hid r3
    clear b3 r3 HAT1 HB1
    refine (refDecode_any l A c w2 (HM.out.keeps (Keeps.of_below HB2.out)) hl hlc).mono ?_
    rintro e w3 ⟨h2, hb3⟩
    rcases h2 with ⟨_, AC', AR', AO', cC', cR', cO', CA', cc', hAt2, rfl⟩ | ⟨hn, _⟩
    case inr => exact absurd HGD.out hn
    have HB3 := Lib.hid (HB2.out.trans (hb3.mono HB2.out.size))
    have HAT3 := Lib.hid (HAT2.out.keeps (Keeps.of_below hb3)); have HR33 := Lib.hid (heap_below hb3 HR3.out)
    have HAT3' := Lib.hid hAt2
    clear hb3 hAt2 HB2 HAT2 HR3
    go_wp2_with fail
    have r5 := heap_alloc_new w3 (.cells #[.int .i64 (shD (body l) 0), .int .i64 (shD (body l) 1), .int .i64 (shD (body l) 2), .int .i64 (shD (body l) 3), .int .i64 (shD (body l) 4), .slice AC' (dec (body l)).nc cC', .slice AR' (dec (body l)).nr cR', .slice AO' (dec (body l)).no cO'] 31)
    have b5 : Below w3.heap.size w3 (w3.alloc (.cells #[.int .i64 (shD (body l) 0), .int .i64 (shD (body l) 1), .int .i64 (shD (body l) 2), .int .i64 (shD (body l) 3), .int .i64 (shD (body l) 4), .slice AC' (dec (body l)).nc cC', .slice AR' (dec (body l)).nr cR', .slice AO' (dec (body l)).no cO'] 31)) := (Below.refl _ _).alloc (Nat.le_refl _) _
    generalize w3.alloc (.cells #[.int .i64 (shD (body l) 0), .int .i64 (shD (body l) 1), .int .i64 (shD (body l) 2), .int .i64 (shD (body l) 3), .int .i64 (shD (body l) 4), .slice AC' (dec (body l)).nc cC', .slice AR' (dec (body l)).nr cR', .slice AO' (dec (body l)).no cO'] 31) = w4 at *
    have b6 : Below w4.heap.size w4 (w4.alloc (.cells #[.int .i64 0, .int .i64 0] 41)) := (Below.refl _ _).alloc (Nat.le_refl _) _
    generalize w4.alloc (.cells #[.int .i64 0, .int .i64 0] 41) = w5 at *
    have b56 : Below w3.heap.size w3 w5 := b5.trans (b6.mono b5.size)
    have HR5 := Lib.hid (heap_below b6 r5); have HR35 := Lib.hid (heap_below b56 HR33.out)
    have HB5 := Lib.hid (HB3.out.trans (b56.mono HB3.out.size))
    have HA5 := Lib.hid (HAT3.out.keeps (Keeps.of_below b56)); have HA5' := Lib.hid (HAT3'.out.keeps (Keeps.of_below b56))
    clear r5 b5 b6 b56
    refine (faulty_nil w5).mono ?_
    rintro e w6 ⟨rfl, b6⟩
    obtain ⟨⟨a0, a1, a2, a3, a4, a5, a6, a7⟩, _⟩ := cells8 (heap_below b6 HR35.out)
    obtain ⟨⟨d0, d1, d2, d3, d4, d5, d6, d7⟩, _⟩ := cells8 (heap_below b6 HR5.out)
    have HB6 := Lib.hid (HB5.out.trans (b6.mono HB5.out.size))
    have HA6 := Lib.hid (HA5.out.keeps (Keeps.of_below b6)); have HA6' := Lib.hid (HA5'.out.keeps (Keeps.of_below b6))
    clear b6
    go_wp2_with fail
    refine (sameConfig_any (dec (body l)) AC AR AO AC' AR' AO' cC cR cO cC' cR' cO' CA CA' cc cc' w6 HA6.out HA6'.out ⟨(dec_fits (AC := AC) (AR := AR) (AO := AO) (cC := cC) (cR := cR) (cO := cO) (CA := CA) (cc := cc) HGD.out.sh).b1, (dec_fits (AC := AC) (AR := AR) (AO := AO) (cC := cC) (cR := cR) (cO := cO) (CA := CA) (cc := cc) HGD.out.sh).b2, (dec_fits (AC := AC) (AR := AR) (AO := AO) (cC := cC) (cR := cR) (cO := cO) (CA := CA) (cc := cc) HGD.out.sh).b3, (dec_fits (AC := AC) (AR := AR) (AO := AO) (cC := cC) (cR := cR) (cO := cO) (CA := CA) (cc := cc) HGD.out.sh).b4, (dec_fits (AC := AC) (AR := AR) (AO := AO) (cC := cC) (cR := cR) (cO := cO) (CA := CA) (cc := cc) HGD.out.sh).s⟩).mono ?_
    rintro e w7 ⟨rfl, b7⟩
    have HB7 := Lib.hid (HB6.out.trans (b7.mono HB6.out.size))
    clear b7 a0 a1 a2 a3 a4 a5 a6 a7 d0 d1 d2 d3 d4 d5 d6 d7
    go_wp2_with fail
    go_ret
    exact ⟨rfl, HB7.out⟩
  · have HX := Lib.hid hx; have HY := Lib.hid hy; have HGB := Lib.hid hG
    clear hx hy hG
    simp only [cfgZero]
    go_wp2_with fail
    have r3 := heap_alloc_new w1 (.cells #[.int .i64 0, .int .i64 0, .int .i64 0, .int .i64 0, .int .i64 0, .slice none 0 0, .slice none 0 0, .slice none 0 0] 31)
    have b3 : Below w1.heap.size w1 (w1.alloc (.cells #[.int .i64 0, .int .i64 0, .int .i64 0, .int .i64 0, .int .i64 0, .slice none 0 0, .slice none 0 0, .slice none 0 0] 31)) := (Below.refl _ _).alloc (Nat.le_refl _) _
    generalize w1.alloc (.cells #[.int .i64 0, .int .i64 0, .int .i64 0, .int .i64 0, .int .i64 0, .slice none 0 0, .slice none 0 0, .slice none 0 0] 31) = w2 at *
    have HB2 := Lib.hid (HB1.out.trans (b3.mono HB1.out.size))
    have HX2 := Lib.hid ((Keeps.of_below b3) _ _ HX.out); have HY2 := Lib.hid ((Keeps.of_below b3) _ _ HY.out); have HR3 := Lib.hid r3
    clear b3 r3 HX HY HB1
    refine (refDecode_any l A c w2 (HM.out.keeps (Keeps.of_below HB2.out)) hl hlc).mono ?_
    rintro e w3 ⟨h2, hb3⟩
    rcases h2 with ⟨hn, _⟩ | ⟨_, rfl⟩
    case inl => exact absurd hn HGB.out
    have HB3 := Lib.hid (HB2.out.trans (hb3.mono HB2.out.size))
    have HX3 := Lib.hid ((Keeps.of_below hb3) _ _ HX2.out); have HY3 := Lib.hid ((Keeps.of_below hb3) _ _ HY2.out); have HR33 := Lib.hid (heap_below hb3 HR3.out)
    clear hb3 HB2 HX2 HY2 HR3
    simp only [cfgZero]
    go_wp2_with fail
    have r5 := heap_alloc_new w3 (.cells #[.int .i64 0, .int .i64 0, .int .i64 0, .int .i64 0, .int .i64 0, .slice none 0 0, .slice none 0 0, .slice none 0 0] 31)
    have b5 : Below w3.heap.size w3 (w3.alloc (.cells #[.int .i64 0, .int .i64 0, .int .i64 0, .int .i64 0, .int .i64 0, .slice none 0 0, .slice none 0 0, .slice none 0 0] 31)) := (Below.refl _ _).alloc (Nat.le_refl _) _
    generalize w3.alloc (.cells #[.int .i64 0, .int .i64 0, .int .i64 0, .int .i64 0, .int .i64 0, .slice none 0 0, .slice none 0 0, .slice none 0 0] 31) = w4 at *
    have b6 : Below w4.heap.size w4 (w4.alloc (.cells #[.int .i64 18, .int .i64 0] 41)) := (Below.refl _ _).alloc (Nat.le_refl _) _
    generalize w4.alloc (.cells #[.int .i64 18, .int .i64 0] 41) = w5 at *
    have b56 : Below w3.heap.size w3 w5 := b5.trans (b6.mono b5.size)
    have HR5 := Lib.hid (heap_below b6 r5); have HR35 := Lib.hid (heap_below b56 HR33.out)
    have HB5 := Lib.hid (HB3.out.trans (b56.mono HB3.out.size))
    have HX5 := Lib.hid ((Keeps.of_below b56) _ _ HX3.out); have HY5 := Lib.hid ((Keeps.of_below b56) _ _ HY3.out)
    clear r5 b5 b6 b56
    refine (faulty_fault b w5 (HG.out.below HB5.out) HX5.out HY5.out).mono ?_
    rintro e w6 ⟨rfl, b6⟩
    obtain ⟨⟨a0, a1, a2, a3, a4, a5, a6, a7⟩, _⟩ := cells8 (heap_below b6 HR35.out)
    obtain ⟨⟨d0, d1, d2, d3, d4, d5, d6, d7⟩, _⟩ := cells8 (heap_below b6 HR5.out)
    have HB6 := Lib.hid (HB5.out.trans (b6.mono HB5.out.size))
    clear b6
    go_wp2_with fail
    refine (sameConfig_any cfZ none none none none none none 0 0 0 0 0 0 (fun _ => none) (fun _ => none) (fun _ => 0) (fun _ => 0) w6 (cfZ_at w6) (cfZ_at w6) cfZ_fits).mono ?_
    rintro e w7 ⟨rfl, b7⟩
    have HB7 := Lib.hid (HB6.out.trans (b7.mono HB6.out.size))
    clear b7 a0 a1 a2 a3 a4 a5 a6 a7 d0 d1 d2 d3 d4 d5 d6 d7
    go_wp2_with fail
    go_ret
    exact ⟨rfl, HB7.out⟩

theorem OwnB.cap {base : Nat} {w : World} {A : Option Addr} {n c : Nat} {xs : List Value} (h : OwnB base w A n c xs) : n ≤ c := by
  rcases h.2 with ⟨_, h1, h2⟩ | ⟨g, cur, lo, hi, _, _, _, _, h, _⟩
  · omega
  · exact h
open Go.WideShapes in
theorem open_bytes {N : Nat} {H : Type} {enc : TypeId × Value → H} {w : World} {cs : List Value} (h : Good N enc Tryd.prog w 22 cs) :
    ∃ (A : Option Addr) (l : List UInt8) (c : Nat), cs = [.slice A l.length c] ∧ l.length ≤ c ∧ c ≤ N ∧ Mem w A l := by
  obtain ⟨A, n, c, f, rfl, hn, hb, hcN, hr, hg⟩ := good_slice 1 (by kernel_rfl) (by omega) Tryd.underlying22 h
  have hx : ∀ k, k < n → ∃ x : Int, f k 0 = .int .u8 x ∧ 0 ≤ x ∧ x ≤ 255 := fun k hk => by
    obtain ⟨x, e, hw⟩ := good_int Tryd.underlying5 (hg k hk)
    exact ⟨x, by simpa [List.range_succ] using e, by simpa [Lit.wf, IntKind.min, IntKind.max, IntKind.signed, IntKind.bits] using hw⟩
  obtain ⟨X, hX⟩ := choose_lt (α := Int) hx
  refine ⟨A, (List.range n).map (fun k => UInt8.ofNat (X k).toNat), c, by simp, by simpa using hn, hcN, fun h0 => ?_⟩
  have h0' : 0 < n := by simpa using h0
  obtain ⟨b, off, e, hc⟩ := hr.one h0'
  refine ⟨b, off, e, fun k hk => ?_⟩
  have hk' : k < n := by simpa using hk
  obtain ⟨e1, e2, e3⟩ := hX k hk'
  rw [hc k hk']
  show some (f k 0) = some (.int .u8 (((List.map (fun k => UInt8.ofNat (X k).toNat) (List.range n)).getD k 0).toNat : Int))
  rw [e1]
  simp only [List.getD_eq_getElem?_getD, List.getElem?_map, List.getElem?_range hk', Option.map_some, Option.getD_some]
  have : ((UInt8.ofNat (X k).toNat).toNat : Int) = X k := by simp; omega
  rw [this]

set_option maxHeartbeats 8000000 in
set_option maxRecDepth 100000 in
theorem streamDecodes_walk (l : List UInt8) (A : Option Addr) (c : Nat) (w : World) (hm : Mem w A l) (hl : l.length ≤ 100000000) (hlc : l.length ≤ c) (hg : ErrT w) :
    Calls Tryd.prog 3 #[.slice A l.length c] w fun e w' => e = .returned (.bool true) ∧ Below w.heap.size w w' := by
  have HM := Lib.hid hm; have HG := Lib.hid hg
  clear hm hg
  go_enter Tryd.func3, Tryd.ntmps3
  go_wp2_with fail
  refine (plain_any _).mono ?_
  rintro e w1 ⟨z, rfl, hs, hb1⟩
  have HB1 := Lib.hid hb1
  have HSM := Lib.hid hs
  clear hb1 hs
  go_wp2_with fail
  refine (refEncode_any (plainC z) (some ⟨z + 1, 0, none⟩) (some ⟨z + 2, 0, none⟩) (some ⟨z + 3, 0, none⟩) _ HSM.out (plain_fits z) (plain_ok z) rfl rfl rfl).mono ?_
  rintro e w2 ⟨⟨AX, cX, rfl, hX⟩, hb2⟩
  have HB2 := Lib.hid (HB1.out.trans (hb2.mono HB1.out.size))
  have hts : (plainC z).text.length ≤ 100000000 := by
    rw [show (plainC z).text = (plainC 0).text from rfl]
    exact plain_len
  have HMX := Lib.hid (Byt.mem hX)
  have hcX := OwnB.cap hX
  clear hb2 hX
  obtain ⟨L, hL⟩ : ∃ L, (plainC z).text = L := ⟨_, rfl⟩
  rw [hL] at hts HMX hcX ⊢
  clear hL
  go_wp2_with fail
  refine (decoded_any L AX cX w2 HMX.out hts hcX (HG.out.below HB2.out)).mono ?_
  rintro e w3 ⟨rfl, hb3⟩
  have HB3 := Lib.hid (HB2.out.trans (hb3.mono HB2.out.size))
  clear hb3
  go_wp2_with fail
  refine (decoded_any l A c w3 (HM.out.keeps (Keeps.of_below HB3.out)) hl hlc (HG.out.below HB3.out)).mono ?_
  rintro e w4 ⟨rfl, hb4⟩
  have HB4 := Lib.hid (HB3.out.trans (hb4.mono HB3.out.size))
  clear hb4
  go_wp2_with fail
  go_ret
  exact ⟨rfl, HB4.out⟩
end Go.Proofs.YtbnjbclkmjjkhaaDoor
