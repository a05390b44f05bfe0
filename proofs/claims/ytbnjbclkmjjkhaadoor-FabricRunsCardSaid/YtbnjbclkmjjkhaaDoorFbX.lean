/- FabricRuns, its walk: whatever bytes and trace come in, the law returns true: fabric.Run tells what the reference's Decode and ConfigRun tell. Conditions: the bytes and the trace lie in memory and are within the form's reach; errors.errorType is as the program lays it. -/
import Derived.Test.YtbnjbclkmjjkhaaDoorFrR
import Derived.Test.YtbnjbclkmjjkhaaDoorDrW
import Derived.Test.YtbnjbclkmjjkhaaDoorFlt
namespace Go.Proofs.YtbnjbclkmjjkhaaDoor
open Go.RowKit Go.Shelf Go.Deep

section
variable {c : Cf} {AC AR AO : Option Addr} {cC cR cO : Nat} {CA : Nat → Option Addr} {cc : Nat → Nat}
theorem lay_sig (inp st : Nat → Bool) : ∀ i s, (c.lay AC AR AO cC cR cO CA cc).sig inp st i s = c.sig inp st i s
  | 0, _ => rfl
  | i + 1, s => by
    show (if s = 0 then false else if s = 1 then true else bitAt (c.B i (s - 2)) (rowB (fun j => (c.lay AC AR AO cC cR cO CA cc).sig inp st i (c.L i (s - 2) j).toNat) 4)) = _
    simp only [lay_sig inp st i]
    rfl
theorem lay_stt (I : Nat → Nat → Bool) : ∀ t k, (c.lay AC AR AO cC cR cO CA cc).stt I t k = c.stt I t k
  | 0, _ => rfl
  | t + 1, k => by
    show (c.lay AC AR AO cC cR cO CA cc).sig (I t) ((c.lay AC AR AO cC cR cO CA cc).stt I t) c.nc (c.RS k).toNat = c.sig (I t) (c.stt I t) c.nc (c.RS k).toNat
    rw [lay_sig, show (c.lay AC AR AO cC cR cO CA cc).stt I t = c.stt I t from funext (lay_stt I t)]
theorem lay_sho (I : Nat → Nat → Bool) : (c.lay AC AR AO cC cR cO CA cc).sho I = c.sho I := by
  funext t o
  show (c.lay AC AR AO cC cR cO CA cc).sig (I t) ((c.lay AC AR AO cC cR cO CA cc).stt I t) c.nc (c.O o).toNat = c.sig (I t) (c.stt I t) c.nc (c.O o).toNat
  rw [lay_sig, show (c.lay AC AR AO cC cR cO CA cc).stt I t = c.stt I t from funext (lay_stt I t)]
end

set_option maxHeartbeats 8000000 in
set_option maxRecDepth 100000 in
theorem fabricRan_any (l : List UInt8) (A AT : Option Addr) (c n ct : Nat) (len : Nat → Nat) (T : Nat → Nat → Bool) (w : World) (hm : Mem w A l) (hl : l.length ≤ 140737488355328) (hlc : l.length ≤ c) (hg : ErrT w) (hT : Mat w AT n len T) (hn : n * 24 ≤ 140737488355328) (hln : ∀ t, t < n → len t ≤ 140737488355328) :
    Calls Tryd.prog 8 #[.slice A l.length c, .slice AT n ct] w fun e w' => e = .returned (.bool true) ∧ Below w.heap.size w w' := by
  have HM := Lib.hid hm; have HG := Lib.hid hg; have HT := Lib.hid hT; have HL := Lib.hid hln
  clear hm hg hT hln
  go_enter Tryd.func8, Tryd.ntmps8
  go_wp2_with fail
  refine (run_any l A AT c n ct len T w HM.out hl hlc HT.out hn HL.out).mono ?_
  rintro e w1 ⟨h, hb1⟩
  have HB1 := Lib.hid hb1
  clear hb1
  rcases h with ⟨hG, A', c', rfl, hMa⟩ | ⟨hG, b, rfl, hx, hy⟩
  · have HMA := Lib.hid hMa; have HGD := Lib.hid hG
    clear hMa hG
    go_wp2_with fail
    refine (refDecode_any l A c w1 (HM.out.keeps (Keeps.of_below HB1.out)) hl hlc).mono ?_
    rintro e w3 ⟨h2, hb3⟩
    rcases h2 with ⟨_, AC', AR', AO', cC', cR', cO', CA', cc', hAt2, rfl⟩ | ⟨hn, _⟩
    case inr => exact absurd HGD.out hn
    have HB3 := Lib.hid (HB1.out.trans (hb3.mono HB1.out.size))
    have HA3 := Lib.hid (HMA.out.keeps (Keeps.of_below hb3))
    have HAT3' := Lib.hid hAt2
    clear hb3 hAt2 HB1 HMA
    go_wp2_with fail
    have r5 := heap_alloc_new w3 (.cells #[.int .i64 (shD (body l) 0), .int .i64 (shD (body l) 1), .int .i64 (shD (body l) 2), .int .i64 (shD (body l) 3), .int .i64 (shD (body l) 4), .slice AC' (dec (body l)).nc cC', .slice AR' (dec (body l)).nr cR', .slice AO' (dec (body l)).no cO'] 31)
    have b5 : Below w3.heap.size w3 (w3.alloc (.cells #[.int .i64 (shD (body l) 0), .int .i64 (shD (body l) 1), .int .i64 (shD (body l) 2), .int .i64 (shD (body l) 3), .int .i64 (shD (body l) 4), .slice AC' (dec (body l)).nc cC', .slice AR' (dec (body l)).nr cR', .slice AO' (dec (body l)).no cO'] 31)) := (Below.refl _ _).alloc (Nat.le_refl _) _
    have hz4 : (w3.alloc (.cells #[.int .i64 (shD (body l) 0), .int .i64 (shD (body l) 1), .int .i64 (shD (body l) 2), .int .i64 (shD (body l) 3), .int .i64 (shD (body l) 4), .slice AC' (dec (body l)).nc cC', .slice AR' (dec (body l)).nr cR', .slice AO' (dec (body l)).no cO'] 31)).heap.size = w3.heap.size + 1 := by simp
    generalize w3.alloc (.cells #[.int .i64 (shD (body l) 0), .int .i64 (shD (body l) 1), .int .i64 (shD (body l) 2), .int .i64 (shD (body l) 3), .int .i64 (shD (body l) 4), .slice AC' (dec (body l)).nc cC', .slice AR' (dec (body l)).nr cR', .slice AO' (dec (body l)).no cO'] 31) = w4 at *
    have b6 : Below w4.heap.size w4 (w4.alloc (.cells #[.int .i64 0, .int .i64 0] 41)) := (Below.refl _ _).alloc (Nat.le_refl _) _
    have r6 := heap_alloc_new w4 (.cells #[.int .i64 0, .int .i64 0] 41)
    generalize w4.alloc (.cells #[.int .i64 0, .int .i64 0] 41) = w5 at *
    rw [hz4] at r6
    have b56 : Below w3.heap.size w3 w5 := b5.trans (b6.mono b5.size)
    have HR5 := Lib.hid (heap_below b6 r5); have HR6 := Lib.hid r6
    have HB5 := Lib.hid (HB3.out.trans (b56.mono HB3.out.size))
    have HA5 := Lib.hid (HA3.out.keeps (Keeps.of_below b56)); have HA5' := Lib.hid (HAT3'.out.keeps (Keeps.of_below b56))
    clear r5 b5 b6 b56 r6
    refine (faulty_nil w5).mono ?_
    rintro e w6 ⟨rfl, b6⟩
    obtain ⟨⟨d0, d1, d2, d3, d4, d5, d6, d7⟩, _⟩ := cells8 (heap_below b6 HR5.out)
    obtain ⟨⟨f0, f1⟩, _⟩ := cells2 (heap_below b6 HR6.out)
    have HB6 := Lib.hid (HB5.out.trans (b6.mono HB5.out.size))
    have HA6 := Lib.hid (HA5.out.keeps (Keeps.of_below b6)); have HA6' := Lib.hid (HA5'.out.keeps (Keeps.of_below b6))
    clear b6
    go_wp2_with fail
    refine (refRun_any ((dec (body l)).lay AC' AR' AO' cC' cR' cO' CA' cc') AC' AR' AO' AT n ct len T w6 HA6'.out (lay_ok.2 HGD.out.ok) rfl rfl rfl (HT.out.keeps (Keeps.of_below HB6.out)) hn HL.out).mono ?_
    rintro e w7 ⟨⟨A2, c2, rfl, hMb⟩, b7⟩
    have HB7 := Lib.hid (HB6.out.trans (b7.mono HB6.out.size))
    have HA7 := Lib.hid (HA6.out.keeps (Keeps.of_below b7))
    have HA7' : Hid (Mat w7 A2 n (fun _ => (dec (body l)).no) ((dec (body l)).sho (inpAt len T))) := Lib.hid (by have h := hMb; rw [lay_sho] at h; exact h)
    have hno : (dec (body l)).no ≤ 500 := by have h1 := HGD.out.ok.d.no; have h2 := HGD.out.ok.d.sh.s1; omega
    have HE : Hid (MatEq n n (fun _ => (dec (body l)).no) (fun _ => (dec (body l)).no) ((dec (body l)).sho (inpAt len T)) ((dec (body l)).sho (inpAt len T))) := Lib.hid ⟨rfl, fun _ _ => ⟨rfl, fun _ _ => rfl⟩⟩
    clear b7 hMb d0 d1 d2 d3 d4 d5 d6 d7 f0 f1
    go_wp2_with fail
    refine (sameRows_any A' A2 n n c' c2 _ _ _ _ w7 HA7.out HA7'.out (by omega) (fun i _ => Nat.le_trans hno (by decide))).mono ?_
    rintro e w8 ⟨rfl, k, rfl⟩
    rw [tf_yes HE.out]
    go_wp2_with fail
    go_ret
    exact ⟨rfl, ⟨HB7.out.os, HB7.out.tape, HB7.out.output, HB7.out.size, HB7.out.block⟩⟩
  · have HX := Lib.hid hx; have HY := Lib.hid hy; have HGB := Lib.hid hG
    clear hx hy hG
    go_wp2_with fail
    refine (refDecode_any l A c w1 (HM.out.keeps (Keeps.of_below HB1.out)) hl hlc).mono ?_
    rintro e w3 ⟨h2, hb3⟩
    rcases h2 with ⟨hn, _⟩ | ⟨_, rfl⟩
    case inl => exact absurd hn HGB.out
    have HB3 := Lib.hid (HB1.out.trans (hb3.mono HB1.out.size))
    have HX3 := Lib.hid ((Keeps.of_below hb3) _ _ HX.out); have HY3 := Lib.hid ((Keeps.of_below hb3) _ _ HY.out)
    clear hb3 HB1 HX HY
    simp only [cfgZero]
    go_wp2_with fail
    have r5 := heap_alloc_new w3 (.cells #[.int .i64 0, .int .i64 0, .int .i64 0, .int .i64 0, .int .i64 0, .slice none 0 0, .slice none 0 0, .slice none 0 0] 31)
    have b5 : Below w3.heap.size w3 (w3.alloc (.cells #[.int .i64 0, .int .i64 0, .int .i64 0, .int .i64 0, .int .i64 0, .slice none 0 0, .slice none 0 0, .slice none 0 0] 31)) := (Below.refl _ _).alloc (Nat.le_refl _) _
    have hz4 : (w3.alloc (.cells #[.int .i64 0, .int .i64 0, .int .i64 0, .int .i64 0, .int .i64 0, .slice none 0 0, .slice none 0 0, .slice none 0 0] 31)).heap.size = w3.heap.size + 1 := by simp
    generalize w3.alloc (.cells #[.int .i64 0, .int .i64 0, .int .i64 0, .int .i64 0, .int .i64 0, .slice none 0 0, .slice none 0 0, .slice none 0 0] 31) = w4 at *
    have b6 : Below w4.heap.size w4 (w4.alloc (.cells #[.int .i64 18, .int .i64 0] 41)) := (Below.refl _ _).alloc (Nat.le_refl _) _
    have r6 := heap_alloc_new w4 (.cells #[.int .i64 18, .int .i64 0] 41)
    generalize w4.alloc (.cells #[.int .i64 18, .int .i64 0] 41) = w5 at *
    rw [hz4] at r6
    have b56 : Below w3.heap.size w3 w5 := b5.trans (b6.mono b5.size)
    have HR6 := Lib.hid r6
    have HB5 := Lib.hid (HB3.out.trans (b56.mono HB3.out.size))
    have HX5 := Lib.hid ((Keeps.of_below b56) _ _ HX3.out); have HY5 := Lib.hid ((Keeps.of_below b56) _ _ HY3.out)
    clear r5 b5 b6 b56 r6
    refine (faulty_fault b w5 (HG.out.below HB5.out) HX5.out HY5.out).mono ?_
    rintro e w6 ⟨rfl, b6⟩
    obtain ⟨⟨f0, f1⟩, _⟩ := cells2 (heap_below b6 HR6.out)
    have HB6 := Lib.hid (HB5.out.trans (b6.mono HB5.out.size))
    clear b6
    go_wp2_with fail
    go_ret
    exact ⟨rfl, HB6.out⟩

theorem Tryd.bytesU8 : Tryd.prog.bytesOf 5 = 1 := by kernel_rfl
theorem open_bytesF {N : Nat} {H : Type} {enc : TypeId × Value → H} {w : World} {cs : List Value} (h : Good N enc Tryd.prog w 22 cs) :
    ∃ (A : Option Addr) (l : List UInt8) (c : Nat), cs = [.slice A l.length c] ∧ l.length ≤ c ∧ l.length ≤ 140737488351232 ∧ Mem w A l := by
  obtain ⟨A0, n0, c0, f0, e0, _, hb, _⟩ := good_slice 1 (by kernel_rfl) (by omega) Tryd.underlying22 h
  rw [Tryd.bytesU8] at hb
  unfold reachBytes at hb
  obtain ⟨A, l, c, e, h1, h2, h3⟩ := open_bytes h
  refine ⟨A, l, c, e, h1, ?_, h3⟩
  rw [e] at e0
  have h4 : l.length = n0 := by simp at e0; exact e0.2.1
  omega

set_option maxHeartbeats 8000000 in
set_option maxRecDepth 100000 in
theorem fabricRuns_walk (l : List UInt8) (A : Option Addr) (c : Nat) (AT : Option Addr) (n ct : Nat) (len : Nat → Nat) (T : Nat → Nat → Bool) (w : World) (hm : Mem w A l) (hl : l.length ≤ 140737488351232) (hlc : l.length ≤ c) (hT : Mat w AT n len T) (hn : n * 24 ≤ 140737488351232) (hln : ∀ t, t < n → len t ≤ 140737488351232) (hg : ErrT w) :
    Calls Tryd.prog 4 #[.slice A l.length c, .slice AT n ct] w fun e w' => e = .returned (.bool true) ∧ Below w.heap.size w w' := by
  have HM := Lib.hid hm; have HG := Lib.hid hg; have HT := Lib.hid hT; have HL := Lib.hid hln
  clear hm hg hT hln
  go_enter Tryd.func4, Tryd.ntmps4
  go_wp2_with fail
  refine (plain_any _).mono ?_
  rintro e w1 ⟨z, rfl, hs, hb1⟩
  have HB1 := Lib.hid hb1
  have HSM := Lib.hid hs
  clear hb1 hs
  go_wp2_with fail
  refine (refEncode_any (plainC z) (some ⟨z + 1, 0, none⟩) (some ⟨z + 2, 0, none⟩) (some ⟨z + 3, 0, none⟩) _ HSM.out (plain_fits z) (plain_ok z) rfl rfl rfl).mono ?_
  rintro e w2 ⟨⟨AX, cX, rfl, hX⟩, hb2⟩
  have HB2 := Lib.hid (HB1.out.trans (hb2.mono HB1.out.size))
  have hts : (plainC z).text.length ≤ 100000000 := by
    rw [show (plainC z).text = (plainC 0).text from rfl]
    exact plain_len
  have HMX := Lib.hid (Byt.mem hX)
  have hcX := OwnB.cap hX
  clear hb2 hX
  obtain ⟨L, hL⟩ : ∃ L, (plainC z).text = L := ⟨_, rfl⟩
  rw [hL] at hts HMX hcX ⊢
  clear hL
  go_wp2_with fail
  have g0 := heap_alloc_new w2 (.cells #[.bool true] 4)
  have b0 : Below w2.heap.size w2 (w2.alloc (.cells #[.bool true] 4)) := (Below.refl _ _).alloc (Nat.le_refl _) _
  have z0 : (w2.alloc (.cells #[.bool true] 4)).heap.size = w2.heap.size + 1 := by simp
  generalize w2.alloc (.cells #[.bool true] 4) = w3 at *
  have g1 := heap_alloc_new w3 (.cells #[.bool false] 4)
  have b1 : Below w3.heap.size w3 (w3.alloc (.cells #[.bool false] 4)) := (Below.refl _ _).alloc (Nat.le_refl _) _
  have z1 : (w3.alloc (.cells #[.bool false] 4)).heap.size = w2.heap.size + 1 + 1 := by simp [z0]
  generalize w3.alloc (.cells #[.bool false] 4) = w4 at *
  have g2 := heap_alloc_new w4 (.cells #[.slice (some ⟨w2.heap.size, 0, none⟩) 1 1, .slice (some ⟨w2.heap.size + 1, 0, none⟩) 1 1] 35)
  have b2 : Below w4.heap.size w4 (w4.alloc (.cells #[.slice (some ⟨w2.heap.size, 0, none⟩) 1 1, .slice (some ⟨w2.heap.size + 1, 0, none⟩) 1 1] 35)) := (Below.refl _ _).alloc (Nat.le_refl _) _
  generalize w4.alloc (.cells #[.slice (some ⟨w2.heap.size, 0, none⟩) 1 1, .slice (some ⟨w2.heap.size + 1, 0, none⟩) 1 1] 35) = w5 at *
  rw [z1] at g2; rw [z0] at g1
  have g1' := heap_below b2 g1
  have g0' := heap_below b2 (heap_below b1 g0)
  have HMT : Hid (Mat w5 (some ⟨w2.heap.size + 1 + 1, 0, none⟩) 2 (fun _ => 1) (fun t _ => decide (t = 0))) := Lib.hid ⟨fun t => some ⟨w2.heap.size + t, 0, none⟩, fun _ => 1, fun _ => ⟨_, _, rfl, fun t ht => by
    obtain rfl | rfl : t = 0 ∨ t = 1 := by omega
    all_goals (rw [cell_of_row w5 _ _ _ _ _ g2]; rfl)⟩, fun t ht => fun _ => ⟨_, _, rfl, fun j hj => by
    obtain rfl : j = 0 := by have hj : j < 1 := hj; omega
    obtain rfl | rfl : t = 0 ∨ t = 1 := by omega
    · rw [Nat.add_zero, cell_of_row w5 _ _ _ _ _ g0']; rfl
    · rw [cell_of_row w5 _ _ _ _ _ g1']; rfl⟩⟩
  have bb : Below w2.heap.size w2 w5 := (b0.trans (b1.mono (by omega))).trans (b2.mono (by omega))
  have HB5 := Lib.hid (HB2.out.trans (bb.mono HB2.out.size))
  have HMX5 := Lib.hid (HMX.out.keeps (Keeps.of_below bb))
  clear g0 g1 g2 g0' g1' b0 b1 b2 bb z0 z1 HMX
  refine (fabricRan_any L AX (some ⟨w2.heap.size + 1 + 1, 0, none⟩) cX 2 2 (fun _ => 1) (fun t _ => decide (t = 0)) w5 HMX5.out (by omega) hcX (HG.out.below HB5.out) HMT.out (by omega) (fun _ _ => by omega)).mono ?_
  rintro e w6 ⟨rfl, hb6⟩
  have HB6 := Lib.hid (HB5.out.trans (hb6.mono HB5.out.size))
  clear hb6 HMT HMX5
  go_wp2_with fail
  refine (fabricRan_any l A AT c n ct len T w6 (HM.out.keeps (Keeps.of_below HB6.out)) (by omega) hlc (HG.out.below HB6.out) (HT.out.keeps (Keeps.of_below HB6.out)) (by omega) (fun t ht => Nat.le_trans (HL.out t ht) (by decide))).mono ?_
  rintro e w7 ⟨rfl, hb7⟩
  have HB7 := Lib.hid (HB6.out.trans (hb7.mono HB6.out.size))
  clear hb7
  go_wp2_with fail
  go_ret
  exact ⟨rfl, HB7.out⟩
end Go.Proofs.YtbnjbclkmjjkhaaDoor
