/- The law AigerUnpacks, walked: the law returns true. Conditions: the bytes lie in memory and are at most 100000000; errors.errorType is as laid; internal/bytealg.MaxLen holds a number. -/
import Derived.Test.YtngjbiipgbeemaaDoorAuW
import Derived.Test.YtngjbiipgbeemaaDoorFlP
import Derived.Test.YtngjbiipgbeemaaDoorSameG
import Derived.Test.YtngjbiipgbeemaaDoorRkU
import Derived.Test.YtngjbiipgbeemaaDoorTinyP
namespace Go.Proofs.YtngjbiipgbeemaaDoor
open Go.RowKit Go.Shelf Go.Deep

theorem same_hdU (h : Hd) (l : List UInt8) (p0 p1 : Nat) (A1 A2 A3 B1 B2 B3 : Option Addr) (c1 c2 c3 d1 d2 d3 : Nat) (w : World) (hf : hdU l = some (h, p0)) (ha : (h.graphU l p0 p1).At w A1 A2 A3) (hb : (h.graphU l p0 p1).At w B1 B2 B3) :
    Calls Tryd.prog 13 #[.agg #[.int .i64 (h.i : Int), .slice A1 h.l c1, .slice A2 h.a c2, .slice A3 h.o c3], .agg #[.int .i64 (h.i : Int), .slice B1 h.l d1, .slice B2 h.a d2, .slice B3 h.o d3]] w fun e w' => e = .returned (.bool true) ∧ Below w.heap.size w w' := by
  have hn := hdU_fits hf
  exact sameGraph_any (h.graphU l p0 p1) A1 A2 A3 B1 B2 B3 c1 c2 c3 d1 d2 d3 w ha hb ⟨show h.l ≤ 1000000000000000 by omega, show h.a ≤ 1000000000000000 by omega, show h.o ≤ 1000000000000000 by omega⟩
def zeroG : G := { ins := 0, n1 := 0, n2 := 0, n3 := 0, L := fun _ => 0, I := fun _ => false, X := fun _ => 0, Y := fun _ => 0, O := fun _ => 0 }
theorem zeroG_at (w : World) : zeroG.At w none none none := ⟨fun h => absurd h (Nat.not_lt_zero _), fun h => absurd h (Nat.not_lt_zero _), fun h => absurd h (Nat.not_lt_zero _)⟩
theorem same_zero (w : World) : Calls Tryd.prog 13 #[.agg #[.int .i64 0, .slice none 0 0, .slice none 0 0, .slice none 0 0], .agg #[.int .i64 0, .slice none 0 0, .slice none 0 0, .slice none 0 0]] w fun e w' => e = .returned (.bool true) ∧ Below w.heap.size w w' :=
  sameGraph_any zeroG none none none none none none 0 0 0 0 0 0 w (zeroG_at w) (zeroG_at w) ⟨Nat.zero_le _, Nat.zero_le _, Nat.zero_le _⟩

theorem byteCells_get (l : List UInt8) (k : Nat) (hk : k < l.length) : (Lib.byteCells l).getD k undef = .int .u8 ((l.getD k 0).toNat : Int) := by
  unfold Lib.byteCells
  rw [List.getD_eq_getElem?_getD, List.getD_eq_getElem?_getD, List.getElem?_map, List.getElem?_eq_getElem hk]
  rfl
theorem own_memO {Z : Nat} {w : World} {A : Option Addr} {l : List UInt8} {c : Nat} (h : OwnB Z w A l.length c (Lib.byteCells l)) : MemO w A l c ∧ c ≤ 9223372036854775807 := by
  have hr := h.row
  rcases h.2 with ⟨h1, h2, h3⟩ | ⟨g, cur, lo, hi, h1, _, _, _, h5, h6, _, _⟩
  · exact ⟨.inl ⟨h1, List.eq_nil_of_length_eq_zero h2, h3⟩, by omega⟩
  · refine ⟨.inr ⟨_, h1, h5, ?_⟩, h6⟩
    by_cases hl : 0 < l.length
    · obtain ⟨b, o, e, hc⟩ := hr hl
      rw [h1] at e
      injection e with e
      refine .inr ⟨b, o, e, fun k hk => ?_⟩
      rw [hc k hk]
      exact congrArg some (byteCells_get l k hk)
    · exact .inl (List.eq_nil_of_length_eq_zero (by omega))

set_option maxHeartbeats 8000000 in
set_option maxRecDepth 100000 in
theorem aigUnpacked_any (l : List UInt8) (A : Option Addr) (c : Nat) (w : World) (hM0 : MemO w A l c) (hcm : c ≤ 9223372036854775807) (hs : l.length ≤ 100000000) (hg : ErrT w) (hm : MaxT w) :
    Calls Tryd.prog 8 #[.slice A l.length c] w fun e w' => e = .returned (.bool true) ∧ Below w.heap.size w w' := by
  have HG := Lib.hid hg
  clear hg
  have hpa := unpack_any l A c w hM0 hm hcm (by omega)
  have hpb : ∀ w2 : World, Below w.heap.size w w2 → Calls Tryd.prog 18 #[.slice A l.length c] w2 fun e w' => (RkBad l e ∨ RkFine l e w') ∧ Below w2.heap.size w2 w' := fun w2 k => refUnpack_any l A c w2 (hM0.below k) hcm (by omega)
  have HPB := Lib.hid hpb
  clear hpb hm hM0
  go_enter Tryd.func8, Tryd.ntmps8
  go_wp2_with fail
  refine hpa.mono ?_
  rintro e w1 ⟨h, hb1⟩
  have HB1 := Lib.hid hb1
  clear hb1 hpa
  rcases h with ⟨p, bf, hp, rfl, hbf, hff⟩ | ⟨h, p0, p1, A1, A2, A3, c1, c2, c3, hp, rfl, hM⟩
  · have HF1 := Lib.hid hff; have HP := Lib.hid hp
    clear hff hp hbf
    go_wp2_with fail
    have n1 := heap_alloc_new w1 (.cells #[.int .i64 0, .slice none 0 0, .slice none 0 0, .slice none 0 0] 28)
    have b1 : Below w1.heap.size w1 (w1.alloc (.cells #[.int .i64 0, .slice none 0 0, .slice none 0 0, .slice none 0 0] 28)) := (Below.refl _ _).alloc (Nat.le_refl _) _
    have z1 : (w1.alloc (.cells #[.int .i64 0, .slice none 0 0, .slice none 0 0, .slice none 0 0] 28)).heap.size = w1.heap.size + 1 := by simp
    have hF1 := heap_below b1 HF1.out
    have hB1 := HB1.out.trans (b1.mono HB1.out.size)
    generalize w1.alloc (.cells #[.int .i64 0, .slice none 0 0, .slice none 0 0, .slice none 0 0] 28) = w2 at *
    obtain ⟨bA, hbA⟩ : ∃ b, b = w1.heap.size := ⟨_, rfl⟩
    rw [← hbA] at n1 z1 ⊢
    have HB2 := Lib.hid hB1; have HN1 := Lib.hid n1
    have HF2 := Lib.hid hF1
    clear hF1
    clear n1 b1 hB1 hbA z1
    refine (HPB.out w2 HB2.out).mono ?_
    rintro e w3 ⟨h9, hb3⟩
    have HB3 := Lib.hid (HB2.out.trans (hb3.mono HB2.out.size))
    have HN3 := Lib.hid (heap_below hb3 HN1.out)
    have HF3 := Lib.hid (heap_below hb3 HF2.out)
    rcases h9 with ⟨p', hp2, rfl⟩ | ⟨h, p0, p1, A1, A2, A3, c1, c2, c3, hp2, rfl, hat⟩
    rotate_left
    · exact absurd hp2 (fun hx => badU_fine HP.out hx)
    obtain rfl := badU_one HP.out hp2
    clear hp2 HF2
    clear hb3 HN1 HB2
    go_wp2_with fail
    have n4 := heap_alloc_new w3 (.cells #[.int .i64 0, .slice none 0 0, .slice none 0 0, .slice none 0 0] 28)
    have b4 : Below w3.heap.size w3 (w3.alloc (.cells #[.int .i64 0, .slice none 0 0, .slice none 0 0, .slice none 0 0] 28)) := (Below.refl _ _).alloc (Nat.le_refl _) _
    have z4 : (w3.alloc (.cells #[.int .i64 0, .slice none 0 0, .slice none 0 0, .slice none 0 0] 28)).heap.size = w3.heap.size + 1 := by simp
    generalize w3.alloc (.cells #[.int .i64 0, .slice none 0 0, .slice none 0 0, .slice none 0 0] 28) = w4 at *
    have n5 := heap_alloc_new w4 (.cells #[.int .i64 16, .int .i64 (p : Nat)] 38)
    have b5 : Below w4.heap.size w4 (w4.alloc (.cells #[.int .i64 16, .int .i64 (p : Nat)] 38)) := (Below.refl _ _).alloc (Nat.le_refl _) _
    generalize w4.alloc (.cells #[.int .i64 16, .int .i64 (p : Nat)] 38) = w5 at *
    rw [z4] at n5
    have b45 : Below w3.heap.size w3 w5 := b4.trans (b5.mono (by omega))
    have HN5 := Lib.hid (heap_below b45 HN3.out)
    have HR5 := Lib.hid (heap_below b5 n4)
    have HB5 := Lib.hid (HB3.out.trans (b45.mono HB3.out.size))
    have HF5 := Lib.hid (heap_below b45 HF3.out)
    clear HF3
    clear n4 b4 b5 b45 HB3 HN3
    try clear n5
    obtain ⟨bB, hbB⟩ : ∃ b, b = w3.heap.size := ⟨_, rfl⟩
    rw [← hbB] at HR5 ⊢
    refine (faulty_at bf 16 (p : Nat) w5 (HG.out.below HB5.out) HF5.out).mono ?_
    rintro e w6 ⟨rfl, b6⟩
    have HN6 := Lib.hid (heap_below b6 HN5.out)
    have HR6 := Lib.hid (heap_below b6 HR5.out)
    have HB6 := Lib.hid (HB5.out.trans (b6.mono HB5.out.size))
    clear b6 HN5 HR5 HB5 hbB z4
    obtain ⟨⟨x0, x1, x2, x3⟩, _⟩ := box4 HN6.out
    obtain ⟨⟨y0, y1, y2, y3⟩, _⟩ := box4 HR6.out
    go_wp2_with fail
    refine (same_zero w6).mono ?_
    rintro e w7 ⟨rfl, b7⟩
    have HB7 := Lib.hid (HB6.out.trans (b7.mono HB6.out.size))
    clear b7 x0 x1 x2 x3 y0 y1 y2 y3
    go_wp2_with fail
    go_ret
    exact ⟨rfl, HB7.out⟩
  · have HM1 := Lib.hid hM; have HP := Lib.hid hp
    clear hM hp
    go_wp2_with fail
    have n1 := heap_alloc_new w1 (.cells #[.int .i64 (h.i : Int), .slice A1 h.l c1, .slice A2 h.a c2, .slice A3 h.o c3] 28)
    have b1 : Below w1.heap.size w1 (w1.alloc (.cells #[.int .i64 (h.i : Int), .slice A1 h.l c1, .slice A2 h.a c2, .slice A3 h.o c3] 28)) := (Below.refl _ _).alloc (Nat.le_refl _) _
    have z1 : (w1.alloc (.cells #[.int .i64 (h.i : Int), .slice A1 h.l c1, .slice A2 h.a c2, .slice A3 h.o c3] 28)).heap.size = w1.heap.size + 1 := by simp
    have hM1 := HM1.out.keeps (Keeps.of_below b1)
    have hB1 := HB1.out.trans (b1.mono HB1.out.size)
    generalize w1.alloc (.cells #[.int .i64 (h.i : Int), .slice A1 h.l c1, .slice A2 h.a c2, .slice A3 h.o c3] 28) = w2 at *
    obtain ⟨bA, hbA⟩ : ∃ b, b = w1.heap.size := ⟨_, rfl⟩
    rw [← hbA] at n1 z1 ⊢
    have HB2 := Lib.hid hB1; have HN1 := Lib.hid n1
    have HM2 := Lib.hid hM1
    clear hM1
    clear n1 b1 hB1 hbA z1
    refine (HPB.out w2 HB2.out).mono ?_
    rintro e w3 ⟨h9, hb3⟩
    have HB3 := Lib.hid (HB2.out.trans (hb3.mono HB2.out.size))
    have HN3 := Lib.hid (heap_below hb3 HN1.out)
    have HM3 := Lib.hid (HM2.out.keeps (Keeps.of_below hb3))
    rcases h9 with ⟨p', hp2, rfl⟩ | ⟨h', q0, q1, B1, B2, B3, d1, d2, d3, hp2, rfl, hat⟩
    · exact absurd HP.out (fun hx => badU_fine hp2 hx)
    obtain ⟨rfl, rfl, rfl⟩ := fineU_one HP.out hp2
    have HQ3 := Lib.hid hat
    clear hp2 hat HM2
    clear hb3 HN1 HB2
    go_wp2_with fail
    have n4 := heap_alloc_new w3 (.cells #[.int .i64 (h.i : Int), .slice B1 h.l d1, .slice B2 h.a d2, .slice B3 h.o d3] 28)
    have b4 : Below w3.heap.size w3 (w3.alloc (.cells #[.int .i64 (h.i : Int), .slice B1 h.l d1, .slice B2 h.a d2, .slice B3 h.o d3] 28)) := (Below.refl _ _).alloc (Nat.le_refl _) _
    have z4 : (w3.alloc (.cells #[.int .i64 (h.i : Int), .slice B1 h.l d1, .slice B2 h.a d2, .slice B3 h.o d3] 28)).heap.size = w3.heap.size + 1 := by simp
    generalize w3.alloc (.cells #[.int .i64 (h.i : Int), .slice B1 h.l d1, .slice B2 h.a d2, .slice B3 h.o d3] 28) = w4 at *
    have n5 := heap_alloc_new w4 (.cells #[.int .i64 0, .int .i64 0] 38)
    have b5 : Below w4.heap.size w4 (w4.alloc (.cells #[.int .i64 0, .int .i64 0] 38)) := (Below.refl _ _).alloc (Nat.le_refl _) _
    generalize w4.alloc (.cells #[.int .i64 0, .int .i64 0] 38) = w5 at *
    rw [z4] at n5
    have b45 : Below w3.heap.size w3 w5 := b4.trans (b5.mono (by omega))
    have HN5 := Lib.hid (heap_below b45 HN3.out)
    have HR5 := Lib.hid (heap_below b5 n4)
    have HB5 := Lib.hid (HB3.out.trans (b45.mono HB3.out.size))
    have HM5 := Lib.hid (HM3.out.keeps (Keeps.of_below b45)); have HQ5 := Lib.hid (HQ3.out.keeps (Keeps.of_below b45))
    clear HM3 HQ3
    clear n4 b4 b5 b45 HB3 HN3
    try clear n5
    obtain ⟨bB, hbB⟩ : ∃ b, b = w3.heap.size := ⟨_, rfl⟩
    rw [← hbB] at HR5 ⊢
    refine (faulty_no w5).mono ?_
    rintro e w6 ⟨rfl, b6⟩
    have HN6 := Lib.hid (heap_below b6 HN5.out)
    have HR6 := Lib.hid (heap_below b6 HR5.out)
    have HB6 := Lib.hid (HB5.out.trans (b6.mono HB5.out.size))
    have HM6 := Lib.hid (HM5.out.keeps (Keeps.of_below b6)); have HQ6 := Lib.hid (HQ5.out.keeps (Keeps.of_below b6))
    clear HM5 HQ5
    clear b6 HN5 HR5 HB5 hbB z4
    obtain ⟨⟨x0, x1, x2, x3⟩, _⟩ := box4 HN6.out
    obtain ⟨⟨y0, y1, y2, y3⟩, _⟩ := box4 HR6.out
    go_wp2_with fail
    refine (same_hdU h _ p0 p1 A1 A2 A3 B1 B2 B3 c1 c2 c3 d1 d2 d3 w6 HP.out.1 HM6.out HQ6.out).mono ?_
    rintro e w7 ⟨rfl, b7⟩
    have HB7 := Lib.hid (HB6.out.trans (b7.mono HB6.out.size))
    clear b7 x0 x1 x2 x3 y0 y1 y2 y3
    go_wp2_with fail
    go_ret
    exact ⟨rfl, HB7.out⟩

theorem tiny_smallU : tinyG.Small := tiny_valid.small
set_option maxHeartbeats 8000000 in
set_option maxRecDepth 100000 in
theorem aigerUnpacks_walk (A : Option Addr) (l : List UInt8) (c : Nat) (w : World) (hM0 : MemO w A l c) (hcm : c ≤ 9223372036854775807) (hs : l.length ≤ 100000000) (hg : ErrT w) (hm : MaxT w) :
    Calls Tryd.prog 4 #[.slice A l.length c] w fun e w' => e = .returned (.bool true) ∧ Below w.heap.size w w' := by
  have HG := Lib.hid hg
  have HM := Lib.hid hm
  have hc : ∀ w1, Below w.heap.size w w1 → Calls Tryd.prog 8 #[.slice A l.length c] w1 fun e w' => e = .returned (.bool true) ∧ Below w1.heap.size w1 w' := fun w1 k => aigUnpacked_any l A c w1 (hM0.below k) hcm hs (hg.below k) (hm.below k)
  have HC := Lib.hid hc
  clear hc hg hm hM0
  go_enter Tryd.func4, Tryd.ntmps4
  have ht := tiny_any w
  have htx : ∀ (A1 A2 A3 : Option Addr) (c1 c2 c3 : Nat) (w1 : World), tinyG.At w1 A1 A2 A3 → Calls Tryd.prog 9 #[.agg #[.int .i64 2, .slice A1 1 c1, .slice A2 3 c2, .slice A3 2 c3]] w1 (MadeB (tinyG.pack 3) w1) := fun A1 A2 A3 c1 c2 c3 w1 h => aigPack_any tinyG A1 A2 A3 c1 c2 c3 w1 tiny_smallU h
  obtain ⟨T, hT⟩ : ∃ T, T = tinyG.pack 3 := ⟨_, rfl⟩
  rw [← hT] at htx
  have HTL : Hid (T.length ≤ 100000000) := Lib.hid (by rw [hT]; have h := G.pack_len tiny_smallU (k := 3) (Nat.le_refl 3); omega)
  have HTX := Lib.hid htx
  clear hT htx
  go_wp2_with fail
  refine ht.mono ?_
  rintro e w1 ⟨A1, A2, A3, c1, c2, c3, rfl, hat, b1⟩
  have HB1 := Lib.hid b1
  clear b1 ht
  rw [show tinyG.ins = 2 from rfl, show tinyG.n1 = 1 from rfl, show tinyG.n2 = 3 from rfl, show tinyG.n3 = 2 from rfl]
  go_wp2_with fail
  refine (HTX.out A1 A2 A3 c1 c2 c3 w1 hat).mono ?_
  rintro e w2 ⟨AT, cT, Z, rfl, hown, b2⟩
  have HB2 := Lib.hid (HB1.out.trans (b2.mono HB1.out.size))
  have hmo := own_memO hown
  have hc0 := aigUnpacked_any T AT cT w2 hmo.1 hmo.2 HTL.out (HG.out.below HB2.out) (HM.out.below HB2.out)
  clear b2 hat hown hmo
  go_wp2_with fail
  refine hc0.mono ?_
  rintro e w3 ⟨rfl, b3⟩
  have HB3 := Lib.hid (HB2.out.trans (b3.mono HB2.out.size))
  clear b3 hc0
  go_wp2_with fail
  refine (HC.out w3 HB3.out).mono ?_
  rintro e w4 ⟨rfl, b4⟩
  have HB4 := Lib.hid (HB3.out.trans (b4.mono HB3.out.size))
  clear b4
  go_wp2_with fail
  go_ret
  exact ⟨rfl, HB4.out⟩

/-- bytes as they come in -/
theorem open_bytesU {N : Nat} {H : Type} {enc : TypeId × Value → H} {w : World} {cs : List Value} (h : Good N enc Tryd.prog w 30 cs) :
    ∃ (A : Option Addr) (l : List UInt8) (c : Nat), cs = [.slice A l.length c] ∧ l.length ≤ c ∧ c ≤ N ∧ MemO w A l c := by
  obtain ⟨A, n, c, f, rfl, hn, hb, hcN, hr, hg⟩ := good_slice 1 (by kernel_rfl) (by omega) Tryd.underlying30 h
  have hx : ∀ k, k < n → ∃ x : Int, f k 0 = .int .u8 x ∧ 0 ≤ x ∧ x ≤ 255 := fun k hk => by
    obtain ⟨x, e, hw⟩ := good_int Tryd.underlying5 (hg k hk)
    exact ⟨x, by simpa [List.range_succ] using e, by simpa [Lit.wf, IntKind.min, IntKind.max, IntKind.signed, IntKind.bits] using hw⟩
  obtain ⟨X, hX⟩ := choose_lt (α := Int) hx
  refine ⟨A, (List.range n).map (fun k => UInt8.ofNat (X k).toNat), c, by simp, by simpa using hn, hcN, ?_⟩
  have hA : A = none → n = 0 ∧ c = 0 := fun hA => by
    obtain ⟨fuel, d, p, h1, _⟩ := h
    subst hA
    rcases open_slice Tryd.underlying30 h1 with ⟨h2, _⟩ | ⟨a, len, cap, m, n', D, Pl, h2, _⟩
    · injection h2 with h2 _
      injection h2 with _ h3 h4
      exact ⟨h3, h4⟩
    · injection h2 with h2 _
      injection h2 with h2 _ _
      cases h2
  cases A with
  | none =>
    obtain ⟨rfl, rfl⟩ := hA rfl
    exact .inl ⟨rfl, rfl, rfl⟩
  | some a =>
    refine .inr ⟨a, rfl, by simpa using hn, ?_⟩
    by_cases h0 : 0 < n
    · obtain ⟨b, off, e, hc⟩ := hr.one h0
      injection e with e
      refine .inr ⟨b, off, e, fun k hk => ?_⟩
      have hk' : k < n := by simpa using hk
      obtain ⟨e1, e2, e3⟩ := hX k hk'
      rw [hc k hk']
      show some (f k 0) = some (.int .u8 (((List.map (fun k => UInt8.ofNat (X k).toNat) (List.range n)).getD k 0).toNat : Int))
      rw [e1]
      simp only [List.getD_eq_getElem?_getD, List.getElem?_map, List.getElem?_range hk', Option.map_some, Option.getD_some]
      have : ((UInt8.ofNat (X k).toNat).toNat : Int) = X k := by simp; omega
      rw [this]
    · obtain rfl : n = 0 := by omega
      exact .inl rfl
end Go.Proofs.YtngjbiipgbeemaaDoor
