/- The law AigerParses, walked: the law returns true. Conditions: the text holds at most 100000000 bytes; errors.errorType is as laid; internal/bytealg.MaxLen holds a number. -/
import Derived.Test.YtngjbiipgbeemaaDoorApR
import Derived.Test.YtngjbiipgbeemaaDoorPrA
import Derived.Test.YtngjbiipgbeemaaDoorFlP
import Derived.Test.YtngjbiipgbeemaaDoorSameG
import Derived.Test.YtngjbiipgbeemaaDoorRt2
import Derived.Test.YtngjbiipgbeemaaDoorTinyP
namespace Go.Proofs.YtngjbiipgbeemaaDoor
open Go.RowKit Go.Shelf Go.Deep

theorem linA_count : ∀ (l w : List UInt8), (linA l w).length ≤ l.length
  | [], w => by simp [linA]
  | b :: r, w => by
    rw [linA_cons]
    split
    · have := linA_count r []; simp; omega
    · have := linA_count r (w ++ [b]); simp; omega
theorem linA_wlen : ∀ (l w : List UInt8), ∀ x ∈ linA l w, x.length ≤ w.length + l.length
  | [], w => by intro x hx; simp [linA] at hx
  | b :: r, w => by
    intro x hx
    rw [linA_cons] at hx
    split at hx
    · rcases List.mem_cons.1 hx with rfl | h
      · simp
      · have := linA_wlen r [] x h; simp at this ⊢; omega
    · have := linA_wlen r (w ++ [b]) x hx; simp at this ⊢; omega
theorem hd0_fits {LS : List (List UInt8)} {h : Hd} (e : hd0 LS = some h) : h.i + h.l + h.a < 60000 ∧ h.l ≤ 6000 ∧ h.o ≤ 60000 := by
  cases LS with
  | nil => cases e
  | cons l r => exact hdr_fits e
theorem same_hd (h : Hd) (LS : List (List UInt8)) (A1 A2 A3 B1 B2 B3 : Option Addr) (c1 c2 c3 d1 d2 d3 : Nat) (w : World) (hf : hd0 LS = some h) (ha : (h.graph LS).At w A1 A2 A3) (hb : (h.graph LS).At w B1 B2 B3) :
    Calls Tryd.prog 13 #[.agg #[.int .i64 (h.i : Int), .slice A1 h.l c1, .slice A2 h.a c2, .slice A3 h.o c3], .agg #[.int .i64 (h.i : Int), .slice B1 h.l d1, .slice B2 h.a d2, .slice B3 h.o d3]] w fun e w' => e = .returned (.bool true) ∧ Below w.heap.size w w' := by
  have hn := hd0_fits hf
  exact sameGraph_any (h.graph LS) A1 A2 A3 B1 B2 B3 c1 c2 c3 d1 d2 d3 w ha hb ⟨show h.l ≤ 1000000000000000 by omega, show h.a ≤ 1000000000000000 by omega, show h.o ≤ 1000000000000000 by omega⟩
def zeroG : G := { ins := 0, n1 := 0, n2 := 0, n3 := 0, L := fun _ => 0, I := fun _ => false, X := fun _ => 0, Y := fun _ => 0, O := fun _ => 0 }
theorem zeroG_at (w : World) : zeroG.At w none none none := ⟨fun h => absurd h (Nat.not_lt_zero _), fun h => absurd h (Nat.not_lt_zero _), fun h => absurd h (Nat.not_lt_zero _)⟩
theorem same_zero (w : World) : Calls Tryd.prog 13 #[.agg #[.int .i64 0, .slice none 0 0, .slice none 0 0, .slice none 0 0], .agg #[.int .i64 0, .slice none 0 0, .slice none 0 0, .slice none 0 0]] w fun e w' => e = .returned (.bool true) ∧ Below w.heap.size w w' :=
  sameGraph_any zeroG none none none none none none 0 0 0 0 0 0 w (zeroG_at w) (zeroG_at w) ⟨Nat.zero_le _, Nat.zero_le _, Nat.zero_le _⟩

set_option maxHeartbeats 8000000 in
set_option maxRecDepth 100000 in
theorem aigParsed_any (txt : List UInt8) (w : World) (hs : txt.length ≤ 100000000) (hg : ErrT w) (hm : MaxT w) :
    Calls Tryd.prog 5 #[.string (bstr txt)] w fun e w' => e = .returned (.bool true) ∧ Below w.heap.size w w' := by
  have HG := Lib.hid hg
  clear hg
  have hl1 := linA_count txt []
  have hlw : ∀ i, i < (linA txt []).length → ((linA txt []).getD i []).length ≤ 1000000000 := fun i hi => by
    have h := linA_wlen txt [] ((linA txt []).getD i []) (by rw [List.getD_eq_getElem?_getD, List.getElem?_eq_getElem hi]; exact List.getElem_mem hi)
    simp only [List.length_nil] at h
    omega
  obtain ⟨s, hse⟩ : ∃ s, s = bstr txt := ⟨_, rfl⟩
  have hpa := parse_any txt w hm (by omega)
  have hpb : ∀ w2 : World, Calls Tryd.prog 11 #[.string (bstr txt)] w2 fun e w' => (RpBad txt e ∨ RpFine txt e w') ∧ Below w2.heap.size w2 w' := fun w2 => refParse_any txt w2 (by omega) (by omega) hlw
  rw [← hse] at hpa hpb ⊢
  clear hse hl1 hlw
  have HPB := Lib.hid hpb
  clear hpb hm
  go_enter Tryd.func5, Tryd.ntmps5
  go_wp2_with fail
  refine hpa.mono ?_
  rintro e w1 ⟨h, hb1⟩
  have HB1 := Lib.hid hb1
  clear hb1 hpa
  rcases h with ⟨p, bf, hp, rfl, hbf, hff⟩ | ⟨h, A1, A2, A3, c1, c2, c3, hp, rfl, hM⟩
  · have HF1 := Lib.hid hff; have HP := Lib.hid hp
    clear hff hp hbf
    go_wp2_with fail
    have n1 := heap_alloc_new w1 (.cells #[.int .i64 0, .slice none 0 0, .slice none 0 0, .slice none 0 0] 28)
    have b1 : Below w1.heap.size w1 (w1.alloc (.cells #[.int .i64 0, .slice none 0 0, .slice none 0 0, .slice none 0 0] 28)) := (Below.refl _ _).alloc (Nat.le_refl _) _
    have z1 : (w1.alloc (.cells #[.int .i64 0, .slice none 0 0, .slice none 0 0, .slice none 0 0] 28)).heap.size = w1.heap.size + 1 := by simp
    have hF1 := heap_below b1 HF1.out
    have hB1 := HB1.out.trans (b1.mono HB1.out.size)
    generalize w1.alloc (.cells #[.int .i64 0, .slice none 0 0, .slice none 0 0, .slice none 0 0] 28) = w2 at *
    obtain ⟨bA, hbA⟩ : ∃ b, b = w1.heap.size := ⟨_, rfl⟩
    rw [← hbA] at n1 z1 ⊢
    have HB2 := Lib.hid hB1; have HN1 := Lib.hid n1
    have HF2 := Lib.hid hF1
    clear hF1
    clear n1 b1 hB1 hbA z1
    refine (HPB.out w2).mono ?_
    rintro e w3 ⟨h9, hb3⟩
    have HB3 := Lib.hid (HB2.out.trans (hb3.mono HB2.out.size))
    have HN3 := Lib.hid (heap_below hb3 HN1.out)
    have HF3 := Lib.hid (heap_below hb3 HF2.out)
    rcases h9 with ⟨p', hp2, rfl⟩ | ⟨h, A1, A2, A3, c1, c2, c3, hp2, rfl, hat⟩
    rotate_left
    · exact absurd hp2 (fun hx => bad_fine HP.out hx)
    obtain rfl := bad_one HP.out hp2
    clear hp2 HF2
    clear hb3 HN1 HB2
    go_wp2_with fail
    have n4 := heap_alloc_new w3 (.cells #[.int .i64 0, .slice none 0 0, .slice none 0 0, .slice none 0 0] 28)
    have b4 : Below w3.heap.size w3 (w3.alloc (.cells #[.int .i64 0, .slice none 0 0, .slice none 0 0, .slice none 0 0] 28)) := (Below.refl _ _).alloc (Nat.le_refl _) _
    have z4 : (w3.alloc (.cells #[.int .i64 0, .slice none 0 0, .slice none 0 0, .slice none 0 0] 28)).heap.size = w3.heap.size + 1 := by simp
    generalize w3.alloc (.cells #[.int .i64 0, .slice none 0 0, .slice none 0 0, .slice none 0 0] 28) = w4 at *
    have n5 := heap_alloc_new w4 (.cells #[.int .i64 16, .int .i64 (p : Nat)] 38)
    have b5 : Below w4.heap.size w4 (w4.alloc (.cells #[.int .i64 16, .int .i64 (p : Nat)] 38)) := (Below.refl _ _).alloc (Nat.le_refl _) _
    generalize w4.alloc (.cells #[.int .i64 16, .int .i64 (p : Nat)] 38) = w5 at *
    rw [z4] at n5
    have b45 : Below w3.heap.size w3 w5 := b4.trans (b5.mono (by omega))
    have HN5 := Lib.hid (heap_below b45 HN3.out)
    have HR5 := Lib.hid (heap_below b5 n4)
    have HB5 := Lib.hid (HB3.out.trans (b45.mono HB3.out.size))
    have HF5 := Lib.hid (heap_below b45 HF3.out)
    clear HF3
    clear n4 b4 b5 b45 HB3 HN3
    try clear n5
    obtain ⟨bB, hbB⟩ : ∃ b, b = w3.heap.size := ⟨_, rfl⟩
    rw [← hbB] at HR5 ⊢
    refine (faulty_at bf 16 (p : Nat) w5 (HG.out.below HB5.out) HF5.out).mono ?_
    rintro e w6 ⟨rfl, b6⟩
    have HN6 := Lib.hid (heap_below b6 HN5.out)
    have HR6 := Lib.hid (heap_below b6 HR5.out)
    have HB6 := Lib.hid (HB5.out.trans (b6.mono HB5.out.size))
    clear b6 HN5 HR5 HB5 hbB z4
    obtain ⟨⟨x0, x1, x2, x3⟩, _⟩ := box4 HN6.out
    obtain ⟨⟨y0, y1, y2, y3⟩, _⟩ := box4 HR6.out
    go_wp2_with fail
    refine (same_zero w6).mono ?_
    rintro e w7 ⟨rfl, b7⟩
    have HB7 := Lib.hid (HB6.out.trans (b7.mono HB6.out.size))
    clear b7 x0 x1 x2 x3 y0 y1 y2 y3
    go_wp2_with fail
    go_ret
    exact ⟨rfl, HB7.out⟩
  · have HM1 := Lib.hid hM; have HP := Lib.hid hp
    clear hM hp
    go_wp2_with fail
    have n1 := heap_alloc_new w1 (.cells #[.int .i64 (h.i : Int), .slice A1 h.l c1, .slice A2 h.a c2, .slice A3 h.o c3] 28)
    have b1 : Below w1.heap.size w1 (w1.alloc (.cells #[.int .i64 (h.i : Int), .slice A1 h.l c1, .slice A2 h.a c2, .slice A3 h.o c3] 28)) := (Below.refl _ _).alloc (Nat.le_refl _) _
    have z1 : (w1.alloc (.cells #[.int .i64 (h.i : Int), .slice A1 h.l c1, .slice A2 h.a c2, .slice A3 h.o c3] 28)).heap.size = w1.heap.size + 1 := by simp
    have hM1 := HM1.out.keeps (Keeps.of_below b1)
    have hB1 := HB1.out.trans (b1.mono HB1.out.size)
    generalize w1.alloc (.cells #[.int .i64 (h.i : Int), .slice A1 h.l c1, .slice A2 h.a c2, .slice A3 h.o c3] 28) = w2 at *
    obtain ⟨bA, hbA⟩ : ∃ b, b = w1.heap.size := ⟨_, rfl⟩
    rw [← hbA] at n1 z1 ⊢
    have HB2 := Lib.hid hB1; have HN1 := Lib.hid n1
    have HM2 := Lib.hid hM1
    clear hM1
    clear n1 b1 hB1 hbA z1
    refine (HPB.out w2).mono ?_
    rintro e w3 ⟨h9, hb3⟩
    have HB3 := Lib.hid (HB2.out.trans (hb3.mono HB2.out.size))
    have HN3 := Lib.hid (heap_below hb3 HN1.out)
    have HM3 := Lib.hid (HM2.out.keeps (Keeps.of_below hb3))
    rcases h9 with ⟨p', hp2, rfl⟩ | ⟨h', B1, B2, B3, d1, d2, d3, hp2, rfl, hat⟩
    · exact absurd HP.out (fun hx => bad_fine hp2 hx)
    obtain rfl := fine_one HP.out hp2
    have HQ3 := Lib.hid hat
    clear hp2 hat HM2
    clear hb3 HN1 HB2
    go_wp2_with fail
    have n4 := heap_alloc_new w3 (.cells #[.int .i64 (h.i : Int), .slice B1 h.l d1, .slice B2 h.a d2, .slice B3 h.o d3] 28)
    have b4 : Below w3.heap.size w3 (w3.alloc (.cells #[.int .i64 (h.i : Int), .slice B1 h.l d1, .slice B2 h.a d2, .slice B3 h.o d3] 28)) := (Below.refl _ _).alloc (Nat.le_refl _) _
    have z4 : (w3.alloc (.cells #[.int .i64 (h.i : Int), .slice B1 h.l d1, .slice B2 h.a d2, .slice B3 h.o d3] 28)).heap.size = w3.heap.size + 1 := by simp
    generalize w3.alloc (.cells #[.int .i64 (h.i : Int), .slice B1 h.l d1, .slice B2 h.a d2, .slice B3 h.o d3] 28) = w4 at *
    have n5 := heap_alloc_new w4 (.cells #[.int .i64 0, .int .i64 0] 38)
    have b5 : Below w4.heap.size w4 (w4.alloc (.cells #[.int .i64 0, .int .i64 0] 38)) := (Below.refl _ _).alloc (Nat.le_refl _) _
    generalize w4.alloc (.cells #[.int .i64 0, .int .i64 0] 38) = w5 at *
    rw [z4] at n5
    have b45 : Below w3.heap.size w3 w5 := b4.trans (b5.mono (by omega))
    have HN5 := Lib.hid (heap_below b45 HN3.out)
    have HR5 := Lib.hid (heap_below b5 n4)
    have HB5 := Lib.hid (HB3.out.trans (b45.mono HB3.out.size))
    have HM5 := Lib.hid (HM3.out.keeps (Keeps.of_below b45)); have HQ5 := Lib.hid (HQ3.out.keeps (Keeps.of_below b45))
    clear HM3 HQ3
    clear n4 b4 b5 b45 HB3 HN3
    try clear n5
    obtain ⟨bB, hbB⟩ : ∃ b, b = w3.heap.size := ⟨_, rfl⟩
    rw [← hbB] at HR5 ⊢
    refine (faulty_no w5).mono ?_
    rintro e w6 ⟨rfl, b6⟩
    have HN6 := Lib.hid (heap_below b6 HN5.out)
    have HR6 := Lib.hid (heap_below b6 HR5.out)
    have HB6 := Lib.hid (HB5.out.trans (b6.mono HB5.out.size))
    have HM6 := Lib.hid (HM5.out.keeps (Keeps.of_below b6)); have HQ6 := Lib.hid (HQ5.out.keeps (Keeps.of_below b6))
    clear HM5 HQ5
    clear b6 HN5 HR5 HB5 hbB z4
    obtain ⟨⟨x0, x1, x2, x3⟩, _⟩ := box4 HN6.out
    obtain ⟨⟨y0, y1, y2, y3⟩, _⟩ := box4 HR6.out
    go_wp2_with fail
    refine (same_hd h _ A1 A2 A3 B1 B2 B3 c1 c2 c3 d1 d2 d3 w6 HP.out.1 HM6.out HQ6.out).mono ?_
    rintro e w7 ⟨rfl, b7⟩
    have HB7 := Lib.hid (HB6.out.trans (b7.mono HB6.out.size))
    clear b7 x0 x1 x2 x3 y0 y1 y2 y3
    go_wp2_with fail
    go_ret
    exact ⟨rfl, HB7.out⟩

theorem tiny_small : tinyG.Small := tiny_valid.small
set_option maxHeartbeats 8000000 in
set_option maxRecDepth 100000 in
theorem aigerParses_walk (s : ByteArray) (w : World) (hs : s.size ≤ 100000000) (hg : ErrT w) (hm : MaxT w) :
    Calls Tryd.prog 3 #[.string s] w fun e w' => e = .returned (.bool true) ∧ Below w.heap.size w w' := by
  have HG := Lib.hid hg
  have HM := Lib.hid hm
  clear hg hm
  have hc := fun w1 h1 h2 => aigParsed_any s.data.toList w1 (by rw [show s.data.toList.length = s.size from rfl]; exact hs) h1 h2
  rw [bstr_of] at hc
  have HC := Lib.hid hc
  clear hc
  go_enter Tryd.func3, Tryd.ntmps3
  have ht := tiny_any w
  have htx : ∀ (A1 A2 A3 : Option Addr) (c1 c2 c3 : Nat) (w1 : World), tinyG.At w1 A1 A2 A3 → Calls Tryd.prog 6 #[.agg #[.int .i64 2, .slice A1 1 c1, .slice A2 3 c2, .slice A3 2 c3]] w1 fun e w' => e = .returned (.string (str (tinyG.text 3))) ∧ Below w1.heap.size w1 w' := fun A1 A2 A3 c1 c2 c3 w1 h => aigText_any tinyG A1 A2 A3 c1 c2 c3 w1 tiny_small h
  have hc0 : ∀ w1 : World, ErrT w1 → MaxT w1 → Calls Tryd.prog 5 #[.string (str (tinyG.text 3))] w1 fun e w' => e = .returned (.bool true) ∧ Below w1.heap.size w1 w' := fun w1 h1 h2 => aigParsed_any (tinyG.text 3) w1 (by decide +kernel) h1 h2
  obtain ⟨T, hT⟩ : ∃ T, T = str (tinyG.text 3) := ⟨_, rfl⟩
  rw [← hT] at htx hc0
  have HTX := Lib.hid htx; have HC0 := Lib.hid hc0
  clear hT htx hc0
  go_wp2_with fail
  refine ht.mono ?_
  rintro e w1 ⟨A1, A2, A3, c1, c2, c3, rfl, hat, b1⟩
  have HB1 := Lib.hid b1
  clear b1 ht
  rw [show tinyG.ins = 2 from rfl, show tinyG.n1 = 1 from rfl, show tinyG.n2 = 3 from rfl, show tinyG.n3 = 2 from rfl]
  go_wp2_with fail
  refine (HTX.out A1 A2 A3 c1 c2 c3 w1 hat).mono ?_
  rintro e w2 ⟨rfl, b2⟩
  have HB2 := Lib.hid (HB1.out.trans (b2.mono HB1.out.size))
  clear b2 hat
  go_wp2_with fail
  refine (HC0.out w2 (HG.out.below HB2.out) (HM.out.below HB2.out)).mono ?_
  rintro e w3 ⟨rfl, b3⟩
  have HB3 := Lib.hid (HB2.out.trans (b3.mono HB2.out.size))
  clear b3
  go_wp2_with fail
  refine (HC.out w3 (HG.out.below HB3.out) (HM.out.below HB3.out)).mono ?_
  rintro e w4 ⟨rfl, b4⟩
  have HB4 := Lib.hid (HB3.out.trans (b4.mono HB3.out.size))
  clear b4
  go_wp2_with fail
  go_ret
  exact ⟨rfl, HB4.out⟩
end Go.Proofs.YtngjbiipgbeemaaDoor
