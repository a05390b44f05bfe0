/- The reference's word and lex, walked: the next token. Condition: the text is shorter than 1000000 bytes. -/
import Derived.Test.YtbdcpealkllfnaaDoorLxE
namespace Go.Proofs.YtbdcpealkllfnaaDoor
open Go.RowKit Go.Deep

theorem strs_list (L : List ByteArray) (w : World) (t : TypeId) : StrsAt (w.alloc (.cells (L.map Value.string).toArray t)) (some ⟨w.heap.size, 0, none⟩) L.length := fun _ => by
 refine ⟨_, _, rfl, fun k hk => ⟨L[k], ?_⟩⟩
 rw [Nat.zero_add, cell_of_row _ w.heap.size k _ _ _ (heap_alloc_new w _), List.getElem?_toArray, List.getElem?_map, List.getElem?_eq_getElem hk]
 rfl
def BoolOut (w : World) (e : Ending) (w' : World) : Prop := ∃ x : Bool, e = .returned (.bool x) ∧ Below w.heap.size w w'
theorem word_any (t : ByteArray) (w : World) : Calls Tryd.prog 33 #[.string t] w (BoolOut w) := by
 have hs := strs_list [⟨#[109, 111, 100, 117, 108, 101]⟩, ⟨#[101, 110, 100, 109, 111, 100, 117, 108, 101]⟩, ⟨#[105, 110, 112, 117, 116]⟩, ⟨#[111, 117, 116, 112, 117, 116]⟩, ⟨#[119, 105, 114, 101]⟩, ⟨#[114, 101, 103]⟩, ⟨#[108, 111, 99, 97, 108, 112, 97, 114, 97, 109]⟩, ⟨#[97, 115, 115, 105, 103, 110]⟩, ⟨#[97, 108, 119, 97, 121, 115]⟩, ⟨#[98, 101, 103, 105, 110]⟩, ⟨#[101, 110, 100]⟩, ⟨#[105, 102]⟩, ⟨#[101, 108, 115, 101]⟩, ⟨#[99, 97, 115, 101]⟩, ⟨#[100, 101, 102, 97, 117, 108, 116]⟩, ⟨#[101, 110, 100, 99, 97, 115, 101]⟩, ⟨#[102, 111, 114]⟩, ⟨#[99, 108, 107]⟩] w 9
 have ha := among_any t (some ⟨w.heap.size, 0, none⟩) 18 18 _ hs (by omega)
 have hb := (Below.refl w.heap.size w).alloc (Nat.le_refl _) (.cells #[.string ⟨#[109, 111, 100, 117, 108, 101]⟩, .string ⟨#[101, 110, 100, 109, 111, 100, 117, 108, 101]⟩, .string ⟨#[105, 110, 112, 117, 116]⟩, .string ⟨#[111, 117, 116, 112, 117, 116]⟩, .string ⟨#[119, 105, 114, 101]⟩, .string ⟨#[114, 101, 103]⟩, .string ⟨#[108, 111, 99, 97, 108, 112, 97, 114, 97, 109]⟩, .string ⟨#[97, 115, 115, 105, 103, 110]⟩, .string ⟨#[97, 108, 119, 97, 121, 115]⟩, .string ⟨#[98, 101, 103, 105, 110]⟩, .string ⟨#[101, 110, 100]⟩, .string ⟨#[105, 102]⟩, .string ⟨#[101, 108, 115, 101]⟩, .string ⟨#[99, 97, 115, 101]⟩, .string ⟨#[100, 101, 102, 97, 117, 108, 116]⟩, .string ⟨#[101, 110, 100, 99, 97, 115, 101]⟩, .string ⟨#[102, 111, 114]⟩, .string ⟨#[99, 108, 107]⟩] 9)
 have HB := Lib.hid hb
 clear hs hb
 go_enter Tryd.func33, Tryd.ntmps33
 go_wp2_with fail
 refine ha.mono ?_
 rintro e w1 ⟨⟨x, rfl⟩, rfl⟩
 clear ha
 go_wp2_with fail
 go_ret
 exact ⟨x, rfl, HB.out⟩
theorem ext_size (s : ByteArray) {a b : Nat} (_ : a ≤ b) (hb : b ≤ s.size) : (s.extract a b).size = b - a := by
 rw [ByteArray.size_extract, Nat.min_eq_left hb]

set_option maxRecDepth 100000 in
set_option maxHeartbeats 20000000 in
theorem lex_any (s : ByteArray) (p : Nat) (w : World) (hp : p ≤ s.size) (hs : s.size ≤ 1000000) :
  Calls Tryd.prog 14 #[.string s, .int .i64 (p : Int)] w fun e w' => LexOut s p e ∧ Below w.heap.size w w' := by
 have hk4 := heap_alloc_new w (.cells #[.int .i64 0, .int .i64 0, .int .i64 0, .string ⟨#[]⟩, .int .u64 0] 33)
 have hw0 : Below w.heap.size w (w.alloc (.cells #[.int .i64 0, .int .i64 0, .int .i64 0, .string ⟨#[]⟩, .int .u64 0] 33)) := (Below.refl _ _).alloc (Nat.le_refl _) _
 have hz0 : (w.alloc (.cells #[.int .i64 0, .int .i64 0, .int .i64 0, .string ⟨#[]⟩, .int .u64 0] 33)).heap.size = w.heap.size + 1 := by simp
 have hsk := skip_any s p (w.alloc (.cells #[.int .i64 0, .int .i64 0, .int .i64 0, .string ⟨#[]⟩, .int .u64 0] 33)) hp hs
 go_enter Tryd.func14, Tryd.ntmps14
 go_upto_region 1 with (fail)
 generalize w.alloc (.cells #[.int .i64 0, .int .i64 0, .int .i64 0, .string ⟨#[]⟩, .int .u64 0] 33) = wa at *
 obtain ⟨b4, hb4⟩ : ∃ b, b = w.heap.size := ⟨_, rfl⟩
 rw [← hb4] at hk4 ⊢
 have HK4 := Lib.hid hk4
 have HBB := Lib.hid hw0
 have HE : Hid (b4 = w.heap.size ∧ wa.heap.size = b4 + 1) := Lib.hid ⟨hb4, by omega⟩
 clear hk4 hw0 hz0 hb4
 go_wp2_with fail
 refine hsk.mono ?_
 rintro e w1 ⟨⟨x, ok, hx1, hx2, rfl⟩, rfl⟩
 clear hsk
 cases ok with
 | false =>
  have HR := Lib.hid (st5_heap HK4.out (.int .i64 4) (.int .i64 (x : Int)) (.int .i64 0) (.string ⟨#[]⟩) (.int .u64 0))
  have HBR := Lib.hid (HBB.out.trans ((st5_only w1 b4 (.int .i64 4) (.int .i64 (x : Int)) (.int .i64 0) (.string ⟨#[]⟩) (.int .u64 0)).below (fun k _ e => by rw [e]; have := HE.out; omega) HBB.out.size))
  obtain ⟨⟨y0, y1, y2, y3, y4⟩, yz⟩ := box5 HK4.out
  have yz0 := yz 0
  have yz1 := yz 1
  have yz2 := yz 2
  have yz3 := yz 3
  have yz4 := yz 4
  clear yz
  go_wp2_with fail
  exact bodyPost_ret (v := .tuple #[.agg #[.int .i64 4, .int .i64 (x : Int), .int .i64 0, .string ⟨#[]⟩, .int .u64 0], .int .i64 (x : Int)]) (outsLx rfl rfl HR.out) rfl ⟨⟨4, x, 0, ⟨#[]⟩, 0, x, ⟨by omega, by omega, by omega, Nat.zero_le _, by omega, fun h => by omega⟩, hx1, hx2, fun h => by omega, rfl⟩, HBR.out⟩
 | true =>
  by_cases hlt : x < s.size
  ·
   have hne : ((x : Int) == (s.size : Int)) = false := by rw [beq_eq_false_iff_ne]; omega
   obtain ⟨C, hC⟩ : ∃ C, C = (s[x]'hlt).toNat := ⟨_, rfl⟩
   have hC8 : C < 256 := by rw [hC]; exact (s[x]'hlt).toNat_lt
   have hdc := digit_any C w1 hC8
   have hlc := letter_any C w1 hC8
   have hCe := hC.symm
   cases hdb : digB C with
   | true =>
    rw [hdb] at hdc
    clear hC hlc hdb
    go_wp2_with fail
    refine hdc.mono ?_
    rintro e w2 ⟨rfl, rfl⟩
    clear hdc
    go_wp2_with fail
    refine (number_any s x _ hlt hs).mono ?_
    rintro e w3 ⟨⟨kd, at_, wd, T, num, q, hok, hq1, hq2, hq3, rfl⟩, hbn⟩
    replace HK4 := Lib.hid (heap_below hbn HK4.out)
    replace HBB := Lib.hid (HBB.out.trans (hbn.mono HBB.out.size))
    clear hbn
    simp only [tokV]
    have HR := Lib.hid (st5_heap HK4.out (.int .i64 (kd : Int)) (.int .i64 (at_ : Int)) (.int .i64 (wd : Int)) (.string T) (.int .u64 (num : Int)))
    have HBR := Lib.hid (HBB.out.trans ((st5_only w3 b4 (.int .i64 (kd : Int)) (.int .i64 (at_ : Int)) (.int .i64 (wd : Int)) (.string T) (.int .u64 (num : Int))).below (fun k _ e => by rw [e]; have := HE.out; omega) HBB.out.size))
    obtain ⟨⟨y0, y1, y2, y3, y4⟩, yz⟩ := box5 HK4.out
    have yz0 := yz 0
    have yz1 := yz 1
    have yz2 := yz 2
    have yz3 := yz 3
    have yz4 := yz 4
    clear yz
    go_wp2_with fail
    exact bodyPost_ret (v := .tuple #[.agg #[.int .i64 (kd : Int), .int .i64 (at_ : Int), .int .i64 (wd : Int), .string T, .int .u64 (num : Int)], .int .i64 (q : Int)]) (outsLx rfl rfl HR.out) rfl ⟨⟨kd, at_, wd, T, num, q, hok, by omega, hq2, fun h => by have := hq3 h; omega, rfl⟩, HBR.out⟩
   | false =>
    rw [hdb] at hdc
    cases hlb : letB C with
    | true =>
     rw [hlb] at hlc
     have HLT : Hid (letB (s[x]'hlt).toNat = true) := Lib.hid (by rw [← hC]; exact hlb)
     clear hC hdb hlb
     go_wp2_with fail
     refine hdc.mono ?_
     rintro e w2 ⟨rfl, rfl⟩
     clear hdc
     go_wp2_with fail
     refine hlc.mono ?_
     rintro e w2 ⟨rfl, rfl⟩
     clear hlc
     obtain ⟨w1, hw1⟩ : ∃ z, z = w2 := ⟨_, rfl⟩
     subst hw1
     go_wp2_with fail
     go_loopw [8] (fun vq wr => ∃ q : Nat, x ≤ q ∧ q ≤ s.size ∧ vq = .int .i64 q ∧ wr = w1) (fun vq _ => s.size - (intOf vq).toNat)
     case atStart => exact ⟨x, by omega, hx2, rfl, rfl⟩
     case round =>
      obtain ⟨q, hq1, hq2, rfl, hwq⟩ := hrel
      obtain ⟨wq, hwq2⟩ : ∃ x, x = wr := ⟨_, rfl⟩
      subst hwq2
      subst hwq
      by_cases hl2 : q < s.size
      ·
       obtain ⟨D, hD⟩ : ∃ D, D = (s[q]'hl2).toNat := ⟨_, rfl⟩
       have hD8 : D < 256 := by rw [hD]; exact (s[q]'hl2).toNat_lt
       have hlq := letter_any D wq hD8
       have hdq := digit_any D wq hD8
       obtain ⟨bl, hbl⟩ : ∃ x, x = letB D := ⟨_, rfl⟩
       obtain ⟨bd, hbd⟩ : ∃ x, x = digB D := ⟨_, rfl⟩
       rw [← hbl] at hlq
       rw [← hbd] at hdq
       have HBL : Hid (q = x → bl = true) := Lib.hid (fun e => by subst e; rw [hbl, hD]; exact HLT.out)
       have hDe := hD.symm
       clear hbl hbd hD
       cases bl with
       | true =>
        go_wp2_with fail
        refine hlq.mono ?_
        rintro e w2 ⟨rfl, rfl⟩
        go_wp2_with fail
        exact ⟨⟨q + 1, by omega, by omega, by go_num, trivial⟩, by simp [intOf]; omega⟩
       | false =>
        cases bd with
        | true =>
         go_wp2_with fail
         refine hlq.mono ?_
         rintro e w2 ⟨rfl, rfl⟩
         go_wp2_with fail
         refine hdq.mono ?_
         rintro e w2 ⟨rfl, rfl⟩
         go_wp2_with fail
         exact ⟨⟨q + 1, by omega, by omega, by go_num, trivial⟩, by simp [intOf]; omega⟩
        | false =>
         have hqx : x < q := by
          have h9 : q ≠ x := fun e => by have := HBL.out e; cases this
          omega
         go_wp2_with fail
         refine hlq.mono ?_
         rintro e w2 ⟨rfl, rfl⟩
         go_wp2_with fail
         refine hdq.mono ?_
         rintro e w2 ⟨rfl, rfl⟩
         go_wp2_with fail
         have hxq : x ≤ q := by omega
         obtain ⟨T, hT⟩ : ∃ T, T = s.extract x q := ⟨_, rfl⟩
         have hTs : T.size = q - x := by rw [hT]; exact ext_size s hxq hq2
         have hwd := word_any T w2
         have hTe := hT.symm
         rw [hTe]
         clear hT
         refine hwd.mono ?_
         rintro e w3 ⟨isw, rfl, hbn⟩
         clear hwd
         replace HK4 := Lib.hid (heap_below hbn HK4.out)
         replace HBB := Lib.hid (HBB.out.trans (hbn.mono HBB.out.size))
         clear hbn
         cases isw with
         | true =>
          have HR := Lib.hid (st5_heap HK4.out (.int .i64 3) (.int .i64 (x : Int)) (.int .i64 0) (.string (T)) (.int .u64 0))
          have HBR := Lib.hid (HBB.out.trans ((st5_only w3 b4 (.int .i64 3) (.int .i64 (x : Int)) (.int .i64 0) (.string (T)) (.int .u64 0)).below (fun k _ e => by rw [e]; have := HE.out; omega) HBB.out.size))
          obtain ⟨⟨y0, y1, y2, y3, y4⟩, yz⟩ := box5 HK4.out
          have yz0 := yz 0
          have yz1 := yz 1
          have yz2 := yz 2
          have yz3 := yz 3
          have yz4 := yz 4
          clear yz
          go_wp2_with fail
          exact bodyPost_ret (v := .tuple #[.agg #[.int .i64 3, .int .i64 (x : Int), .int .i64 0, .string (T), .int .u64 0], .int .i64 (q : Int)]) (outsLx rfl rfl HR.out) rfl ⟨⟨3, x, 0, T, 0, q, ⟨by omega, by omega, by omega, by omega, by omega, fun h => by omega⟩, by omega, by omega, fun _ => by omega, rfl⟩, HBR.out⟩
         | false =>
          by_cases h40 : 40 < q - x
          ·
           have q40 : (40 : Int) < (q : Int) - (x : Int) := by omega
           have HR := Lib.hid (st5_heap HK4.out (.int .i64 4) (.int .i64 (x : Int)) (.int .i64 0) (.string ⟨#[]⟩) (.int .u64 0))
           have HBR := Lib.hid (HBB.out.trans ((st5_only w3 b4 (.int .i64 4) (.int .i64 (x : Int)) (.int .i64 0) (.string ⟨#[]⟩) (.int .u64 0)).below (fun k _ e => by rw [e]; have := HE.out; omega) HBB.out.size))
           obtain ⟨⟨y0, y1, y2, y3, y4⟩, yz⟩ := box5 HK4.out
           have yz0 := yz 0
           have yz1 := yz 1
           have yz2 := yz 2
           have yz3 := yz 3
           have yz4 := yz 4
           clear yz
           go_wp2_with fail
           exact bodyPost_ret (v := .tuple #[.agg #[.int .i64 4, .int .i64 (x : Int), .int .i64 0, .string ⟨#[]⟩, .int .u64 0], .int .i64 (x : Int)]) (outsLx rfl rfl HR.out) rfl ⟨⟨4, x, 0, ⟨#[]⟩, 0, x, ⟨by omega, by omega, by omega, Nat.zero_le _, by omega, fun h => by omega⟩, hx1, hx2, fun h => by omega, rfl⟩, HBR.out⟩
          ·
           have q40 : ¬ (40 : Int) < (q : Int) - (x : Int) := by omega
           have HR := Lib.hid (st5_heap HK4.out (.int .i64 1) (.int .i64 (x : Int)) (.int .i64 0) (.string (T)) (.int .u64 0))
           have HBR := Lib.hid (HBB.out.trans ((st5_only w3 b4 (.int .i64 1) (.int .i64 (x : Int)) (.int .i64 0) (.string (T)) (.int .u64 0)).below (fun k _ e => by rw [e]; have := HE.out; omega) HBB.out.size))
           obtain ⟨⟨y0, y1, y2, y3, y4⟩, yz⟩ := box5 HK4.out
           have yz0 := yz 0
           have yz1 := yz 1
           have yz2 := yz 2
           have yz3 := yz 3
           have yz4 := yz 4
           clear yz
           go_wp2_with fail
           exact bodyPost_ret (v := .tuple #[.agg #[.int .i64 1, .int .i64 (x : Int), .int .i64 0, .string (T), .int .u64 0], .int .i64 (q : Int)]) (outsLx rfl rfl HR.out) rfl ⟨⟨1, x, 0, T, 0, q, ⟨by omega, by omega, by omega, by omega, by omega, fun _ => by omega⟩, by omega, by omega, fun _ => by omega, rfl⟩, HBR.out⟩
      ·
       obtain rfl : s.size = q := by omega
       have hqx : x < s.size := hlt
       have hge : ¬ ((s.size : Int) < (s.size : Int)) := by omega
       go_wp2_with fail
       have hxq : x ≤ s.size := by omega
       obtain ⟨T, hT⟩ : ∃ T, T = s.extract x s.size := ⟨_, rfl⟩
       have hTs : T.size = s.size - x := by rw [hT]; exact ext_size s hx2 (Nat.le_refl _)
       have hTe := hT.symm
       rw [hTe]
       clear hT
       refine (word_any T _).mono ?_
       rintro e w2 ⟨isw, rfl, hbn⟩
       replace HK4 := Lib.hid (heap_below hbn HK4.out)
       replace HBB := Lib.hid (HBB.out.trans (hbn.mono HBB.out.size))
       clear hbn
       cases isw with
       | true =>
        have HR := Lib.hid (st5_heap HK4.out (.int .i64 3) (.int .i64 (x : Int)) (.int .i64 0) (.string (T)) (.int .u64 0))
        have HBR := Lib.hid (HBB.out.trans ((st5_only w2 b4 (.int .i64 3) (.int .i64 (x : Int)) (.int .i64 0) (.string (T)) (.int .u64 0)).below (fun k _ e => by rw [e]; have := HE.out; omega) HBB.out.size))
        obtain ⟨⟨y0, y1, y2, y3, y4⟩, yz⟩ := box5 HK4.out
        have yz0 := yz 0
        have yz1 := yz 1
        have yz2 := yz 2
        have yz3 := yz 3
        have yz4 := yz 4
        clear yz
        go_wp2_with fail
        exact bodyPost_ret (v := .tuple #[.agg #[.int .i64 3, .int .i64 (x : Int), .int .i64 0, .string (T), .int .u64 0], .int .i64 (s.size : Int)]) (outsLx rfl rfl HR.out) rfl ⟨⟨3, x, 0, T, 0, s.size, ⟨by omega, by omega, by omega, by omega, by omega, fun h => by omega⟩, by omega, by omega, fun _ => by omega, rfl⟩, HBR.out⟩
       | false =>
        by_cases h40 : 40 < s.size - x
        ·
         have q40 : (40 : Int) < (s.size : Int) - (x : Int) := by omega
         have HR := Lib.hid (st5_heap HK4.out (.int .i64 4) (.int .i64 (x : Int)) (.int .i64 0) (.string ⟨#[]⟩) (.int .u64 0))
         have HBR := Lib.hid (HBB.out.trans ((st5_only w2 b4 (.int .i64 4) (.int .i64 (x : Int)) (.int .i64 0) (.string ⟨#[]⟩) (.int .u64 0)).below (fun k _ e => by rw [e]; have := HE.out; omega) HBB.out.size))
         obtain ⟨⟨y0, y1, y2, y3, y4⟩, yz⟩ := box5 HK4.out
         have yz0 := yz 0
         have yz1 := yz 1
         have yz2 := yz 2
         have yz3 := yz 3
         have yz4 := yz 4
         clear yz
         go_wp2_with fail
         exact bodyPost_ret (v := .tuple #[.agg #[.int .i64 4, .int .i64 (x : Int), .int .i64 0, .string ⟨#[]⟩, .int .u64 0], .int .i64 (x : Int)]) (outsLx rfl rfl HR.out) rfl ⟨⟨4, x, 0, ⟨#[]⟩, 0, x, ⟨by omega, by omega, by omega, Nat.zero_le _, by omega, fun h => by omega⟩, hx1, hx2, fun h => by omega, rfl⟩, HBR.out⟩
        ·
         have q40 : ¬ (40 : Int) < (s.size : Int) - (x : Int) := by omega
         have HR := Lib.hid (st5_heap HK4.out (.int .i64 1) (.int .i64 (x : Int)) (.int .i64 0) (.string (T)) (.int .u64 0))
         have HBR := Lib.hid (HBB.out.trans ((st5_only w2 b4 (.int .i64 1) (.int .i64 (x : Int)) (.int .i64 0) (.string (T)) (.int .u64 0)).below (fun k _ e => by rw [e]; have := HE.out; omega) HBB.out.size))
         obtain ⟨⟨y0, y1, y2, y3, y4⟩, yz⟩ := box5 HK4.out
         have yz0 := yz 0
         have yz1 := yz 1
         have yz2 := yz 2
         have yz3 := yz 3
         have yz4 := yz 4
         clear yz
         go_wp2_with fail
         exact bodyPost_ret (v := .tuple #[.agg #[.int .i64 1, .int .i64 (x : Int), .int .i64 0, .string (T), .int .u64 0], .int .i64 (s.size : Int)]) (outsLx rfl rfl HR.out) rfl ⟨⟨1, x, 0, T, 0, s.size, ⟨by omega, by omega, by omega, by omega, by omega, fun _ => by omega⟩, by omega, by omega, fun _ => by omega, rfl⟩, HBR.out⟩
    | false =>
     rw [hlb] at hlc
     clear hC hdb hlb
     go_wp2_with fail
     refine hdc.mono ?_
     rintro e w2 ⟨rfl, rfl⟩
     clear hdc
     go_wp2_with fail
     refine hlc.mono ?_
     rintro e w2 ⟨rfl, rfl⟩
     clear hlc
     obtain ⟨w1, hw1⟩ : ∃ z, z = w2 := ⟨_, rfl⟩
     subst hw1
     by_cases h2 : x + 1 < s.size
     ·
      have h2i : (x : Int) + 1 < (s.size : Int) := by omega
      obtain ⟨T2, hT2⟩ : ∃ T, T = s.extract x (x + 2) := ⟨_, rfl⟩
      have hT2s : T2.size = 2 := by rw [hT2, ext_size s (by omega) (by omega)]; omega
      have hs2 : StrsAt (w1.alloc (.cells #[.string ⟨#[60, 61]⟩, .string ⟨#[62, 61]⟩, .string ⟨#[61, 61]⟩, .string ⟨#[33, 61]⟩, .string ⟨#[60, 60]⟩, .string ⟨#[62, 62]⟩, .string ⟨#[38, 38]⟩, .string ⟨#[124, 124]⟩] 9)) (some ⟨w1.heap.size, 0, none⟩) 8 := strs_list [⟨#[60, 61]⟩, ⟨#[62, 61]⟩, ⟨#[61, 61]⟩, ⟨#[33, 61]⟩, ⟨#[60, 60]⟩, ⟨#[62, 62]⟩, ⟨#[38, 38]⟩, ⟨#[124, 124]⟩] w1 9
      have ha2 := among_any T2 (some ⟨w1.heap.size, 0, none⟩) 8 8 _ hs2 (by omega)
      have hbn := (Below.refl w1.heap.size w1).alloc (Nat.le_refl _) (.cells #[.string ⟨#[60, 61]⟩, .string ⟨#[62, 61]⟩, .string ⟨#[61, 61]⟩, .string ⟨#[33, 61]⟩, .string ⟨#[60, 60]⟩, .string ⟨#[62, 62]⟩, .string ⟨#[38, 38]⟩, .string ⟨#[124, 124]⟩] 9)
      rw [hT2] at ha2
      clear hs2
      go_wp2_with fail
      refine ha2.mono ?_
      rintro e w4 ⟨⟨y, rfl⟩, rfl⟩
      clear ha2
      replace HK4 := Lib.hid (heap_below hbn HK4.out)
      replace HBB := Lib.hid (HBB.out.trans (hbn.mono HBB.out.size))
      clear hbn
      generalize w1.alloc (.cells #[.string ⟨#[60, 61]⟩, .string ⟨#[62, 61]⟩, .string ⟨#[61, 61]⟩, .string ⟨#[33, 61]⟩, .string ⟨#[60, 60]⟩, .string ⟨#[62, 62]⟩, .string ⟨#[38, 38]⟩, .string ⟨#[124, 124]⟩] 9) = wz at *
      cases y with
      | true =>
       have hTe := hT2.symm
       rw [hTe]
       clear hT2
       have HR := Lib.hid (st5_heap HK4.out (.int .i64 3) (.int .i64 (x : Int)) (.int .i64 0) (.string (T2)) (.int .u64 0))
       have HBR := Lib.hid (HBB.out.trans ((st5_only wz b4 (.int .i64 3) (.int .i64 (x : Int)) (.int .i64 0) (.string (T2)) (.int .u64 0)).below (fun k _ e => by rw [e]; have := HE.out; omega) HBB.out.size))
       obtain ⟨⟨y0, y1, y2, y3, y4⟩, yz⟩ := box5 HK4.out
       have yz0 := yz 0
       have yz1 := yz 1
       have yz2 := yz 2
       have yz3 := yz 3
       have yz4 := yz 4
       clear yz
       go_wp2_with fail
       exact bodyPost_ret (v := .tuple #[.agg #[.int .i64 3, .int .i64 (x : Int), .int .i64 0, .string (T2), .int .u64 0], .int .i64 ((x + 2 : Nat) : Int)]) (outsLx rfl rfl HR.out) rfl ⟨⟨3, x, 0, T2, 0, (x + 2 : Nat), ⟨by omega, by omega, by omega, by omega, by omega, fun h => by omega⟩, by omega, by omega, fun _ => by omega, rfl⟩, HBR.out⟩
      | false =>
       clear hT2 hT2s
       clear T2
       obtain ⟨T1, hT1⟩ : ∃ T, T = s.extract x (x + 1) := ⟨_, rfl⟩
       have hT1s : T1.size = 1 := by rw [hT1, ext_size s (by omega) (by omega)]; omega
       have hs1 : StrsAt (wz.alloc (.cells #[.string ⟨#[40]⟩, .string ⟨#[41]⟩, .string ⟨#[91]⟩, .string ⟨#[93]⟩, .string ⟨#[123]⟩, .string ⟨#[125]⟩, .string ⟨#[59]⟩, .string ⟨#[58]⟩, .string ⟨#[44]⟩, .string ⟨#[46]⟩, .string ⟨#[35]⟩, .string ⟨#[64]⟩, .string ⟨#[42]⟩, .string ⟨#[43]⟩, .string ⟨#[45]⟩, .string ⟨#[38]⟩, .string ⟨#[124]⟩, .string ⟨#[94]⟩, .string ⟨#[126]⟩, .string ⟨#[33]⟩, .string ⟨#[60]⟩, .string ⟨#[62]⟩, .string ⟨#[61]⟩, .string ⟨#[63]⟩] 9)) (some ⟨wz.heap.size, 0, none⟩) 24 := strs_list [⟨#[40]⟩, ⟨#[41]⟩, ⟨#[91]⟩, ⟨#[93]⟩, ⟨#[123]⟩, ⟨#[125]⟩, ⟨#[59]⟩, ⟨#[58]⟩, ⟨#[44]⟩, ⟨#[46]⟩, ⟨#[35]⟩, ⟨#[64]⟩, ⟨#[42]⟩, ⟨#[43]⟩, ⟨#[45]⟩, ⟨#[38]⟩, ⟨#[124]⟩, ⟨#[94]⟩, ⟨#[126]⟩, ⟨#[33]⟩, ⟨#[60]⟩, ⟨#[62]⟩, ⟨#[61]⟩, ⟨#[63]⟩] wz 9
       have ha1 := among_any T1 (some ⟨wz.heap.size, 0, none⟩) 24 24 _ hs1 (by omega)
       have hbn := (Below.refl wz.heap.size wz).alloc (Nat.le_refl _) (.cells #[.string ⟨#[40]⟩, .string ⟨#[41]⟩, .string ⟨#[91]⟩, .string ⟨#[93]⟩, .string ⟨#[123]⟩, .string ⟨#[125]⟩, .string ⟨#[59]⟩, .string ⟨#[58]⟩, .string ⟨#[44]⟩, .string ⟨#[46]⟩, .string ⟨#[35]⟩, .string ⟨#[64]⟩, .string ⟨#[42]⟩, .string ⟨#[43]⟩, .string ⟨#[45]⟩, .string ⟨#[38]⟩, .string ⟨#[124]⟩, .string ⟨#[94]⟩, .string ⟨#[126]⟩, .string ⟨#[33]⟩, .string ⟨#[60]⟩, .string ⟨#[62]⟩, .string ⟨#[61]⟩, .string ⟨#[63]⟩] 9)
       rw [hT1] at ha1
       clear hs1
       go_wp2_with fail
       refine ha1.mono ?_
       rintro e w5 ⟨⟨y, rfl⟩, rfl⟩
       clear ha1
       replace HK4 := Lib.hid (heap_below hbn HK4.out)
       replace HBB := Lib.hid (HBB.out.trans (hbn.mono HBB.out.size))
       clear hbn
       generalize wz.alloc (.cells #[.string ⟨#[40]⟩, .string ⟨#[41]⟩, .string ⟨#[91]⟩, .string ⟨#[93]⟩, .string ⟨#[123]⟩, .string ⟨#[125]⟩, .string ⟨#[59]⟩, .string ⟨#[58]⟩, .string ⟨#[44]⟩, .string ⟨#[46]⟩, .string ⟨#[35]⟩, .string ⟨#[64]⟩, .string ⟨#[42]⟩, .string ⟨#[43]⟩, .string ⟨#[45]⟩, .string ⟨#[38]⟩, .string ⟨#[124]⟩, .string ⟨#[94]⟩, .string ⟨#[126]⟩, .string ⟨#[33]⟩, .string ⟨#[60]⟩, .string ⟨#[62]⟩, .string ⟨#[61]⟩, .string ⟨#[63]⟩] 9) = wy at *
       have hTe := hT1.symm
       rw [hTe]
       clear hT1
       cases y with
       | true =>
        have HR := Lib.hid (st5_heap HK4.out (.int .i64 3) (.int .i64 (x : Int)) (.int .i64 0) (.string (T1)) (.int .u64 0))
        have HBR := Lib.hid (HBB.out.trans ((st5_only wy b4 (.int .i64 3) (.int .i64 (x : Int)) (.int .i64 0) (.string (T1)) (.int .u64 0)).below (fun k _ e => by rw [e]; have := HE.out; omega) HBB.out.size))
        obtain ⟨⟨y0, y1, y2, y3, y4⟩, yz⟩ := box5 HK4.out
        have yz0 := yz 0
        have yz1 := yz 1
        have yz2 := yz 2
        have yz3 := yz 3
        have yz4 := yz 4
        clear yz
        go_wp2_with fail
        exact bodyPost_ret (v := .tuple #[.agg #[.int .i64 3, .int .i64 (x : Int), .int .i64 0, .string (T1), .int .u64 0], .int .i64 ((x + 1 : Nat) : Int)]) (outsLx rfl rfl HR.out) rfl ⟨⟨3, x, 0, T1, 0, (x + 1 : Nat), ⟨by omega, by omega, by omega, by omega, by omega, fun h => by omega⟩, by omega, by omega, fun _ => by omega, rfl⟩, HBR.out⟩
       | false =>
        have HR := Lib.hid (st5_heap HK4.out (.int .i64 4) (.int .i64 (x : Int)) (.int .i64 0) (.string ⟨#[]⟩) (.int .u64 0))
        have HBR := Lib.hid (HBB.out.trans ((st5_only wy b4 (.int .i64 4) (.int .i64 (x : Int)) (.int .i64 0) (.string ⟨#[]⟩) (.int .u64 0)).below (fun k _ e => by rw [e]; have := HE.out; omega) HBB.out.size))
        obtain ⟨⟨y0, y1, y2, y3, y4⟩, yz⟩ := box5 HK4.out
        have yz0 := yz 0
        have yz1 := yz 1
        have yz2 := yz 2
        have yz3 := yz 3
        have yz4 := yz 4
        clear yz
        go_wp2_with fail
        exact bodyPost_ret (v := .tuple #[.agg #[.int .i64 4, .int .i64 (x : Int), .int .i64 0, .string ⟨#[]⟩, .int .u64 0], .int .i64 (x : Int)]) (outsLx rfl rfl HR.out) rfl ⟨⟨4, x, 0, ⟨#[]⟩, 0, x, ⟨by omega, by omega, by omega, Nat.zero_le _, by omega, fun h => by omega⟩, hx1, hx2, fun h => by omega, rfl⟩, HBR.out⟩
     ·
      have h2i : ¬ (x : Int) + 1 < (s.size : Int) := by omega
      obtain ⟨T1, hT1⟩ : ∃ T, T = s.extract x (x + 1) := ⟨_, rfl⟩
      have hT1s : T1.size = 1 := by rw [hT1, ext_size s (by omega) (by omega)]; omega
      have hs1 : StrsAt (w1.alloc (.cells #[.string ⟨#[40]⟩, .string ⟨#[41]⟩, .string ⟨#[91]⟩, .string ⟨#[93]⟩, .string ⟨#[123]⟩, .string ⟨#[125]⟩, .string ⟨#[59]⟩, .string ⟨#[58]⟩, .string ⟨#[44]⟩, .string ⟨#[46]⟩, .string ⟨#[35]⟩, .string ⟨#[64]⟩, .string ⟨#[42]⟩, .string ⟨#[43]⟩, .string ⟨#[45]⟩, .string ⟨#[38]⟩, .string ⟨#[124]⟩, .string ⟨#[94]⟩, .string ⟨#[126]⟩, .string ⟨#[33]⟩, .string ⟨#[60]⟩, .string ⟨#[62]⟩, .string ⟨#[61]⟩, .string ⟨#[63]⟩] 9)) (some ⟨w1.heap.size, 0, none⟩) 24 := strs_list [⟨#[40]⟩, ⟨#[41]⟩, ⟨#[91]⟩, ⟨#[93]⟩, ⟨#[123]⟩, ⟨#[125]⟩, ⟨#[59]⟩, ⟨#[58]⟩, ⟨#[44]⟩, ⟨#[46]⟩, ⟨#[35]⟩, ⟨#[64]⟩, ⟨#[42]⟩, ⟨#[43]⟩, ⟨#[45]⟩, ⟨#[38]⟩, ⟨#[124]⟩, ⟨#[94]⟩, ⟨#[126]⟩, ⟨#[33]⟩, ⟨#[60]⟩, ⟨#[62]⟩, ⟨#[61]⟩, ⟨#[63]⟩] w1 9
      have ha1 := among_any T1 (some ⟨w1.heap.size, 0, none⟩) 24 24 _ hs1 (by omega)
      have hbn := (Below.refl w1.heap.size w1).alloc (Nat.le_refl _) (.cells #[.string ⟨#[40]⟩, .string ⟨#[41]⟩, .string ⟨#[91]⟩, .string ⟨#[93]⟩, .string ⟨#[123]⟩, .string ⟨#[125]⟩, .string ⟨#[59]⟩, .string ⟨#[58]⟩, .string ⟨#[44]⟩, .string ⟨#[46]⟩, .string ⟨#[35]⟩, .string ⟨#[64]⟩, .string ⟨#[42]⟩, .string ⟨#[43]⟩, .string ⟨#[45]⟩, .string ⟨#[38]⟩, .string ⟨#[124]⟩, .string ⟨#[94]⟩, .string ⟨#[126]⟩, .string ⟨#[33]⟩, .string ⟨#[60]⟩, .string ⟨#[62]⟩, .string ⟨#[61]⟩, .string ⟨#[63]⟩] 9)
      rw [hT1] at ha1
      clear hs1
      go_wp2_with fail
      refine ha1.mono ?_
      rintro e w5 ⟨⟨y, rfl⟩, rfl⟩
      clear ha1
      replace HK4 := Lib.hid (heap_below hbn HK4.out)
      replace HBB := Lib.hid (HBB.out.trans (hbn.mono HBB.out.size))
      clear hbn
      generalize w1.alloc (.cells #[.string ⟨#[40]⟩, .string ⟨#[41]⟩, .string ⟨#[91]⟩, .string ⟨#[93]⟩, .string ⟨#[123]⟩, .string ⟨#[125]⟩, .string ⟨#[59]⟩, .string ⟨#[58]⟩, .string ⟨#[44]⟩, .string ⟨#[46]⟩, .string ⟨#[35]⟩, .string ⟨#[64]⟩, .string ⟨#[42]⟩, .string ⟨#[43]⟩, .string ⟨#[45]⟩, .string ⟨#[38]⟩, .string ⟨#[124]⟩, .string ⟨#[94]⟩, .string ⟨#[126]⟩, .string ⟨#[33]⟩, .string ⟨#[60]⟩, .string ⟨#[62]⟩, .string ⟨#[61]⟩, .string ⟨#[63]⟩] 9) = wy at *
      have hTe := hT1.symm
      rw [hTe]
      clear hT1
      cases y with
      | true =>
       have HR := Lib.hid (st5_heap HK4.out (.int .i64 3) (.int .i64 (x : Int)) (.int .i64 0) (.string (T1)) (.int .u64 0))
       have HBR := Lib.hid (HBB.out.trans ((st5_only wy b4 (.int .i64 3) (.int .i64 (x : Int)) (.int .i64 0) (.string (T1)) (.int .u64 0)).below (fun k _ e => by rw [e]; have := HE.out; omega) HBB.out.size))
       obtain ⟨⟨y0, y1, y2, y3, y4⟩, yz⟩ := box5 HK4.out
       have yz0 := yz 0
       have yz1 := yz 1
       have yz2 := yz 2
       have yz3 := yz 3
       have yz4 := yz 4
       clear yz
       go_wp2_with fail
       exact bodyPost_ret (v := .tuple #[.agg #[.int .i64 3, .int .i64 (x : Int), .int .i64 0, .string (T1), .int .u64 0], .int .i64 ((x + 1 : Nat) : Int)]) (outsLx rfl rfl HR.out) rfl ⟨⟨3, x, 0, T1, 0, (x + 1 : Nat), ⟨by omega, by omega, by omega, by omega, by omega, fun h => by omega⟩, by omega, by omega, fun _ => by omega, rfl⟩, HBR.out⟩
      | false =>
       have HR := Lib.hid (st5_heap HK4.out (.int .i64 4) (.int .i64 (x : Int)) (.int .i64 0) (.string ⟨#[]⟩) (.int .u64 0))
       have HBR := Lib.hid (HBB.out.trans ((st5_only wy b4 (.int .i64 4) (.int .i64 (x : Int)) (.int .i64 0) (.string ⟨#[]⟩) (.int .u64 0)).below (fun k _ e => by rw [e]; have := HE.out; omega) HBB.out.size))
       obtain ⟨⟨y0, y1, y2, y3, y4⟩, yz⟩ := box5 HK4.out
       have yz0 := yz 0
       have yz1 := yz 1
       have yz2 := yz 2
       have yz3 := yz 3
       have yz4 := yz 4
       clear yz
       go_wp2_with fail
       exact bodyPost_ret (v := .tuple #[.agg #[.int .i64 4, .int .i64 (x : Int), .int .i64 0, .string ⟨#[]⟩, .int .u64 0], .int .i64 (x : Int)]) (outsLx rfl rfl HR.out) rfl ⟨⟨4, x, 0, ⟨#[]⟩, 0, x, ⟨by omega, by omega, by omega, Nat.zero_le _, by omega, fun h => by omega⟩, hx1, hx2, fun h => by omega, rfl⟩, HBR.out⟩
  ·
   obtain rfl : s.size = x := by omega
   have hne : ((s.size : Int) == (s.size : Int)) = true := by simp
   have HR := Lib.hid (st5_heap HK4.out (.int .i64 0) (.int .i64 (s.size : Int)) (.int .i64 0) (.string ⟨#[]⟩) (.int .u64 0))
   have HBR := Lib.hid (HBB.out.trans ((st5_only w1 b4 (.int .i64 0) (.int .i64 (s.size : Int)) (.int .i64 0) (.string ⟨#[]⟩) (.int .u64 0)).below (fun k _ e => by rw [e]; have := HE.out; omega) HBB.out.size))
   obtain ⟨⟨y0, y1, y2, y3, y4⟩, yz⟩ := box5 HK4.out
   have yz0 := yz 0
   have yz1 := yz 1
   have yz2 := yz 2
   have yz3 := yz 3
   have yz4 := yz 4
   clear yz
   go_wp2_with fail
   exact bodyPost_ret (v := .tuple #[.agg #[.int .i64 0, .int .i64 (s.size : Int), .int .i64 0, .string ⟨#[]⟩, .int .u64 0], .int .i64 (s.size : Int)]) (outsLx rfl rfl HR.out) rfl ⟨⟨0, s.size, 0, ⟨#[]⟩, 0, s.size, ⟨by omega, by omega, by omega, Nat.zero_le _, by omega, fun h => by omega⟩, hx1, hx2, fun h => by omega, rfl⟩, HBR.out⟩
end Go.Proofs.YtbdcpealkllfnaaDoor
