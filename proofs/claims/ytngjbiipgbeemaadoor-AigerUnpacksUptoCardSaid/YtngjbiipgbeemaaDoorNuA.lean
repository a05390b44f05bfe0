/- The reference's figures, walked: a number, as it is written. Condition: the text is shorter than 1000000000 bytes. aiger.number, walked: a number, as it is written; -1: it is none. Condition: the text is shorter than 1000000000 bytes. -/
import Derived.Test.YtngjbiipgbeemaaDoorSpQ
import Derived.Test.YtngjbiipgbeemaaDoorBst
import Derived.Lib.ConvBytes
import Derived.Laws.RangeAny
import Derived.Laws.RangeString
import Derived.Lib.TrimU
import Derived.LoopTactic
namespace Go.Proofs.YtngjbiipgbeemaaDoor
open Go.RowKit Go.Shelf

theorem badN_nil : badN [] = true := rfl
theorem badN_long {l : List UInt8} (h : 9 < l.length) : badN l = true := by unfold badN; simp [h]
theorem badN_zero {l : List UInt8} (h : 1 < l.length) (h0 : l.head? = some 48) : badN l = true := by unfold badN; simp [h, h0]
theorem badN_ok {l : List UInt8} (h : l ≠ []) (h9 : l.length ≤ 9) (h0 : l.length = 1 ∨ l.head? ≠ some 48) : badN l = false := by
  unfold badN
  have h1 : l.isEmpty = false := by cases l with | nil => exact absurd rfl h | cons _ _ => rfl
  have h2 : decide (9 < l.length) = false := decide_eq_false (by omega)
  rw [h1, h2]
  rcases h0 with h0 | h0
  · rw [decide_eq_false (show ¬ 1 < l.length by omega)]; rfl
  · simp [h0]
theorem numB_bad {l : List UInt8} (h : badN l = true) : numB l = none := by unfold numB; rw [if_pos h]
theorem numB_ok {l : List UInt8} (h : badN l = false) (ha : l.all digB = true) : numB l = some (valB l) := by unfold numB; rw [if_neg (by simp [h]), if_pos ha]
theorem numB_not {l : List UInt8} (h : badN l = false) (ha : l.all digB = false) : numB l = none := by unfold numB; rw [if_neg (by simp [h]), if_neg (by simp [ha])]
theorem all_not {l : List UInt8} {i : Nat} {b : UInt8} (h : l[i]? = some b) (hb : digB b = false) : l.all digB = false := by
  rw [List.all_eq_false]
  exact ⟨b, List.mem_of_getElem? h, by simp [hb]⟩
theorem all_take {l : List UInt8} {i : Nat} {b : UInt8} (h : l[i]? = some b) (ha : (l.take i).all digB = true) (hb : digB b = true) : (l.take (i + 1)).all digB = true := by
  rw [List.take_add_one, h]
  simp [List.all_append, ha, hb]
theorem val_take {l : List UInt8} {i : Nat} {b : UInt8} (h : l[i]? = some b) : valB (l.take (i + 1)) = valB (l.take i) * 10 + (b.toNat - 48) := by
  rw [List.take_add_one, h]; exact valB_snoc _ _
theorem val_take_lt {l : List UInt8} {i : Nat} (ha : (l.take i).all digB = true) (h9 : l.length ≤ 9) : valB (l.take i) < 1000000000 := by
  have := valB_lt _ ha
  exact Nat.lt_of_lt_of_le this (Nat.le_trans (Nat.pow_le_pow_right (by omega) (show (l.take i).length ≤ 9 by rw [List.length_take]; omega)) (by decide))

theorem digit_any (b : UInt8) (w : World) : Calls Tryd.prog 63 #[.int .u8 (b.toNat : Int)] w fun e w' => e = .returned (.bool (digB b)) ∧ w' = w := by
  obtain ⟨v, hv⟩ : ∃ v, b.toNat = v := ⟨_, rfl⟩
  unfold digB
  rw [hv]
  clear hv
  go_enter Tryd.func63, Tryd.ntmps63
  go_wp2
  · go_ret
    show Ending.returned (.bool (decide ((v : Int) ≤ 57))) = _ ∧ _
    refine ⟨congrArg (fun b => Ending.returned (.bool b)) ?_, rfl⟩
    rw [decide_eq_true (show 48 ≤ v by omega), Bool.true_and]
    exact decide_eq_decide.2 (by omega)
  · go_ret
    show Ending.returned (.bool false) = _ ∧ _
    refine ⟨congrArg (fun b => Ending.returned (.bool b)) ?_, rfl⟩
    rw [decide_eq_false (show ¬ 48 ≤ v by omega), Bool.false_and]
set_option maxRecDepth 100000 in
set_option maxHeartbeats 8000000 in
theorem figures_any (l : List UInt8) (w : World) (hl : l.length ≤ 1000000000) :
    Calls Tryd.prog 53 #[.string (bstr l)] w fun e w' => e = .returned (.tuple #[.int .i64 ((numB l).getD 0 : Nat), .bool (numB l).isSome]) ∧ Below w.heap.size w w' := by
  obtain ⟨s, hs⟩ : ∃ s, s = bstr l := ⟨_, rfl⟩
  have hsz : s.size = l.length := by rw [hs]; exact bstr_size l
  rw [← hs]
  have HS := Lib.hid hs
  clear hs
  by_cases h0 : l = []
  · have hcs : (s.toList == []) = true := by rw [HS.out, bstr_toList, h0]; rfl
    rw [numB_bad (by rw [h0]; rfl)]
    clear h0
    go_enter Tryd.func53, Tryd.ntmps53
    go_wp2
    go_ret2
    exact ⟨rfl, Below.refl _ _⟩
  have hcs : (s.toList == []) = false := by rw [HS.out, bstr_toList]; simpa using h0
  have hpos : 0 < l.length := List.length_pos_iff.2 h0
  by_cases h9 : 9 < l.length
  · rw [numB_bad (badN_long h9)]
    clear h0
    go_enter Tryd.func53, Tryd.ntmps53
    go_wp2
    go_ret2
    exact ⟨rfl, Below.refl _ _⟩
  have hps : 0 < s.size := by omega
  obtain ⟨b0, hb0⟩ : ∃ b0 : UInt8, s[0]'hps = b0 := ⟨_, rfl⟩
  have HB0 : Hid (l[0]? = some b0) := Lib.hid (by
    have h := Lib.data_getElem? s 0 hps
    rw [hb0, HS.out, bstr_list] at h; exact h)
  have hng9 : ¬ ((9 : Int) < (l.length : Int)) := by omega
  by_cases hz : 1 < l.length ∧ b0 = 48
  · obtain ⟨h1, rfl⟩ := hz
    rw [numB_bad (badN_zero h1 (by rw [List.head?_eq_getElem?]; exact HB0.out))]
    clear h0
    go_enter Tryd.func53, Tryd.ntmps53
    go_wp2
    go_ret2
    exact ⟨rfl, Below.refl _ _⟩
  have HBad : Hid (badN l = false) := Lib.hid (badN_ok h0 (by omega) (by
    by_cases h1 : 1 < l.length
    · right
      rw [List.head?_eq_getElem?, HB0.out]
      intro e; injection e with e; exact hz ⟨h1, e⟩
    · left; omega))
  have hb48 : 1 < l.length → ((b0.toNat : Int) == 48) = false := fun h1 => by
    rw [beq_eq_false_iff_ne]
    intro e
    exact hz ⟨h1, UInt8.toNat_inj.1 (by rw [show (48 : UInt8).toNat = 48 from rfl]; omega)⟩
  clear hz h0
  rcases Nat.lt_or_ge 1 l.length with h1 | h1
  have hb := hb48 h1
  rotate_left
  have hb := h1
  all_goals
    clear hb48
    go_enter Tryd.func53, Tryd.ntmps53
    go_wp2
    go_loopw [4, 5] (fun vn vi wr => ∃ i : Nat, i ≤ l.length ∧ vn = .int .i64 (valB (l.take i) : Nat) ∧ vi = .int .i64 i ∧ Hid ((l.take i).all digB = true) ∧ Hid (Below w.heap.size w wr)) (fun _ vi _ => l.length - (intOf vi).toNat)
    case atStart => exact ⟨0, by omega, rfl, rfl, Lib.hid rfl, Lib.hid (Below.refl _ _)⟩
    case round =>
      obtain ⟨i, hi, rfl, rfl, HA, HBL⟩ := hrel
      by_cases hlt : i < l.length
      · have hls : i < s.size := by omega
        obtain ⟨b, hbe⟩ : ∃ b : UInt8, s[i]'hls = b := ⟨_, rfl⟩
        have HBI : Hid (l[i]? = some b) := Lib.hid (by
          have h := Lib.data_getElem? s i hls
          rw [hbe, HS.out, bstr_list] at h; exact h)
        have hcd := digit_any b
        obtain ⟨v, hv⟩ : ∃ v, b.toNat = v := ⟨_, rfl⟩
        have hv256 : v < 256 := by rw [← hv]; exact b.toNat_lt
        have HV := Lib.hid hv
        rw [hv] at hcd
        by_cases hd : digB b = true
        · have hdv : 48 ≤ v ∧ v ≤ 57 := by simp only [digB, Bool.and_eq_true, decide_eq_true_eq, hv] at hd; exact hd
          obtain ⟨hd1, hd2⟩ := hdv
          have HD := Lib.hid hd
          rw [hd] at hcd
          clear hd
          obtain ⟨N, hN⟩ : ∃ N, valB (l.take i) = N := ⟨_, rfl⟩
          have hNl : N < 1000000000 := by rw [← hN]; exact val_take_lt HA.out (by omega)
          rw [hN]
          have HN := Lib.hid hN
          clear hN
          obtain ⟨u, hu⟩ : ∃ u, v = 48 + u := ⟨v - 48, by omega⟩
          subst hu
          have ew1 : IntKind.u8.wrap (((48 + u : Nat) : Int) - 48) = (u : Int) := by rw [IntKind.wrap_u8]; omega
          have ew2 : IntKind.i64.wrap ((N : Int) * 10) = ((N * 10 : Nat) : Int) := by rw [IntKind.wrap_i64]; omega
          have ew3 : IntKind.i64.wrap (((N * 10 : Nat) : Int) + (u : Int)) = ((N * 10 + u : Nat) : Int) := by rw [IntKind.wrap_i64]; omega
          go_wp2_with (go_at_call 63; refine (hcd _).mono ?_)
          rintro e w' ⟨rfl, rfl⟩
          go_wp2
          refine ⟨⟨i + 1, by omega, ?_, by go_num, Lib.hid (all_take HBI.out HA.out HD.out), HBL⟩, by simp [intOf]; omega⟩
          rw [val_take HBI.out, HN.out, HV.out]
          refine congrArg (Value.int IntKind.i64) ?_
          omega
        · have hdf : digB b = false := by simpa using hd
          have HNB := Lib.hid (numB_not HBad.out (all_not HBI.out hdf))
          rw [hdf] at hcd
          clear hd hdf
          go_wp2_with (go_at_call 63; refine (hcd _).mono ?_)
          rintro e w' ⟨rfl, rfl⟩
          go_wp2
          go_ret2
          rw [HNB.out]
          exact ⟨rfl, HBL.out⟩
      · obtain rfl : l.length = i := by omega
        have hall : l.all digB = true := by rw [← List.take_length (l := l)]; exact HA.out
        have HNB := Lib.hid (numB_ok HBad.out hall)
        rw [List.take_length]
        clear hall HA hlt
        go_wp2
        go_ret2
        rw [HNB.out]
        exact ⟨rfl, HBL.out⟩
end Go.Proofs.YtngjbiipgbeemaaDoor
namespace Go.Proofs.YtngjbiipgbeemaaDoor
open Go.RowKit Go.Shelf

def numI (l : List UInt8) : Int := match numB l with
  | some n => (n : Int)
  | none => -1
theorem numI_none {l : List UInt8} (h : numB l = none) : numI l = -1 := by unfold numI; rw [h]
theorem numI_some {l : List UInt8} {n : Nat} (h : numB l = some n) : numI l = n := by unfold numI; rw [h]
theorem below_iter (w : World) (s : ByteArray) (p : Nat) : Below w.heap.size w (w.iter s p) := by
  have h : w.iter s p = w.alloc (.stringIter s p) := rfl
  rw [h]
  exact (Below.refl _ _).alloc (Nat.le_refl _) _
set_option maxRecDepth 100000 in
set_option maxHeartbeats 8000000 in
theorem number_any (l : List UInt8) (w : World) (hl : l.length ≤ 1000000000) :
    Calls Tryd.prog 42 #[.string (bstr l)] w fun e w' => e = .returned (.int .i64 (numI l)) ∧ Below w.heap.size w w' := by
  obtain ⟨s, hs⟩ : ∃ s, s = bstr l := ⟨_, rfl⟩
  have hsz : s.size = l.length := by rw [hs]; exact bstr_size l
  rw [← hs]
  have HS := Lib.hid hs
  clear hs
  by_cases h0 : l = []
  · have hcs : (s.toList == []) = true := by rw [HS.out, bstr_toList, h0]; rfl
    rw [numI_none (numB_bad (by rw [h0]; rfl))]
    clear h0
    go_enter Tryd.func42, Tryd.ntmps42
    go_wp2
    go_ret
    exact ⟨rfl, Below.refl _ _⟩
  have hcs : (s.toList == []) = false := by rw [HS.out, bstr_toList]; simpa using h0
  have hpos : 0 < l.length := List.length_pos_iff.2 h0
  by_cases h9 : 9 < l.length
  · rw [numI_none (numB_bad (badN_long h9))]
    clear h0
    go_enter Tryd.func42, Tryd.ntmps42
    go_wp2
    go_ret
    exact ⟨rfl, Below.refl _ _⟩
  have hps : 0 < s.size := by omega
  obtain ⟨b0, hb0⟩ : ∃ b0 : UInt8, s[0]'hps = b0 := ⟨_, rfl⟩
  have HB0 : Hid (l[0]? = some b0) := Lib.hid (by
    have h := Lib.data_getElem? s 0 hps
    rw [hb0, HS.out, bstr_list] at h; exact h)
  have hng9 : ¬ ((9 : Int) < (l.length : Int)) := by omega
  by_cases hz : 1 < l.length ∧ b0 = 48
  · obtain ⟨h1, rfl⟩ := hz
    rw [numI_none (numB_bad (badN_zero h1 (by rw [List.head?_eq_getElem?]; exact HB0.out)))]
    clear h0
    go_enter Tryd.func42, Tryd.ntmps42
    go_wp2
    go_ret
    exact ⟨rfl, Below.refl _ _⟩
  have HBad : Hid (badN l = false) := Lib.hid (badN_ok h0 (by omega) (by
    by_cases h1 : 1 < l.length
    · right
      rw [List.head?_eq_getElem?, HB0.out]
      intro e; injection e with e; exact hz ⟨h1, e⟩
    · left; omega))
  have hb48 : 1 < l.length → ((b0.toNat : Int) == 48) = false := fun h1 => by
    rw [beq_eq_false_iff_ne]
    intro e
    exact hz ⟨h1, UInt8.toNat_inj.1 (by rw [show (48 : UInt8).toNat = 48 from rfl]; omega)⟩
  clear hz h0
  rcases Nat.lt_or_ge 1 l.length with h1 | h1
  have hb := hb48 h1
  rotate_left
  have hb := h1
  all_goals
    clear hb48
    go_enter Tryd.func42, Tryd.ntmps42
    go_wp2
    go_loopw [3] (fun vn w' => ∃ i : Nat, i ≤ l.length ∧ w' = w.iter s i ∧ vn = .int .i64 (valB (l.take i) : Nat) ∧ Hid ((l.take i).all digB = true)) (fun _ w' => l.length - w'.iterPos w.heap.size)
    case atStart => exact ⟨0, by omega, rfl, rfl, Lib.hid rfl⟩
    case round =>
      obtain ⟨i, hi, rfl, rfl, HA⟩ := hrel
      by_cases hlt : i < l.length
      · have hls : i < s.size := by omega
        obtain ⟨b, hbe⟩ : ∃ b : UInt8, s[i]'hls = b := ⟨_, rfl⟩
        have HBI : Hid (l[i]? = some b) := Lib.hid (by
          have h := Lib.data_getElem? s i hls
          rw [hbe, HS.out, bstr_list] at h; exact h)
        obtain ⟨v, hv⟩ : ∃ v, b.toNat = v := ⟨_, rfl⟩
        have hv256 : v < 256 := by rw [← hv]; exact b.toNat_lt
        have HV := Lib.hid hv
        have hwp : 1 ≤ (Utf8.decode s i).2 := Lib.width_pos s i
        by_cases hd : digB b = true
        · have hdv : 48 ≤ v ∧ v ≤ 57 := by simp only [digB, Bool.and_eq_true, decide_eq_true_eq, hv] at hd; exact hd
          obtain ⟨hd1, hd2⟩ := hdv
          have HD := Lib.hid hd
          have hdc : Utf8.decode s i = (v, 1) := by rw [decode_ascii s i hls (by rw [hbe, hv]; omega), hbe, hv]
          clear hd hv hbe
          have h1 : ¬ ((v : Int) < 48) := by omega
          have h2 : ¬ ((57 : Int) < (v : Int)) := by omega
          obtain ⟨N, hN⟩ : ∃ N, valB (l.take i) = N := ⟨_, rfl⟩
          have hNl : N < 1000000000 := by rw [← hN]; exact val_take_lt HA.out (by omega)
          rw [hN]
          have HN := Lib.hid hN
          clear hN
          obtain ⟨u, hu⟩ : ∃ u, v = 48 + u := ⟨v - 48, by omega⟩
          subst hu
          have hnx : ∀ ty, (Instr.next (.pointer (some ⟨w.heap.size, 0, none⟩)) true ty).run Tryd.prog (w.iter s i) = .ok (.tuple #[.bool true, .int .i64 i, .int .i32 ((48 + u : Nat) : Int)]) (w.iter s (i + 1)) := fun ty => by
            rw [run_next_any w s i ty hls, hdc]
          clear hdc hwp
          have ew1 : IntKind.i32.wrap (((48 + u : Nat) : Int) - 48) = (u : Int) := by rw [IntKind.wrap_i32]; omega
          have ew2 : IntKind.i64.wrap ((N : Int) * 10) = ((N * 10 : Nat) : Int) := by rw [IntKind.wrap_i64]; omega
          have ew3 : IntKind.i64.wrap (((N * 10 : Nat) : Int) + (u : Int)) = ((N * 10 + u : Nat) : Int) := by rw [IntKind.wrap_i64]; omega
          go_wp2
          refine ⟨⟨i + 1, by omega, rfl, ?_, Lib.hid (all_take HBI.out HA.out HD.out)⟩, by simp; omega⟩
          rw [val_take HBI.out, HN.out, HV.out]
          refine congrArg (Value.int IntKind.i64) ?_
          omega
        · have hdv : v < 48 ∨ 57 < v := by
            simp only [digB, Bool.and_eq_true, decide_eq_true_eq, hv] at hd; omega
          have HNB := Lib.hid (numB_not HBad.out (all_not HBI.out (by simpa using hd)))
          obtain ⟨R, hR⟩ : ∃ R : Nat, (Utf8.decode s i).1 = R := ⟨_, rfl⟩
          obtain ⟨W, hW⟩ : ∃ W : Nat, (Utf8.decode s i).2 = W := ⟨_, rfl⟩
          have hr : R < 48 ∨ 57 < R := by
            by_cases ha : v < 128
            · rw [decode_ascii s i hls (by rw [hbe, hv]; exact ha), hbe, hv] at hR
              subst hR
              exact hdv
            · have := (decode_high s i hls (by rw [hbe, hv]; omega)).1
              omega
          have hrl : R ≤ 1114111 := by rw [← hR]; exact Lib.rune_le s i
          have hnx : ∀ ty, (Instr.next (.pointer (some ⟨w.heap.size, 0, none⟩)) true ty).run Tryd.prog (w.iter s i) = .ok (.tuple #[.bool true, .int .i64 i, .int .i32 (R : Int)]) (w.iter s (i + W)) := fun ty => by
            rw [run_next_any w s i ty hls, hR, hW]
          have hbi : Below w.heap.size w (w.iter s (i + W)) := below_iter w s _
          clear hd hv hbe hdv hwp hR hW
          rcases hr with hdv | hdv
          · have h1 : ((R : Int) < 48) := by omega
            go_wp2
            go_ret
            rw [numI_none HNB.out]
            exact ⟨rfl, hbi⟩
          · have h1 : ¬ ((R : Int) < 48) := by omega
            have h2 : ((57 : Int) < (R : Int)) := by omega
            go_wp2
            go_ret
            rw [numI_none HNB.out]
            exact ⟨rfl, hbi⟩
      · obtain rfl : l.length = i := by omega
        have hall : l.all digB = true := by rw [← List.take_length (l := l)]; exact HA.out
        have HNB := Lib.hid (numB_ok HBad.out hall)
        rw [List.take_length]
        have hnx : ∀ ty, (Instr.next (.pointer (some ⟨w.heap.size, 0, none⟩)) true ty).run Tryd.prog (w.iter s l.length) = _ := fun ty => run_next_end w s l.length ty (by omega)
        have hbi : Below w.heap.size w (w.iter s l.length) := below_iter w s _
        clear hall HA hlt
        go_wp2
        go_ret
        rw [numI_some HNB.out]
        exact ⟨rfl, hbi⟩
end Go.Proofs.YtngjbiipgbeemaaDoor
