/- the reference's figures, walked: a number, as it is written. Condition: the text is shorter than 1000000000 bytes. -/
import Derived.Test.YtlfjchlkooemdaaDoorNuW
namespace Go.Proofs.YtlfjchlkooemdaaDoor
open Go.RowKit Go.Shelf

theorem digit_any (b : UInt8) (w : World) : Calls Tryd.prog 23 #[.int .u8 (b.toNat : Int)] w fun e w' => e = .returned (.bool (digB b)) ∧ w' = w := by
  obtain ⟨v, hv⟩ : ∃ v, b.toNat = v := ⟨_, rfl⟩
  unfold digB
  rw [hv]
  clear hv
  go_enter Tryd.func23, Tryd.ntmps23
  go_wp2
  · go_ret
    show Ending.returned (.bool (decide ((v : Int) ≤ 57))) = _ ∧ _
    refine ⟨congrArg (fun b => Ending.returned (.bool b)) ?_, rfl⟩
    rw [decide_eq_true (show 48 ≤ v by omega), Bool.true_and]
    exact decide_eq_decide.2 (by omega)
  · go_ret
    show Ending.returned (.bool false) = _ ∧ _
    refine ⟨congrArg (fun b => Ending.returned (.bool b)) ?_, rfl⟩
    rw [decide_eq_false (show ¬ 48 ≤ v by omega), Bool.false_and]
set_option maxRecDepth 100000 in
set_option maxHeartbeats 8000000 in
theorem figures_any (l : List UInt8) (w : World) (hl : l.length ≤ 1000000000) :
    Calls Tryd.prog 14 #[.string (bstr l)] w fun e w' => e = .returned (.tuple #[.int .i64 ((numB l).getD 0 : Nat), .bool (numB l).isSome]) ∧ Below w.heap.size w w' := by
  obtain ⟨s, hs⟩ : ∃ s, s = bstr l := ⟨_, rfl⟩
  have hsz : s.size = l.length := by rw [hs]; exact bstr_size l
  rw [← hs]
  have HS := Lib.hid hs
  clear hs
  by_cases h0 : l = []
  · have hcs : (s.toList == []) = true := by rw [HS.out, bstr_toList, h0]; rfl
    rw [numB_bad (by rw [h0]; rfl)]
    clear h0
    go_enter Tryd.func14, Tryd.ntmps14
    go_wp2
    go_ret2
    exact ⟨rfl, Below.refl _ _⟩
  have hcs : (s.toList == []) = false := by rw [HS.out, bstr_toList]; simpa using h0
  have hpos : 0 < l.length := List.length_pos_iff.2 h0
  by_cases h9 : 9 < l.length
  · rw [numB_bad (badN_long h9)]
    clear h0
    go_enter Tryd.func14, Tryd.ntmps14
    go_wp2
    go_ret2
    exact ⟨rfl, Below.refl _ _⟩
  have hps : 0 < s.size := by omega
  obtain ⟨b0, hb0⟩ : ∃ b0 : UInt8, s[0]'hps = b0 := ⟨_, rfl⟩
  have HB0 : Hid (l[0]? = some b0) := Lib.hid (by
    have h := Lib.data_getElem? s 0 hps
    rw [hb0, HS.out, bstr_list] at h; exact h)
  have hng9 : ¬ ((9 : Int) < (l.length : Int)) := by omega
  by_cases hz : 1 < l.length ∧ b0 = 48
  · obtain ⟨h1, rfl⟩ := hz
    rw [numB_bad (badN_zero h1 (by rw [List.head?_eq_getElem?]; exact HB0.out))]
    clear h0
    go_enter Tryd.func14, Tryd.ntmps14
    go_wp2
    go_ret2
    exact ⟨rfl, Below.refl _ _⟩
  have HBad : Hid (badN l = false) := Lib.hid (badN_ok h0 (by omega) (by
    by_cases h1 : 1 < l.length
    · right
      rw [List.head?_eq_getElem?, HB0.out]
      intro e; injection e with e; exact hz ⟨h1, e⟩
    · left; omega))
  have hb48 : 1 < l.length → ((b0.toNat : Int) == 48) = false := fun h1 => by
    rw [beq_eq_false_iff_ne]
    intro e
    exact hz ⟨h1, UInt8.toNat_inj.1 (by rw [show (48 : UInt8).toNat = 48 from rfl]; omega)⟩
  clear hz h0
  rcases Nat.lt_or_ge 1 l.length with h1 | h1
  have hb := hb48 h1
  rotate_left
  have hb := h1
  all_goals
    clear hb48
    go_enter Tryd.func14, Tryd.ntmps14
    go_wp2
    go_loopw [4, 5] (fun vn vi wr => ∃ i : Nat, i ≤ l.length ∧ vn = .int .i64 (valB (l.take i) : Nat) ∧ vi = .int .i64 i ∧ Hid ((l.take i).all digB = true) ∧ Hid (Below w.heap.size w wr)) (fun _ vi _ => l.length - (intOf vi).toNat)
    case atStart => exact ⟨0, by omega, rfl, rfl, Lib.hid rfl, Lib.hid (Below.refl _ _)⟩
    case round =>
      obtain ⟨i, hi, rfl, rfl, HA, HBL⟩ := hrel
      by_cases hlt : i < l.length
      · have hls : i < s.size := by omega
        obtain ⟨b, hbe⟩ : ∃ b : UInt8, s[i]'hls = b := ⟨_, rfl⟩
        have HBI : Hid (l[i]? = some b) := Lib.hid (by
          have h := Lib.data_getElem? s i hls
          rw [hbe, HS.out, bstr_list] at h; exact h)
        have hcd := digit_any b
        obtain ⟨v, hv⟩ : ∃ v, b.toNat = v := ⟨_, rfl⟩
        have hv256 : v < 256 := by rw [← hv]; exact b.toNat_lt
        have HV := Lib.hid hv
        rw [hv] at hcd
        by_cases hd : digB b = true
        · have hdv : 48 ≤ v ∧ v ≤ 57 := by simp only [digB, Bool.and_eq_true, decide_eq_true_eq, hv] at hd; exact hd
          obtain ⟨hd1, hd2⟩ := hdv
          have HD := Lib.hid hd
          rw [hd] at hcd
          clear hd
          obtain ⟨N, hN⟩ : ∃ N, valB (l.take i) = N := ⟨_, rfl⟩
          have hNl : N < 1000000000 := by rw [← hN]; exact val_take_lt HA.out (by omega)
          rw [hN]
          have HN := Lib.hid hN
          clear hN
          obtain ⟨u, hu⟩ : ∃ u, v = 48 + u := ⟨v - 48, by omega⟩
          subst hu
          have ew1 : IntKind.u8.wrap (((48 + u : Nat) : Int) - 48) = (u : Int) := by rw [IntKind.wrap_u8]; omega
          have ew2 : IntKind.i64.wrap ((N : Int) * 10) = ((N * 10 : Nat) : Int) := by rw [IntKind.wrap_i64]; omega
          have ew3 : IntKind.i64.wrap (((N * 10 : Nat) : Int) + (u : Int)) = ((N * 10 + u : Nat) : Int) := by rw [IntKind.wrap_i64]; omega
          go_wp2_with (go_at_call 23; refine (hcd _).mono ?_)
          rintro e w' ⟨rfl, rfl⟩
          go_wp2
          refine ⟨⟨i + 1, by omega, ?_, by go_num, Lib.hid (all_take HBI.out HA.out HD.out), HBL⟩, by simp [intOf]; omega⟩
          rw [val_take HBI.out, HN.out, HV.out]
          refine congrArg (Value.int IntKind.i64) ?_
          omega
        · have hdf : digB b = false := by simpa using hd
          have HNB := Lib.hid (numB_not HBad.out (all_not HBI.out hdf))
          rw [hdf] at hcd
          clear hd hdf
          go_wp2_with (go_at_call 23; refine (hcd _).mono ?_)
          rintro e w' ⟨rfl, rfl⟩
          go_wp2
          go_ret2
          rw [HNB.out]
          exact ⟨rfl, HBL.out⟩
      · obtain rfl : l.length = i := by omega
        have hall : l.all digB = true := by rw [← List.take_length (l := l)]; exact HA.out
        have HNB := Lib.hid (numB_ok HBad.out hall)
        rw [List.take_length]
        clear hall HA hlt
        go_wp2
        go_ret2
        rw [HNB.out]
        exact ⟨rfl, HBL.out⟩
theorem litB_minus {l : List UInt8} {vars : Nat} (h : l.head? = some 45) : litB vars l = (match numB (l.tail) with | some n => if n ≤ vars then -(n : Int) else 0 | none => 0) := by
  unfold litB; rw [if_pos h]; rfl
theorem litB_plain {l : List UInt8} {vars : Nat} (h : l.head? ≠ some 45) : litB vars l = (match numB l with | some n => if n ≤ vars then (n : Int) else 0 | none => 0) := by
  unfold litB; rw [if_neg h]; rfl

set_option maxRecDepth 100000 in
set_option maxHeartbeats 8000000 in
theorem signed_any (l : List UInt8) (vars : Nat) (w : World) (hl : l.length ≤ 1000000000) :
    Calls Tryd.prog 15 #[.string (bstr l), .int .i64 (vars : Int)] w fun e w' => e = .returned (.int .i64 (litB vars l)) ∧ Below w.heap.size w w' := by
  obtain ⟨s, hs⟩ : ∃ s, s = bstr l := ⟨_, rfl⟩
  have hsz : s.size = l.length := by rw [hs]; exact bstr_size l
  by_cases h45 : l.head? = some 45
  · rw [litB_minus h45]
    have hpos : 0 < l.length := by cases l with | nil => cases h45 | cons _ _ => simp
    have hps : 0 < s.size := by omega
    have hb0 : s[0]'hps = 45 := by
      have h := Lib.data_getElem? s 0 hps
      rw [show s.data.toList = l by rw [hs]; rfl, ← List.head?_eq_getElem?, h45] at h
      injection h with h
      exact h.symm
    have hex : s.extract 1 l.length = bstr (l.tail) := by rw [hs, bstr_drop, List.drop_one]
    rw [← hs]
    clear hs h45
    have hc := figures_any (l.tail)
    have hN : ∀ n, numB (l.tail) = some n → n < 1000000000 := fun n h => numB_le h
    obtain ⟨N, hNe⟩ : ∃ N, numB (l.tail) = N := ⟨_, rfl⟩
    rw [hNe] at hc hN ⊢
    clear hNe
    have hc := hc w (by first | omega | (simp; omega))
    cases N with
    | none =>
      go_enter Tryd.func15, Tryd.ntmps15
      go_wp2_with fail
      refine hc.mono ?_
      rintro e w1 ⟨rfl, hb⟩
      go_wp2_with fail
      go_ret
      exact ⟨rfl, hb⟩
    | some n =>
      have hn := hN n rfl
      by_cases hv : n ≤ vars
      · show Calls _ _ _ _ (fun e w' => e = .returned (.int .i64 (if n ≤ vars then -(n : Int) else 0)) ∧ _)
        rw [if_pos hv]
        go_enter Tryd.func15, Tryd.ntmps15
        go_wp2_with fail
        refine hc.mono ?_
        rintro e w1 ⟨rfl, hb⟩
        have hv2 : ¬ ((vars : Int) < (n : Int)) := by omega
        have en : IntKind.i64.wrap (-(n : Int)) = -(n : Int) := by rw [IntKind.wrap_i64]; omega
        simp only [Option.getD_some, Option.isSome_some]
        go_wp2_with fail
        go_ret
        exact ⟨rfl, hb⟩
      · show Calls _ _ _ _ (fun e w' => e = .returned (.int .i64 (if n ≤ vars then -(n : Int) else 0)) ∧ _)
        rw [if_neg hv]
        go_enter Tryd.func15, Tryd.ntmps15
        go_wp2_with fail
        refine hc.mono ?_
        rintro e w1 ⟨rfl, hb⟩
        have hv2 : (vars : Int) < (n : Int) := by omega
        simp only [Option.getD_some, Option.isSome_some]
        go_wp2_with fail
        go_ret
        exact ⟨rfl, hb⟩
  · rw [litB_plain h45]
    have hc := figures_any l
    have hN : ∀ n, numB l = some n → n < 1000000000 := fun n h => numB_le h
    obtain ⟨N, hNe⟩ : ∃ N, numB l = N := ⟨_, rfl⟩
    rw [hNe] at hc hN ⊢
    rw [← hs] at hc ⊢
    have hm : ∀ hps : 0 < s.size, (((s[0]'hps).toNat : Int) == 45) = false := fun hps => by
      rw [beq_eq_false_iff_ne]
      intro e
      have h := Lib.data_getElem? s 0 hps
      rw [show s.data.toList = l by rw [hs]; rfl, ← List.head?_eq_getElem?] at h
      exact h45 (by rw [h, UInt8.toNat_inj.1 (show (s[0]'hps).toNat = (45 : UInt8).toNat by rw [show (45 : UInt8).toNat = 45 from rfl]; omega)])
    clear hs h45
    rcases Nat.eq_zero_or_pos l.length with hpos | hpos
    rotate_left
    have hps : 0 < s.size := by omega
    have hm := hm hps
    obtain ⟨b, hb⟩ : ∃ b : UInt8, s[0]'hps = b := ⟨_, rfl⟩
    rw [hb] at hm
    rotate_left
    have hb := trivial
    all_goals
      clear hNe
      have hc := hc w (by first | omega | (simp; omega))
      cases N with
      | none =>
        go_enter Tryd.func15, Tryd.ntmps15
        go_wp2_with fail
        refine hc.mono ?_
        rintro e w1 ⟨rfl, hb⟩
        go_wp2_with fail
        go_ret
        exact ⟨rfl, hb⟩
      | some n =>
        have hn := hN n rfl
        by_cases hv : n ≤ vars
        · show Calls _ _ _ _ (fun e w' => e = .returned (.int .i64 (if n ≤ vars then (n : Int) else 0)) ∧ _)
          rw [if_pos hv]
          go_enter Tryd.func15, Tryd.ntmps15
          go_wp2_with fail
          refine hc.mono ?_
          rintro e w1 ⟨rfl, hb⟩
          have hv2 : ¬ ((vars : Int) < (n : Int)) := by omega
          have en : IntKind.i64.wrap (-(n : Int)) = -(n : Int) := by rw [IntKind.wrap_i64]; omega
          simp only [Option.getD_some, Option.isSome_some]
          go_wp2_with fail
          go_ret
          exact ⟨rfl, hb⟩
        · show Calls _ _ _ _ (fun e w' => e = .returned (.int .i64 (if n ≤ vars then (n : Int) else 0)) ∧ _)
          rw [if_neg hv]
          go_enter Tryd.func15, Tryd.ntmps15
          go_wp2_with fail
          refine hc.mono ?_
          rintro e w1 ⟨rfl, hb⟩
          have hv2 : (vars : Int) < (n : Int) := by omega
          simp only [Option.getD_some, Option.isSome_some]
          go_wp2_with fail
          go_ret
          exact ⟨rfl, hb⟩
end Go.Proofs.YtlfjchlkooemdaaDoor
