/- aiger.number, walked: a number, as it is written; -1: it is none. Condition: the text is shorter than 1000000000 bytes. -/
import Derived.Test.YtngjbiipgbeemaaDoorNuF
import Derived.Laws.RangeAny
import Derived.Laws.RangeString
import Derived.Lib.TrimU
import Derived.LoopTactic
namespace Go.Proofs.YtngjbiipgbeemaaDoor
open Go.RowKit Go.Shelf

def numI (l : List UInt8) : Int := match numB l with
  | some n => (n : Int)
  | none => -1
theorem numI_none {l : List UInt8} (h : numB l = none) : numI l = -1 := by unfold numI; rw [h]
theorem numI_some {l : List UInt8} {n : Nat} (h : numB l = some n) : numI l = n := by unfold numI; rw [h]
theorem below_iter (w : World) (s : ByteArray) (p : Nat) : Below w.heap.size w (w.iter s p) := by
  have h : w.iter s p = w.alloc (.stringIter s p) := rfl
  rw [h]
  exact (Below.refl _ _).alloc (Nat.le_refl _) _
set_option maxRecDepth 100000 in
set_option maxHeartbeats 8000000 in
theorem number_any (l : List UInt8) (w : World) (hl : l.length ≤ 1000000000) :
    Calls Tryd.prog 42 #[.string (bstr l)] w fun e w' => e = .returned (.int .i64 (numI l)) ∧ Below w.heap.size w w' := by
  obtain ⟨s, hs⟩ : ∃ s, s = bstr l := ⟨_, rfl⟩
  have hsz : s.size = l.length := by rw [hs]; exact bstr_size l
  rw [← hs]
  have HS := Lib.hid hs
  clear hs
  by_cases h0 : l = []
  · have hcs : (s.toList == []) = true := by rw [HS.out, bstr_toList, h0]; rfl
    rw [numI_none (numB_bad (by rw [h0]; rfl))]
    clear h0
    go_enter Tryd.func42, Tryd.ntmps42
    go_wp2
    go_ret
    exact ⟨rfl, Below.refl _ _⟩
  have hcs : (s.toList == []) = false := by rw [HS.out, bstr_toList]; simpa using h0
  have hpos : 0 < l.length := List.length_pos_iff.2 h0
  by_cases h9 : 9 < l.length
  · rw [numI_none (numB_bad (badN_long h9))]
    clear h0
    go_enter Tryd.func42, Tryd.ntmps42
    go_wp2
    go_ret
    exact ⟨rfl, Below.refl _ _⟩
  have hps : 0 < s.size := by omega
  obtain ⟨b0, hb0⟩ : ∃ b0 : UInt8, s[0]'hps = b0 := ⟨_, rfl⟩
  have HB0 : Hid (l[0]? = some b0) := Lib.hid (by
    have h := Lib.data_getElem? s 0 hps
    rw [hb0, HS.out, bstr_list] at h; exact h)
  have hng9 : ¬ ((9 : Int) < (l.length : Int)) := by omega
  by_cases hz : 1 < l.length ∧ b0 = 48
  · obtain ⟨h1, rfl⟩ := hz
    rw [numI_none (numB_bad (badN_zero h1 (by rw [List.head?_eq_getElem?]; exact HB0.out)))]
    clear h0
    go_enter Tryd.func42, Tryd.ntmps42
    go_wp2
    go_ret
    exact ⟨rfl, Below.refl _ _⟩
  have HBad : Hid (badN l = false) := Lib.hid (badN_ok h0 (by omega) (by
    by_cases h1 : 1 < l.length
    · right
      rw [List.head?_eq_getElem?, HB0.out]
      intro e; injection e with e; exact hz ⟨h1, e⟩
    · left; omega))
  have hb48 : 1 < l.length → ((b0.toNat : Int) == 48) = false := fun h1 => by
    rw [beq_eq_false_iff_ne]
    intro e
    exact hz ⟨h1, UInt8.toNat_inj.1 (by rw [show (48 : UInt8).toNat = 48 from rfl]; omega)⟩
  clear hz h0
  rcases Nat.lt_or_ge 1 l.length with h1 | h1
  have hb := hb48 h1
  rotate_left
  have hb := h1
  all_goals
    clear hb48
    go_enter Tryd.func42, Tryd.ntmps42
    go_wp2
    go_loopw [3] (fun vn w' => ∃ i : Nat, i ≤ l.length ∧ w' = w.iter s i ∧ vn = .int .i64 (valB (l.take i) : Nat) ∧ Hid ((l.take i).all digB = true)) (fun _ w' => l.length - w'.iterPos w.heap.size)
    case atStart => exact ⟨0, by omega, rfl, rfl, Lib.hid rfl⟩
    case round =>
      obtain ⟨i, hi, rfl, rfl, HA⟩ := hrel
      by_cases hlt : i < l.length
      · have hls : i < s.size := by omega
        obtain ⟨b, hbe⟩ : ∃ b : UInt8, s[i]'hls = b := ⟨_, rfl⟩
        have HBI : Hid (l[i]? = some b) := Lib.hid (by
          have h := Lib.data_getElem? s i hls
          rw [hbe, HS.out, bstr_list] at h; exact h)
        obtain ⟨v, hv⟩ : ∃ v, b.toNat = v := ⟨_, rfl⟩
        have hv256 : v < 256 := by rw [← hv]; exact b.toNat_lt
        have HV := Lib.hid hv
        have hwp : 1 ≤ (Utf8.decode s i).2 := Lib.width_pos s i
        by_cases hd : digB b = true
        · have hdv : 48 ≤ v ∧ v ≤ 57 := by simp only [digB, Bool.and_eq_true, decide_eq_true_eq, hv] at hd; exact hd
          obtain ⟨hd1, hd2⟩ := hdv
          have HD := Lib.hid hd
          have hdc : Utf8.decode s i = (v, 1) := by rw [decode_ascii s i hls (by rw [hbe, hv]; omega), hbe, hv]
          clear hd hv hbe
          have h1 : ¬ ((v : Int) < 48) := by omega
          have h2 : ¬ ((57 : Int) < (v : Int)) := by omega
          obtain ⟨N, hN⟩ : ∃ N, valB (l.take i) = N := ⟨_, rfl⟩
          have hNl : N < 1000000000 := by rw [← hN]; exact val_take_lt HA.out (by omega)
          rw [hN]
          have HN := Lib.hid hN
          clear hN
          obtain ⟨u, hu⟩ : ∃ u, v = 48 + u := ⟨v - 48, by omega⟩
          subst hu
          have hnx : ∀ ty, (Instr.next (.pointer (some ⟨w.heap.size, 0, none⟩)) true ty).run Tryd.prog (w.iter s i) = .ok (.tuple #[.bool true, .int .i64 i, .int .i32 ((48 + u : Nat) : Int)]) (w.iter s (i + 1)) := fun ty => by
            rw [run_next_any w s i ty hls, hdc]
          clear hdc hwp
          have ew1 : IntKind.i32.wrap (((48 + u : Nat) : Int) - 48) = (u : Int) := by rw [IntKind.wrap_i32]; omega
          have ew2 : IntKind.i64.wrap ((N : Int) * 10) = ((N * 10 : Nat) : Int) := by rw [IntKind.wrap_i64]; omega
          have ew3 : IntKind.i64.wrap (((N * 10 : Nat) : Int) + (u : Int)) = ((N * 10 + u : Nat) : Int) := by rw [IntKind.wrap_i64]; omega
          go_wp2
          refine ⟨⟨i + 1, by omega, rfl, ?_, Lib.hid (all_take HBI.out HA.out HD.out)⟩, by simp; omega⟩
          rw [val_take HBI.out, HN.out, HV.out]
          refine congrArg (Value.int IntKind.i64) ?_
          omega
        · have hdv : v < 48 ∨ 57 < v := by
            simp only [digB, Bool.and_eq_true, decide_eq_true_eq, hv] at hd; omega
          have HNB := Lib.hid (numB_not HBad.out (all_not HBI.out (by simpa using hd)))
          obtain ⟨R, hR⟩ : ∃ R : Nat, (Utf8.decode s i).1 = R := ⟨_, rfl⟩
          obtain ⟨W, hW⟩ : ∃ W : Nat, (Utf8.decode s i).2 = W := ⟨_, rfl⟩
          have hr : R < 48 ∨ 57 < R := by
            by_cases ha : v < 128
            · rw [decode_ascii s i hls (by rw [hbe, hv]; exact ha), hbe, hv] at hR
              subst hR
              exact hdv
            · have := (decode_high s i hls (by rw [hbe, hv]; omega)).1
              omega
          have hrl : R ≤ 1114111 := by rw [← hR]; exact Lib.rune_le s i
          have hnx : ∀ ty, (Instr.next (.pointer (some ⟨w.heap.size, 0, none⟩)) true ty).run Tryd.prog (w.iter s i) = .ok (.tuple #[.bool true, .int .i64 i, .int .i32 (R : Int)]) (w.iter s (i + W)) := fun ty => by
            rw [run_next_any w s i ty hls, hR, hW]
          have hbi : Below w.heap.size w (w.iter s (i + W)) := below_iter w s _
          clear hd hv hbe hdv hwp hR hW
          rcases hr with hdv | hdv
          · have h1 : ((R : Int) < 48) := by omega
            go_wp2
            go_ret
            rw [numI_none HNB.out]
            exact ⟨rfl, hbi⟩
          · have h1 : ¬ ((R : Int) < 48) := by omega
            have h2 : ((57 : Int) < (R : Int)) := by omega
            go_wp2
            go_ret
            rw [numI_none HNB.out]
            exact ⟨rfl, hbi⟩
      · obtain rfl : l.length = i := by omega
        have hall : l.all digB = true := by rw [← List.take_length (l := l)]; exact HA.out
        have HNB := Lib.hid (numB_ok HBad.out hall)
        rw [List.take_length]
        have hnx : ∀ ty, (Instr.next (.pointer (some ⟨w.heap.size, 0, none⟩)) true ty).run Tryd.prog (w.iter s l.length) = _ := fun ty => run_next_end w s l.length ty (by omega)
        have hbi : Below w.heap.size w (w.iter s l.length) := below_iter w s _
        clear hall HA hlt
        go_wp2
        go_ret
        rw [numI_some HNB.out]
        exact ⟨rfl, hbi⟩
end Go.Proofs.YtngjbiipgbeemaaDoor
