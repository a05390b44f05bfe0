/- The reference's behind and row, walked. Condition: the lines lie in memory and are shorter than 1000000000 bytes. -/
import Derived.Test.YtngjbiipgbeemaaDoorTrR
import Derived.Test.YtngjbiipgbeemaaDoorPtR
namespace Go.Proofs.YtngjbiipgbeemaaDoor
open Go.RowKit Go.Shelf Go.Deep

/-- the first line that cannot stand behind a graph (from 1 on), or 0 -/
def bhF : List (List UInt8) → Nat → Nat
  | [], _ => 0
  | l :: r, n => if l = [99] then 0 else if trB l = true then bhF r (n + 1) else n + 1
theorem bhF_bad (tl : List UInt8) : ∀ (L : List (List UInt8)) (n : Nat), bhF L n ≠ 0 → tailF tl L n = some (bhF L n)
  | [], n, h => absurd rfl h
  | l :: r, n, h => by
    unfold bhF at h ⊢
    unfold tailF
    by_cases h1 : l = [99]
    · rw [if_pos h1] at h; exact absurd rfl h
    · rw [if_neg h1] at h ⊢
      rw [if_neg h1]
      by_cases h2 : trB l = true
      · rw [if_pos h2] at h ⊢
        rw [if_pos h2]
        exact bhF_bad tl r (n + 1) h
      · rw [if_neg h2]; rw [if_neg h2]
theorem bhF_c (tl : List UInt8) : ∀ (L : List (List UInt8)) (n : Nat), bhF L n = 0 → [99] ∈ L → tailF tl L n = none
  | [], n, _, h => absurd h List.not_mem_nil
  | l :: r, n, h, hm => by
    unfold bhF at h
    unfold tailF
    by_cases h1 : l = [99]
    · rw [if_pos h1]
    · rw [if_neg h1] at h ⊢
      by_cases h2 : trB l = true
      · rw [if_pos h2] at h ⊢
        rcases List.mem_cons.1 hm with e | e
        · exact absurd e.symm h1
        · exact bhF_c tl r (n + 1) h e
      · rw [if_neg h2] at h; omega
theorem bhF_end (tl : List UInt8) : ∀ (L : List (List UInt8)) (n : Nat), bhF L n = 0 → [99] ∉ L → tailF tl L n = if tl = [] then none else some (n + L.length + 1)
  | [], n, _, _ => rfl
  | l :: r, n, h, hm => by
    unfold bhF at h
    unfold tailF
    have h1 : l ≠ [99] := fun e => hm (by rw [e]; exact List.mem_cons_self)
    rw [if_neg h1] at h ⊢
    by_cases h2 : trB l = true
    · rw [if_pos h2] at h ⊢
      rw [bhF_end tl r (n + 1) h (fun e => hm (List.mem_cons_of_mem _ e))]
      simp only [List.length_cons]
      rw [show n + 1 + r.length + 1 = n + (r.length + 1) + 1 by omega]
    · rw [if_neg h2] at h; omega
theorem LsAt.at_ {w : World} {A : Option Addr} {L : List (List UInt8)} (h : LsAt w A L) {i : Nat} (hi : i < L.length) : ∃ b off, A = some ⟨b, off, none⟩ ∧ w.cell? ⟨b, off + i, none⟩ = some (.string (bstr (L.getD i []))) := by
  obtain ⟨b, off, e, hc⟩ := (RowT.row h) (show 0 < L.length by omega)
  have h1 := hc i hi 0 (by omega)
  rw [Nat.mul_one, Nat.add_zero] at h1
  exact ⟨b, off, e, h1⟩

set_option maxRecDepth 100000 in
set_option maxHeartbeats 8000000 in
theorem behind_any (L : List (List UInt8)) (A : Option Addr) (c n : Nat) (w : World) (hL : LsAt w A L) (hl : L.length ≤ 1000000000) (hw : ∀ i, i < L.length → (L.getD i []).length ≤ 1000000000) (hn : n ≤ L.length) :
    Calls Tryd.prog 27 #[.slice A L.length c, .int .i64 (n : Int)] w fun e w' => e = .returned (.int .i64 ((bhF (L.drop n) n : Nat) : Int)) ∧ Below w.heap.size w w' := by
  obtain ⟨R, hR⟩ : ∃ R, R = bhF (L.drop n) n := ⟨_, rfl⟩
  rw [← hR]
  have HL := Lib.hid hL; have HW := Lib.hid hw; have H0 := Lib.hid hR
  clear hL hw hR
  go_enter Tryd.func27, Tryd.ntmps27
  go_wp2_with fail
  go_loopw [5] (fun vi wr => ∃ i : Nat, i ≤ L.length ∧ vi = .int .i64 i ∧ Hid (R = bhF (L.drop i) i) ∧ Hid (Below w.heap.size w wr)) (fun vi _ => L.length - (intOf vi).toNat)
  case atStart => exact ⟨n, hn, rfl, H0, Lib.hid (Below.refl _ _)⟩
  case round =>
    clear H0
    obtain ⟨i, hi, rfl, HI, HB⟩ := hrel
    obtain ⟨wo, hwo⟩ : ∃ x, x = wr := ⟨_, rfl⟩
    subst hwo
    by_cases hlt : i < L.length
    · obtain ⟨b, off, rfl, x0⟩ := (HL.out.below HB.out).at_ hlt
      have htr := trailer_any (L.getD i []) wo (HW.out i hlt)
      obtain ⟨x, hx⟩ : ∃ x, x = L.getD i [] := ⟨_, rfl⟩
      rw [← hx] at htr x0
      have HD : Hid (R = if x = [99] then 0 else if trB x = true then bhF (L.drop (i + 1)) (i + 1) else i + 1) := Lib.hid (by rw [HI.out, drop_getD hlt, ← hx]; rfl)
      obtain ⟨q, hq⟩ : ∃ q, q = bstr x := ⟨_, rfl⟩
      rw [← hq] at htr x0
      clear hq hx HI
      by_cases h99 : x = [99]
      · have HR0 : Hid (R = 0) := Lib.hid (by rw [HD.out, if_pos h99])
        rw [decide_eq_true h99, Bool.true_or] at htr
        clear h99
        go_wp2_with fail
        refine htr.mono ?_
        rintro e w2 ⟨rfl, hb2⟩
        have HB2 := Lib.hid (HB.out.trans (hb2.mono HB.out.size))
        clear htr hb2 x0
        go_wp2_with fail
        go_ret
        exact ⟨by rw [HR0.out]; rfl, HB2.out⟩
      · rw [decide_eq_false h99, Bool.false_or] at htr
        by_cases ht : trB x = true
        · have HR1 : Hid (R = bhF (L.drop (i + 1)) (i + 1)) := Lib.hid (by rw [HD.out, if_neg h99, if_pos ht])
          rw [ht] at htr
          clear h99 ht
          go_wp2_with fail
          refine htr.mono ?_
          rintro e w2 ⟨rfl, hb2⟩
          have HB2 := Lib.hid (HB.out.trans (hb2.mono HB.out.size))
          clear htr hb2 x0
          go_wp2_with fail
          exact ⟨⟨i + 1, by omega, by go_num, HR1, HB2⟩, by simp [intOf]; omega⟩
        · have HR1 : Hid (R = i + 1) := Lib.hid (by rw [HD.out, if_neg h99, if_neg ht])
          rw [show trB x = false by simpa using ht] at htr
          clear h99 ht
          go_wp2_with fail
          refine htr.mono ?_
          rintro e w2 ⟨rfl, hb2⟩
          have HB2 := Lib.hid (HB.out.trans (hb2.mono HB.out.size))
          clear htr hb2 x0
          go_wp2_with fail
          go_ret
          exact ⟨by rw [HR1.out]; rfl, HB2.out⟩
    · obtain rfl : L.length = i := by omega
      have HR0 : Hid (R = 0) := Lib.hid (by rw [HI.out, List.drop_length]; rfl)
      clear hlt
      go_wp2_with fail
      go_ret
      exact ⟨by rw [HR0.out]; rfl, HB.out⟩
/-- a line's numbers: so many, or (more) one more, 0 or 1 -/
def rowR (L : List (List UInt8)) (i n : Nat) (more : Bool) : Option (List Nat) := match L[i]? with
  | none => none
  | some l => match numsB l with
    | none => none
    | some r => if (more = true ∧ r.length = n + 1 ∧ r.getD n 0 < 2) ∨ r.length = n then some r else none
theorem rowR_out {L : List (List UInt8)} {i n : Nat} {m : Bool} (h : ¬ i < L.length) : rowR L i n m = none := by
  unfold rowR; rw [List.getElem?_eq_none (by omega)]
theorem rowR_in {L : List (List UInt8)} {i n : Nat} {m : Bool} (h : i < L.length) : rowR L i n m = (match numsB (L.getD i []) with
    | none => none
    | some r => if (m = true ∧ r.length = n + 1 ∧ r.getD n 0 < 2) ∨ r.length = n then some r else none) := by
  unfold rowR
  rw [List.getD_eq_getElem?_getD, List.getElem?_eq_getElem h]; rfl
/-- what row tells -/
def RowT2 (w w' : World) (R : Option (List Nat)) (e : Ending) : Prop := (∃ v, e = .returned (.tuple #[v, .bool false]) ∧ R = none) ∨ (∃ v r, e = .returned (.tuple #[v, .bool true]) ∧ R = some r ∧ NumV w' w.heap.size (some r) v)

set_option maxRecDepth 100000 in
set_option maxHeartbeats 8000000 in
theorem refRow_any (L : List (List UInt8)) (A : Option Addr) (c i n : Nat) (m : Bool) (w : World) (hL : LsAt w A L) (hw : ∀ i, i < L.length → (L.getD i []).length ≤ 1000000000) (hn : n ≤ 10) :
    Calls Tryd.prog 26 #[.slice A L.length c, .int .i64 (i : Int), .int .i64 (n : Int), .bool m] w fun e w' => RowT2 w w' (rowR L i n m) e ∧ Below w.heap.size w w' := by
  by_cases hlt : i < L.length
  · obtain ⟨b, off, rfl, x0⟩ := hL.at_ hlt
    have hpa := parted_any (L.getD i []) w (hw i hlt)
    rw [rowR_in hlt]
    obtain ⟨x, hx⟩ : ∃ x, x = L.getD i [] := ⟨_, rfl⟩
    rw [← hx] at hpa x0 ⊢
    obtain ⟨q, hq⟩ : ∃ q, q = bstr x := ⟨_, rfl⟩
    rw [← hq] at hpa x0
    clear hq hx hL hw
    have hpos : ∀ r, numsB x = some r → 1 ≤ r.length := fun r h => (numsB_small h).1
    obtain ⟨Q, hQ⟩ : ∃ Q, Q = numsB x := ⟨_, rfl⟩
    rw [← hQ] at hpa hpos ⊢
    clear hQ
    cases Q with
    | none =>
      show Calls _ _ _ _ (fun e w' => RowT2 w w' none e ∧ _)
      go_enter Tryd.func26, Tryd.ntmps26
      go_wp2_with fail
      refine hpa.mono ?_
      rintro e w2 ⟨⟨v, rfl, hv⟩, hb2⟩
      have HB := Lib.hid hb2
      clear hpa hb2 hv
      go_wp2_with fail
      go_ret2
      exact ⟨.inl ⟨_, rfl, rfl⟩, HB.out⟩
    | some r =>
      have hr1 := hpos r rfl
      obtain ⟨R, hR⟩ : ∃ R, R = if (m = true ∧ r.length = n + 1 ∧ r.getD n 0 < 2) ∨ r.length = n then some r else none := ⟨_, rfl⟩
      show Calls _ _ _ _ (fun e w' => RowT2 w w' (if (m = true ∧ r.length = n + 1 ∧ r.getD n 0 < 2) ∨ r.length = n then some r else none) e ∧ _)
      rw [← hR]
      have HR := Lib.hid hR
      clear hR hpos
      go_enter Tryd.func26, Tryd.ntmps26
      go_wp2_with fail
      refine hpa.mono ?_
      rintro e w2 ⟨⟨v, rfl, hv⟩, hb2⟩
      have HB := Lib.hid hb2; have HV := Lib.hid hv
      obtain ⟨bN, oN, cN, rfl, hbN, hx⟩ := hv
      clear hpa hb2
      by_cases hm : m = true ∧ r.length = n + 1
      · obtain ⟨rfl, hrl⟩ := hm
        have y0 : w2.cell? ⟨bN, oN + n, none⟩ = some (.int .i64 ((r.getD n 0 : Nat) : Int)) := hx n (by omega)
        obtain ⟨y, hy⟩ : ∃ y, y = r.getD n 0 := ⟨_, rfl⟩
        rw [← hy] at y0 HR
        have hnr : (n : Int) < (r.length : Int) := by omega
        have hnr2 : n < r.length := by omega
        have q0 : ((r.length : Int) == (n : Int) + 1) = true := by rw [beq_iff_eq]; omega
        by_cases hy2 : y < 2
        · have HR1 : Hid (R = some r) := Lib.hid (by rw [HR.out]; exact if_pos (.inl ⟨rfl, hrl, hy2⟩))
          have q1 : (y : Int) < 2 := by omega
          clear hy hx hrl
          go_wp2_with fail
          go_ret2
          exact ⟨.inr ⟨_, r, rfl, HR1.out, HV.out⟩, HB.out⟩
        · have HR1 : Hid (R = none) := Lib.hid (by rw [HR.out]; exact if_neg (by rintro (h | h) <;> omega))
          have q1 : ¬ (y : Int) < 2 := by omega
          have q2 : ((r.length : Int) == (n : Int)) = false := by rw [beq_eq_false_iff_ne]; omega
          clear hy hx hrl
          go_wp2_with fail
          go_ret2
          exact ⟨.inl ⟨_, rfl, HR1.out⟩, HB.out⟩
      · by_cases hrn : r.length = n
        · have HR1 : Hid (R = some r) := Lib.hid (by rw [HR.out]; exact if_pos (.inr hrn))
          have q0 : ((r.length : Int) == (n : Int) + 1) = false := by rw [beq_eq_false_iff_ne]; omega
          have q2 : ((r.length : Int) == (n : Int)) = true := by rw [beq_iff_eq]; omega
          clear hm hrn hx
          cases m
          all_goals
            go_wp2_with fail
            go_ret2
            exact ⟨.inr ⟨_, r, rfl, HR1.out, HV.out⟩, HB.out⟩
        · have HR1 : Hid (R = none) := Lib.hid (by rw [HR.out]; exact if_neg (by rintro (h | h); exact hm ⟨h.1, h.2.1⟩; exact hrn h))
          have q2 : ((r.length : Int) == (n : Int)) = false := by rw [beq_eq_false_iff_ne]; omega
          cases m with
          | false =>
            clear hm hrn hx
            go_wp2_with fail
            go_ret2
            exact ⟨.inl ⟨_, rfl, HR1.out⟩, HB.out⟩
          | true =>
            have q0 : ((r.length : Int) == (n : Int) + 1) = false := by rw [beq_eq_false_iff_ne]; intro h; exact hm ⟨rfl, by omega⟩
            clear hm hrn hx
            go_wp2_with fail
            go_ret2
            exact ⟨.inl ⟨_, rfl, HR1.out⟩, HB.out⟩
  · rw [rowR_out hlt]
    clear hL hw
    go_enter Tryd.func26, Tryd.ntmps26
    go_wp2_with fail
    go_ret2
    exact ⟨.inl ⟨_, rfl, rfl⟩, Below.refl _ _⟩
end Go.Proofs.YtngjbiipgbeemaaDoor
