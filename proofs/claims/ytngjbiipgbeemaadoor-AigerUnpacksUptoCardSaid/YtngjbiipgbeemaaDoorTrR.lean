/- The reference's trailer and behind, walked: what stands behind a graph. Condition: the lines are shorter than 1000000000 bytes. -/
import Derived.Test.YtngjbiipgbeemaaDoorTlA
import Derived.Test.YtngjbiipgbeemaaDoorLnR
namespace Go.Proofs.YtngjbiipgbeemaaDoor
open Go.RowKit Go.Shelf Go.Deep

/-- where the first blank stands, from byte k on -/
def blk (l : List UInt8) (k : Nat) : Nat := k + ((l.drop k).takeWhile (fun x => x != 32)).length
theorem blk_stop {l : List UInt8} {k : Nat} (h : k = l.length ∨ l[k]? = some 32) : blk l k = k := by
  unfold blk
  rcases h with rfl | h
  · simp
  · rw [drop_at h]; simp
theorem blk_step {l : List UInt8} {k : Nat} {b : UInt8} (h : l[k]? = some b) (hb : b ≠ 32) : blk l k = blk l (k + 1) := by
  unfold blk
  rw [drop_at h, List.takeWhile_cons, if_pos (by simpa using hb)]
  simp; omega
theorem tr_blk (b : UInt8) (r : List UInt8) : trB (b :: r) = ((b == 105 || b == 108 || b == 111) && (numB (((b :: r).drop 1).take (blk (b :: r) 1 - 1))).isSome && decide (blk (b :: r) 1 + 1 < (b :: r).length)) := by
  unfold blk
  show ((b == 105 || b == 108 || b == 111) && (numB (r.takeWhile (fun x => x != 32))).isSome && decide ((r.takeWhile (fun x => x != 32)).length + 2 < (b :: r).length)) = _
  have e : ((b :: r).drop 1).take (1 + (((b :: r).drop 1).takeWhile (fun x => x != 32)).length - 1) = r.takeWhile (fun x => x != 32) := by
    rw [show 1 + (((b :: r).drop 1).takeWhile (fun x => x != 32)).length - 1 = (r.takeWhile (fun x => x != 32)).length by simp]
    exact (List.prefix_iff_eq_take.1 (List.takeWhile_prefix _)).symm
  rw [e]
  congr 1
  refine decide_eq_decide.2 ?_
  show _ ↔ 1 + (r.takeWhile (fun x => x != 32)).length + 1 < _
  omega
theorem tr_short {l : List UInt8} (h : l.length < 4) : trB l = false := by
  match l, h with
  | [], _ => rfl
  | b :: r, h =>
    rw [tr_blk]
    by_cases e : blk (b :: r) 1 + 1 < (b :: r).length
    · have hk : (((b :: r).drop 1).take (blk (b :: r) 1 - 1)).length ≤ 0 := by
        have h2 : blk (b :: r) 1 ≤ 1 := by omega
        rw [List.length_take]; omega
      have : ((b :: r).drop 1).take (blk (b :: r) 1 - 1) = [] := List.eq_nil_of_length_eq_zero (by omega)
      rw [this]
      simp [numB, badN]
    · rw [decide_eq_false e, Bool.and_false]
theorem ne_u8 {b c : UInt8} (h : b ≠ c) : ((b.toNat : Int) != (c.toNat : Int)) = true := by
  rw [bne_iff_ne]
  intro e
  exact h (UInt8.toNat_inj.1 (by omega))
def ilo (b : UInt8) : Bool := b == 105 || b == 108 || b == 111

set_option maxRecDepth 100000 in
set_option maxHeartbeats 8000000 in
theorem trailer_any (l : List UInt8) (w : World) (hl : l.length ≤ 1000000000) :
    Calls Tryd.prog 44 #[.string (bstr l)] w fun e w' => e = .returned (.tuple #[.bool (decide (l = [99]) || trB l), .bool (decide (l = [99]))]) ∧ Below w.heap.size w w' := by
  obtain ⟨s, hs⟩ : ∃ s, s = bstr l := ⟨_, rfl⟩
  have hsz : s.size = l.length := by rw [hs]; exact bstr_size l
  rw [← hs]
  have HS := Lib.hid hs
  by_cases h99 : l = [99]
  · have hcs : (s.toList == [99]) = true := by rw [hs, bstr_toList, h99]; rfl
    rw [h99]
    clear hs h99 hsz hl
    go_enter Tryd.func44, Tryd.ntmps44
    go_wp2_with fail
    go_ret2
    exact ⟨rfl, Below.refl _ _⟩
  have hcs : (s.toList == [99]) = false := by rw [hs, bstr_toList]; simpa using h99
  rw [decide_eq_false h99, Bool.false_or]
  clear hs h99
  by_cases h4 : l.length < 4
  · rw [tr_short h4]
    have h4i : (l.length : Int) < 4 := by omega
    go_enter Tryd.func44, Tryd.ntmps44
    go_wp2_with fail
    go_ret2
    exact ⟨rfl, Below.refl _ _⟩
  have hs0 : 0 < s.size := by omega
  obtain ⟨b, hb⟩ : ∃ b : UInt8, s[0]'hs0 = b := ⟨_, rfl⟩
  obtain ⟨r, hr⟩ : ∃ r, l = b :: r := by
    have h := Lib.data_getElem? s 0 hs0
    rw [hb, HS.out, bstr_list] at h
    match l, h with
    | x :: r, h =>
      simp only [List.getElem?_cons_zero, Option.some.injEq] at h
      exact ⟨r, by rw [h]⟩
  have HR := Lib.hid hr
  have hlen : 4 ≤ l.length := by omega
  obtain ⟨T, hT⟩ : ∃ T, T = trB l := ⟨_, rfl⟩
  rw [← hT]
  have HT : Hid (T = (ilo b && (numB ((l.drop 1).take (blk l 1 - 1))).isSome && decide (blk l 1 + 1 < l.length))) := Lib.hid (by rw [hT, HR.out]; exact tr_blk b r)
  clear hT hr h4
  have fin : ilo b = true → (∀ K : Unit, True) → True := fun _ _ => trivial
  clear fin
  by_cases hilo : b = 105 ∨ b = 108 ∨ b = 111
  · have HI : Hid (ilo b = true) := Lib.hid (by unfold ilo; rcases hilo with h | h | h <;> simp [h])
    have hq : (((b.toNat : Int) != 105) = false) ∨ (((b.toNat : Int) != 105) = true ∧ ((b.toNat : Int) != 108) = false) ∨ (((b.toNat : Int) != 105) = true ∧ ((b.toNat : Int) != 108) = true ∧ ((b.toNat : Int) != 111) = false) := by
      rcases hilo with h | h | h
      · exact .inl (by rw [h]; rfl)
      · exact .inr (.inl ⟨by rw [h]; rfl, by rw [h]; rfl⟩)
      · exact .inr (.inr ⟨by rw [h]; rfl, by rw [h]; rfl, by rw [h]; rfl⟩)
    clear hilo
    have HFG : Hid (∀ (x : List UInt8) (w1 : World), x.length ≤ l.length → Calls Tryd.prog 53 #[.string (bstr x)] w1 fun e w' => e = .returned (.tuple #[.int .i64 ((numB x).getD 0 : Nat), .bool (numB x).isSome]) ∧ Below w1.heap.size w1 w') := Lib.hid (fun x w1 hx => figures_any x w1 (by omega))
    rcases hq with q1 | ⟨q1, q2⟩ | ⟨q1, q2, q3⟩
    all_goals
      go_enter Tryd.func44, Tryd.ntmps44
      go_wp2_with fail
      go_loopw [4] (fun vk wr => ∃ k : Nat, 1 ≤ k ∧ k ≤ l.length ∧ vk = .int .i64 k ∧ wr = w ∧ Hid (blk l 1 = blk l k)) (fun vk _ => l.length - (intOf vk).toNat)
      case atStart => exact ⟨1, by omega, by omega, rfl, rfl, Lib.hid rfl⟩
      case round =>
        obtain ⟨k, hk1, hk, rfl, rfl, HK⟩ := hrel
        by_cases hgo : k < l.length ∧ l[k]? ≠ some 32
        · obtain ⟨hlt, h32⟩ := hgo
          have hls : k < s.size := by omega
          obtain ⟨c, hc⟩ : ∃ c : UInt8, s[k]'hls = c := ⟨_, rfl⟩
          have hx : l[k]? = some c := by
            have h := Lib.data_getElem? s k hls
            rw [hc, HS.out, bstr_list] at h; exact h
          have hc32 : c ≠ 32 := fun e => h32 (by rw [hx, e])
          have qc := ne_u8 hc32
          rw [show (32 : UInt8).toNat = 32 from rfl] at qc
          have HK2 := Lib.hid (HK.out.trans (blk_step hx hc32))
          clear h32 hx hc32
          go_wp2_with fail
          go_roundw
          case rel => exact ⟨k + 1, by omega, by omega, by go_num, by trivial, HK2⟩
          case measure => simp [intOf]; omega
        · have hst : k = l.length ∨ l[k]? = some 32 := by
            by_cases h1 : k < l.length
            · exact .inr (Classical.byContradiction (fun h2 => hgo ⟨h1, h2⟩))
            · exact .inl (by omega)
          have HB := Lib.hid (HK.out.trans (blk_stop hst))
          obtain ⟨x, hx⟩ : ∃ x, x = (l.drop 1).take (k - 1) := ⟨_, rfl⟩
          have hxs : s.extract 1 k = bstr x := by rw [HS.out, bstr_ext, hx]
          have hfg := HFG.out x wr (by rw [hx, List.length_take, List.length_drop]; omega)
          rw [← hxs] at hfg
          have HT2 : Hid (T = ((numB x).isSome && decide (k + 1 < l.length))) := Lib.hid (by rw [HT.out, HI.out, HB.out, hx, Bool.true_and])
          obtain ⟨N, hN⟩ : ∃ N, N = numB x := ⟨_, rfl⟩
          rw [← hN] at hfg HT2
          clear hN hx hxs hgo
          rcases Nat.lt_or_ge k l.length with hlt | hge
          have hls : k < s.size := by omega
          obtain ⟨c, hc⟩ : ∃ c : UInt8, s[k]'hls = c := ⟨_, rfl⟩
          have hbn : ((c.toNat : Int) != 32) = false := by
            have h := Lib.data_getElem? s k hls
            rw [hc, HS.out, bstr_list] at h
            rcases hst with e | e
            · omega
            · rw [e] at h
              injection h with h
              rw [← h]; rfl
          rotate_left
          have hbn := trivial
          all_goals
            clear hst
            go_wp2_with fail
            refine hfg.mono ?_
            rintro e w2 ⟨rfl, hb2⟩
            clear hfg
            cases N with
            | none =>
              simp only [Option.isSome_none, Option.getD_none] at *
              go_wp2_with fail
              go_ret2
              exact ⟨by rw [HT2.out]; rfl, hb2⟩
            | some n =>
              simp only [Option.isSome_some, Option.getD_some] at *
              by_cases hkl : k + 1 < l.length
              · have hki : (k : Int) + 1 < (l.length : Int) := by omega
                go_wp2_with fail
                go_ret2
                exact ⟨by rw [HT2.out, decide_eq_true hkl]; rfl, hb2⟩
              · have hki : ¬ (k : Int) + 1 < (l.length : Int) := by omega
                go_wp2_with fail
                go_ret2
                exact ⟨by rw [HT2.out, decide_eq_false hkl]; rfl, hb2⟩
  · have HI : Hid (T = false) := Lib.hid (by
      have h : ilo b = false := by
        unfold ilo
        simp only [Bool.or_eq_false_iff, beq_eq_false_iff_ne]
        exact ⟨⟨fun h => hilo (.inl h), fun h => hilo (.inr (.inl h))⟩, fun h => hilo (.inr (.inr h))⟩
      rw [HT.out, h]; rfl)
    have q1 : ((b.toNat : Int) != 105) = true := ne_u8 (c := 105) (fun h => hilo (.inl h))
    have q2 : ((b.toNat : Int) != 108) = true := ne_u8 (c := 108) (fun h => hilo (.inr (.inl h)))
    have q3 : ((b.toNat : Int) != 111) = true := ne_u8 (c := 111) (fun h => hilo (.inr (.inr h)))
    clear hilo
    go_enter Tryd.func44, Tryd.ntmps44
    go_wp2_with fail
    go_ret2
    exact ⟨by rw [HI.out]; rfl, Below.refl _ _⟩
end Go.Proofs.YtngjbiipgbeemaaDoor
