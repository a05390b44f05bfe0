/- aiger's cursor: what stands behind a graph is looked over. Conditions: the text is shorter than 1000000000 bytes; internal/bytealg.MaxLen holds a number. -/
import Derived.Test.YtngjbiipgbeemaaDoorLnC
namespace Go.Proofs.YtngjbiipgbeemaaDoor
open Go.RowKit Go.Shelf Go.Deep

/-- what the tail tells: it is right, and the number of lines does not matter; or the fault's line -/
def TlOut (w' : World) (bc : Nat) (tl : List UInt8) (L : List (List UInt8)) (n : Nat) (e : Ending) : Prop :=
  (tailF tl L n = none ∧ e = .returned (.bool true)) ∨ (∃ p rest, tailF tl L n = some p ∧ e = .returned (.bool false) ∧ CurAt w' bc rest p)
theorem ilo_ix (b : UInt8) : (Lib.indexByte [105, 108, 111] b < 0) = (¬ (b = 105 ∨ b = 108 ∨ b = 111)) := by
  have h : ∀ x y : UInt8, (x == y) = decide (y = x) := fun x y => by
    by_cases e : y = x
    · subst e; simp
    · rw [decide_eq_false e, beq_eq_false_iff_ne]; exact fun h => e h.symm
  simp only [Lib.indexByte, h]
  by_cases h1 : b = 105
  · simp [h1]
  · by_cases h2 : b = 108
    · simp [h2]
    · by_cases h3 : b = 111
      · simp [h3]
      · simp [h1, h2, h3]
def trP (l1 l2 : List UInt8) : Bool := match l1 with
  | [] => false
  | b :: r => (b == 105 || b == 108 || b == 111) && (numB r).isSome && decide (l2 ≠ [])
theorem tr_parts {l1 l2 : List UInt8} (h : ∀ b ∈ l1, b ≠ 32) : trB (l1 ++ 32 :: l2) = trP l1 l2 := by
  cases l1 with
  | nil => rfl
  | cons b r =>
    show ((b == 105 || b == 108 || b == 111) && (numB ((r ++ 32 :: l2).takeWhile (fun x => x != 32))).isSome && decide (((r ++ 32 :: l2).takeWhile (fun x => x != 32)).length + 2 < (b :: (r ++ 32 :: l2)).length)) = ((b == 105 || b == 108 || b == 111) && (numB r).isSome && decide (l2 ≠ []))
    have e : (r ++ 32 :: l2).takeWhile (fun x => x != 32) = r := by
      rw [List.takeWhile_append_of_pos (fun x hx => by simpa using h x (List.mem_cons_of_mem _ hx))]
      simp
    rw [e]
    congr 1
    refine decide_eq_decide.2 ?_
    simp only [List.length_cons, List.length_append]
    cases l2 with
    | nil => simp
    | cons _ _ => simp; omega
theorem tr_none {l : List UInt8} (h : ∀ b ∈ l, b ≠ 32) : trB l = false := by
  cases l with
  | nil => rfl
  | cons b r =>
    show ((b == 105 || b == 108 || b == 111) && (numB (r.takeWhile (fun x => x != 32))).isSome && decide ((r.takeWhile (fun x => x != 32)).length + 2 < (b :: r).length)) = _
    have e : r.takeWhile (fun x => x != 32) = r := by
      have h1 := List.takeWhile_append_of_pos (p := fun x : UInt8 => x != 32) (l₁ := r) (l₂ := []) (fun x hx => by simpa using h x (List.mem_cons_of_mem _ hx))
      simpa using h1
    rw [e, decide_eq_false (show ¬ (r.length + 2 < (b :: r).length) by simp), Bool.and_false]
def boxLen (b : Nat) (w : World) : Nat := match w.heap[b]? with
  | some (Obj.cells cs _ _) => (match cs[0]? with
    | some (Value.string s) => s.size
    | _ => 0)
  | _ => 0
theorem CurAt.len {w : World} {b n : Nat} {l : List UInt8} (h : CurAt w b l n) : boxLen b w = l.length := by
  unfold boxLen; rw [show w.heap[b]? = _ from h]; exact bstr_size l
theorem CurAt.no1 {w : World} {bc n : Nat} {rest : List UInt8} (h : CurAt w bc rest n) (hm : MaxT w) : bc ≠ 1 := fun e => by
  subst e
  obtain ⟨m, hm⟩ := hm
  have := (box2 h).1.1
  rw [hm] at this; cases this
theorem MaxT.only {w w1 : World} {S : Nat → Prop} (h : MaxT w) (k : Only S w w1) (hn : ¬ S 1) : MaxT w1 := by
  obtain ⟨m, hm⟩ := h
  exact ⟨m, k.cell hm hn⟩
theorem idxIlo (b : UInt8) (w : World) : Calls Tryd.prog 41 #[.string ⟨#[105, 108, 111]⟩, .int .u8 (b.toNat : Int)] w fun e w' => e = .returned (.int .i64 (Lib.indexByte [105, 108, 111] b)) ∧ w' = w :=
  (Tryd.strings_IndexByte ⟨#[105, 108, 111]⟩ (b.toNat : Int) w).mono (by rintro e w' ⟨h1, h2⟩; exact ⟨by rw [h1, show ((b.toNat : Int)).toNat.toUInt8 = b by simp], h2⟩)

set_option maxRecDepth 100000 in
set_option maxHeartbeats 8000000 in
theorem tail_any (bc n : Nat) (rest : List UInt8) (w : World) (hc : CurAt w bc rest n) (hm : MaxT w) (hl : rest.length ≤ 1000000000) (hn : n ≤ 2000000000) :
    Calls Tryd.prog 22 #[.pointer (some ⟨bc, 0, none⟩)] w fun e w' => TlOut w' bc (tlA rest []) (linA rest []) n e ∧ Only (fun k => k = bc) w w' := by
  have H1 := Lib.hid (hc.no1 hm)
  have HC0 := Lib.hid hc; have HM := Lib.hid hm
  obtain ⟨T, hT⟩ : ∃ T, T = tailF (tlA rest []) (linA rest []) n := ⟨_, rfl⟩
  have HT0 := Lib.hid hT
  clear hc hm hT
  go_enter Tryd.func22, Tryd.ntmps22
  go_wp2_with fail
  go_loopw [] (fun wr => ∃ (r : List UInt8) (k : Nat), r.length + k ≤ rest.length + n ∧ r.length ≤ rest.length ∧ Hid (CurAt wr bc r k) ∧ Hid (T = tailF (tlA r []) (linA r []) k) ∧ Hid (Only (fun k => k = bc) w wr)) (fun wr => boxLen bc wr)
  case atStart => exact ⟨rest, n, Nat.le_refl _, Nat.le_refl _, HC0, HT0, Lib.hid (Only.refl _ _)⟩
  case round =>
    obtain ⟨r, k, hrk, hrl, HC, HT, HO⟩ := hrel
    obtain ⟨wq, hwq⟩ : ∃ wq, wq = wr := ⟨_, rfl⟩
    subst hwq
    obtain ⟨x0, x1⟩ := (box2 HC.out).1
    obtain ⟨q, hq⟩ : ∃ q, q = bstr r := ⟨_, rfl⟩
    rw [← hq] at x0
    by_cases hr : r = []
    · have hcs : (q.toList == []) = true := by rw [hq, bstr_toList, hr]; rfl
      have HF : Hid (T = none) := Lib.hid (by rw [HT.out, hr]; rfl)
      clear hq hr
      go_wp2_with fail
      go_ret
      exact ⟨.inl ⟨by rw [← HT0.out]; exact HF.out, rfl⟩, HO.out⟩
    · have hcs : (q.toList == []) = false := by rw [hq, bstr_toList]; simpa using hr
      have HR := Lib.hid hr
      have hli := line_any bc k r wq HC.out (HM.out.only HO.out (fun e => H1.out e.symm)) (by omega) (by omega)
      clear hq hr
      go_wp2_with fail
      refine hli.mono ?_
      rintro e w1 ⟨h, hO1⟩
      have HO2 := Lib.hid (HO.out.then_ hO1 (fun _ _ h => h))
      have HM2 := Lib.hid (HM.out.only HO2.out (fun e => H1.out e.symm))
      clear x0 x1 hli hO1
      rcases h with ⟨e1, e2, rfl, hc2⟩ | ⟨l1, l2, rfl, e1, e2, rfl, hc2⟩
      · have HF : Hid (T = some (k + 1)) := Lib.hid (by rw [HT.out, e1, e2]; exact if_neg HR.out)
        have HC2 := Lib.hid hc2
        clear e1 e2 hc2 hcs
        go_wp2_with fail
        go_ret
        exact ⟨.inr ⟨_, _, by rw [← HT0.out]; exact HF.out, rfl, HC2.out⟩, HO2.out⟩
      · have HF : Hid (T = tailF (tlA l2 []) (l1 :: linA l2 []) k) := Lib.hid (by rw [HT.out, e1, e2])
        have HC2 := Lib.hid hc2
        have hle : l1.length + l2.length + 1 ≤ rest.length := by simp only [List.length_append, List.length_cons] at hrl; omega
        have hln : l2.length + (k + 1) ≤ rest.length + n := by simp only [List.length_append, List.length_cons] at hrk; omega
        have HLN : Hid (boxLen bc w1 < boxLen bc wq) := Lib.hid (by rw [hc2.len, HC.out.len, List.length_append, List.length_cons]; omega)
        clear e1 e2 hc2 hcs hrk hrl HR HT HC
        obtain ⟨s1, hs1⟩ : ∃ s, s = bstr l1 := ⟨_, rfl⟩
        have hs1z : s1.size ≤ 1000000000 := by rw [hs1, bstr_size]; omega
        rw [← hs1]
        by_cases h99 : l1 = [99]
        · have h9s : (s1.toList == [99]) = true := by rw [hs1, bstr_toList, h99]; rfl
          have HF2 : Hid (T = none) := Lib.hid (by rw [HF.out, h99]; rfl)
          clear hs1 h99
          go_wp2_with fail
          go_ret
          exact ⟨.inl ⟨by rw [← HT0.out]; exact HF2.out, rfl⟩, HO2.out⟩
        · have h9s : (s1.toList == [99]) = false := by rw [hs1, bstr_toList]; simpa using h99
          have HF2 : Hid (T = if trB l1 = true then tailF (tlA l2 []) (linA l2 []) (k + 1) else some (k + 1)) := Lib.hid (by rw [HF.out]; exact if_neg h99)
          obtain ⟨m, hm⟩ := HM2.out
          have hcut := Tryd.strings_Cut (bstr l1) ⟨#[32]⟩ m w1 (by rw [bstr_size]; omega) hm
          rw [bstr_list] at hcut
          clear h99 HF hm
          rcases cut_blank l1 with ⟨e1, e2⟩ | ⟨k1, k2, rfl, e2, e1⟩
          · rw [show (⟨#[32]⟩ : ByteArray).data.toList = [32] from rfl, e1] at hcut
            replace hcut : Calls Tryd.prog 40 #[.string (bstr l1), .string ⟨#[32]⟩] w1 fun e w' => e = .returned (.tuple #[.string (bstr l1), .string ⟨#[]⟩, .bool false]) ∧ ∃ j, w' = w1.drewN j := hcut
            rw [← hs1] at hcut
            have HF3 : Hid (T = some (k + 1)) := Lib.hid (by rw [HF2.out, tr_none e2, if_neg (by simp)])
            clear hs1 e1 e2
            go_wp2_with fail
            refine hcut.mono ?_
            rintro e w2 ⟨rfl, j, hj⟩
            have HC3 : Hid (CurAt w2 bc l2 (k + 1)) := Lib.hid (by rw [hj]; exact HC2.out)
            have HO3 : Hid (Only (fun k => k = bc) w w2) := Lib.hid (by rw [hj]; exact HO2.out.drewN j)
            clear hcut hj
            go_wp2_with fail
            go_ret
            exact ⟨.inr ⟨_, _, by rw [← HT0.out]; exact HF3.out, rfl, HC3.out⟩, HO3.out⟩
          · rw [show (⟨#[32]⟩ : ByteArray).data.toList = [32] from rfl, e1] at hcut
            replace hcut : Calls Tryd.prog 40 #[.string (bstr (k1 ++ 32 :: k2)), .string ⟨#[32]⟩] w1 fun e w' => e = .returned (.tuple #[.string (bstr k1), .string (bstr k2), .bool true]) ∧ ∃ j, w' = w1.drewN j := hcut
            rw [← hs1] at hcut
            have htr := tr_parts (l2 := k2) e2
            obtain ⟨t1, ht1⟩ : ∃ s, s = bstr k1 := ⟨_, rfl⟩
            obtain ⟨t2, ht2⟩ : ∃ s, s = bstr k2 := ⟨_, rfl⟩
            rw [← ht1, ← ht2] at hcut
            rw [htr] at HF2
            have hk1l : k1.length ≤ 1000000000 := by simp only [List.length_append, List.length_cons] at hle; omega
            clear hs1 e1 e2 htr
            by_cases hk2 : k2 = []
            · have h2s : (t2.toList == []) = true := by rw [ht2, bstr_toList, hk2]; rfl
              have HF3 : Hid (T = some (k + 1)) := Lib.hid (by
                rw [HF2.out]; refine if_neg ?_
                cases k1 with
                | nil => simp [trP]
                | cons b r => simp [trP, hk2])
              clear ht1 ht2 hk2
              go_wp2_with fail
              refine hcut.mono ?_
              rintro e w2 ⟨rfl, j, hj⟩
              have HC3 : Hid (CurAt w2 bc l2 (k + 1)) := Lib.hid (by rw [hj]; exact HC2.out)
              have HO3 : Hid (Only (fun k => k = bc) w w2) := Lib.hid (by rw [hj]; exact HO2.out.drewN j)
              clear hcut hj
              go_wp2_with fail
              go_ret
              exact ⟨.inr ⟨_, _, by rw [← HT0.out]; exact HF3.out, rfl, HC3.out⟩, HO3.out⟩
            · have h2s : (t2.toList == []) = false := by rw [ht2, bstr_toList]; simpa using hk2
              cases k1 with
              | nil =>
                have h1s : (t1.toList == []) = true := by rw [ht1, bstr_toList]; rfl
                have HF3 : Hid (T = some (k + 1)) := Lib.hid (by rw [HF2.out]; exact if_neg (by simp [trP]))
                clear ht1 ht2 hk2
                go_wp2_with fail
                refine hcut.mono ?_
                rintro e w2 ⟨rfl, j, hj⟩
                have HC3 : Hid (CurAt w2 bc l2 (k + 1)) := Lib.hid (by rw [hj]; exact HC2.out)
                have HO3 : Hid (Only (fun k => k = bc) w w2) := Lib.hid (by rw [hj]; exact HO2.out.drewN j)
                clear hcut hj
                go_wp2_with fail
                go_ret
                exact ⟨.inr ⟨_, _, by rw [← HT0.out]; exact HF3.out, rfl, HC3.out⟩, HO3.out⟩
              | cons b r =>
                have h1s : (t1.toList == []) = false := by rw [ht1, bstr_toList]; rfl
                have h1z : 0 < t1.size := by rw [ht1, bstr_size]; simp
                have h1y : t1.size ≤ 1000000000 := by rw [ht1, bstr_size]; exact hk1l
                have hb0 : t1[0]'h1z = b := by
                  have h := Lib.data_getElem? t1 0 h1z
                  obtain ⟨y, hy⟩ : ∃ y, t1[0]'h1z = y := ⟨_, rfl⟩
                  rw [hy] at h ⊢
                  rw [ht1, bstr_list] at h
                  simp only [List.getElem?_cons_zero, Option.some.injEq] at h
                  exact h.symm
                have hr9 : r.length ≤ 1000000000 := by simp only [List.length_cons] at hk1l; omega
                have hnu : ∀ w1 : World, Calls Tryd.prog 42 #[.string (t1.extract 1 t1.size)] w1 fun e w' => e = .returned (.int .i64 (numI r)) ∧ Below w1.heap.size w1 w' := fun w1 => by
                  rw [show t1.extract 1 t1.size = bstr r by rw [ht1, bstr_size, bstr_drop]; rfl]
                  exact number_any r w1 hr9
                have HNU := Lib.hid hnu
                have HF3 : Hid (T = if ((b == 105 || b == 108 || b == 111) && (numB r).isSome && decide (k2 ≠ [])) = true then tailF (tlA l2 []) (linA l2 []) (k + 1) else some (k + 1)) := HF2
                have HK2 := Lib.hid hk2
                obtain ⟨Z, hZ⟩ : ∃ Z, Z = Lib.indexByte [105, 108, 111] b := ⟨_, rfl⟩
                have hix : ∀ w1 : World, Calls Tryd.prog 41 #[.string ⟨#[105, 108, 111]⟩, .int .u8 (b.toNat : Int)] w1 fun e w' => e = .returned (.int .i64 Z) ∧ w' = w1 := fun w1 => by rw [hZ]; exact idxIlo b w1
                obtain ⟨v, hv⟩ : ∃ v, b.toNat = v := ⟨_, rfl⟩
                rw [hv] at hix
                have HIX := Lib.hid hix
                have hb0n : ((t1[0]'h1z).toNat : Int) = (v : Int) := by rw [hb0, hv]
                have HZ := Lib.hid hZ
                clear ht1 ht2 hk2 hnu hb0 hix hv hZ HF2
                go_wp2_with fail
                refine hcut.mono ?_
                rintro e w2 ⟨rfl, j, hj⟩
                have HC3 : Hid (CurAt w2 bc l2 (k + 1)) := Lib.hid (by rw [hj]; exact HC2.out)
                have HO3 : Hid (Only (fun k => k = bc) w w2) := Lib.hid (by rw [hj]; exact HO2.out.drewN j)
                have HL3 : Hid (boxLen bc w2 < boxLen bc wq) := Lib.hid (by rw [hj]; exact HLN.out)
                clear hcut hj
                by_cases hilo : Z < 0
                · have HF4 : Hid (T = some (k + 1)) := Lib.hid (by
                    rw [HF3.out]; refine if_neg ?_
                    have hz := HZ.out ▸ hilo
                    rw [ilo_ix] at hz
                    intro h
                    simp only [Bool.and_eq_true, Bool.or_eq_true, beq_iff_eq] at h
                    rcases h.1.1 with (h | h) | h
                    · exact hz (.inl h)
                    · exact hz (.inr (.inl h))
                    · exact hz (.inr (.inr h)))
                  go_wp2_with fail
                  refine (HIX.out w2).mono ?_
                  rintro e w' ⟨rfl, hw'⟩
                  rw [hw']
                  clear hw' w'
                  go_wp2_with fail
                  go_ret
                  exact ⟨.inr ⟨_, _, by rw [← HT0.out]; exact HF4.out, rfl, HC3.out⟩, HO3.out⟩
                · have HI : Hid ((b == 105 || b == 108 || b == 111) = true) := Lib.hid (by
                    have hz : ¬ (Lib.indexByte [105, 108, 111] b < 0) := HZ.out ▸ hilo
                    rw [ilo_ix] at hz
                    have hz := Classical.not_not.1 hz
                    rcases hz with h | h | h <;> simp [h])
                  go_wp2_with fail
                  refine (HIX.out w2).mono ?_
                  rintro e w' ⟨rfl, hw'⟩
                  rw [hw']
                  clear hw' w'
                  go_wp2_with fail
                  refine (HNU.out w2).mono ?_
                  rintro e w3 ⟨rfl, hb3⟩
                  have HC4 : Hid (CurAt w3 bc l2 (k + 1)) := Lib.hid (heap_below hb3 HC3.out)
                  have HO4 : Hid (Only (fun k => k = bc) w w3) := Lib.hid (HO3.out.call hb3)
                  have HL4 : Hid (boxLen bc w3 < boxLen bc wq) := Lib.hid (by have h := HL3.out; rw [HC3.out.len] at h; rw [HC4.out.len]; exact h)
                  clear hb3
                  cases hnb : numB r with
                  | none =>
                    rw [numI_none hnb]
                    have HF4 : Hid (T = some (k + 1)) := Lib.hid (by rw [HF3.out, hnb]; exact if_neg (by simp))
                    clear hnb
                    go_wp2_with fail
                    go_ret
                    exact ⟨.inr ⟨_, _, by rw [← HT0.out]; exact HF4.out, rfl, HC4.out⟩, HO4.out⟩
                  | some x =>
                    rw [numI_some hnb]
                    have HF4 : Hid (T = tailF (tlA l2 []) (linA l2 []) (k + 1)) := Lib.hid (by rw [HF3.out, hnb, HI.out]; exact if_pos (by simp [HK2.out]))
                    clear hnb
                    have hx0 : ¬ ((x : Int) < 0) := by omega
                    go_wp2_with fail
                    exact ⟨⟨l2, k + 1, hln, by omega, HC4, HF4, HO4⟩, HL4.out⟩
end Go.Proofs.YtngjbiipgbeemaaDoor
