/- The reference's parted, walked: a line's numbers. Condition: the text is shorter than 1000000000 bytes. -/
import Derived.Test.YtngjbiipgbeemaaDoorNmA
namespace Go.Proofs.YtngjbiipgbeemaaDoor
open Go.RowKit Go.Shelf Go.Deep

/-- where parted stands ahead of byte i -/
def PtOk (l : List UInt8) (i : Nat) (out : List Nat) (W : List UInt8) : Prop := if i ≤ l.length then numsB l = (numsL (splA (l.drop i) W)).map (out ++ ·) else numsB l = some out
theorem spl_step {l W : List UInt8} {i : Nat} {b : UInt8} (h : l[i]? = some b) : splA (l.drop i) W = if b = 32 then W :: splA (l.drop (i + 1)) [] else splA (l.drop (i + 1)) (W ++ [b]) := by
  rw [drop_at h]; rfl
theorem PtOk.start (l : List UInt8) : PtOk l 0 [] [] := by
  unfold PtOk
  rw [if_pos (Nat.zero_le _)]
  exact NmOk.start l
theorem PtOk.byte {l W : List UInt8} {i : Nat} {out : List Nat} {b : UInt8} (h : PtOk l i out W) (hb : l[i]? = some b) (h32 : b ≠ 32) : PtOk l (i + 1) out (W ++ [b]) := by
  have hl := (List.getElem?_eq_some_iff.1 hb).1
  unfold PtOk at *
  rw [if_pos (by omega)] at h ⊢
  rw [h, spl_step hb, if_neg h32]
/-- what stands where a piece ends -/
theorem PtOk.piece {l W : List UInt8} {i : Nat} {out : List Nat} (h : PtOk l i out W) (hi : i ≤ l.length) (hb : i = l.length ∨ l[i]? = some 32) : (numB W = none → numsB l = none) ∧ ∀ n, numB W = some n → PtOk l (i + 1) (out ++ [n]) [] := by
  unfold PtOk at *
  rw [if_pos hi] at h
  rcases hb with rfl | hb
  · rw [List.drop_length] at h
    have h' : numsB l = (numsL [W]).map (out ++ ·) := h
    refine ⟨fun e => by rw [h', numsL_cons_none e]; rfl, fun n e => ?_⟩
    rw [if_neg (by omega), h', numsL_cons e]
    simp [numsL]
  · have hl := (List.getElem?_eq_some_iff.1 hb).1
    rw [spl_step hb, if_pos rfl] at h
    refine ⟨fun e => by rw [h, numsL_cons_none e]; rfl, fun n e => ?_⟩
    rw [if_pos (by omega), h, numsL_cons e]
    cases numsL (splA (l.drop (i + 1)) []) <;> simp
theorem ne32 {b : UInt8} (h : b ≠ 32) : ((b.toNat : Int) != 32) = true := by
  rw [bne_iff_ne]
  intro e
  exact h (UInt8.toNat_inj.1 (by rw [show (32 : UInt8).toNat = 32 from rfl]; omega))

set_option maxRecDepth 100000 in
set_option maxHeartbeats 8000000 in
theorem parted_any (l : List UInt8) (w : World) (hl : l.length ≤ 1000000000) :
    Calls Tryd.prog 43 #[.string (bstr l)] w fun e w' => (∃ v, e = .returned (.tuple #[v, .bool (numsB l).isSome]) ∧ NumV w' w.heap.size (numsB l) v) ∧ Below w.heap.size w w' := by
  have H0 := Lib.hid (PtOk.start l)
  obtain ⟨R, hR⟩ : ∃ R, R = numsB l := ⟨_, rfl⟩
  rw [← hR]
  have HR := Lib.hid hR
  obtain ⟨s, hse⟩ : ∃ s, s = bstr l := ⟨_, rfl⟩
  have hsz : s.size = l.length := by rw [hse]; exact bstr_size l
  rw [← hse]
  have HSE := Lib.hid hse
  clear hse hR
  go_enter Tryd.func43, Tryd.ntmps43
  go_wp2_with fail
  go_loopw [4, 5, 6] (fun vo vw vi wr => ∃ (i : Nat) (out : List Nat) (W : List UInt8) (A : Option Addr) (c : Nat), i ≤ l.length + 1 ∧ out.length ≤ i ∧ W.length ≤ i ∧ Hid (l.length < i → 1 ≤ out.length) ∧ vo = .slice A out.length c ∧ vw = .string (bstr W) ∧ vi = .int .i64 i ∧ Hid (PtOk l i out W) ∧ Hid (Below w.heap.size w wr) ∧ Hid (wr.ownsRow w.heap.size 3 1 (.slice A out.length c) out.length ((List.range out.length).map (nvl out)))) (fun _ _ vi _ => l.length + 1 - (intOf vi).toNat)
  case atStart => exact ⟨0, [], [], none, 0, by omega, Nat.le_refl _, Nat.le_refl _, Lib.hid (fun h => by omega), rfl, rfl, rfl, H0, Lib.hid (Below.refl _ _), Lib.hid (World.ownsRow_nil _ _ _ _)⟩
  case round =>
    clear H0
    obtain ⟨i, out, W, A, c, hi, hoi, hWi, HPO, rfl, rfl, rfl, HI, HB, HO⟩ := hrel
    obtain ⟨wo, hwo⟩ : ∃ x, x = wr := ⟨_, rfl⟩
    subst hwo
    obtain ⟨q, hq⟩ : ∃ q, q = bstr W := ⟨_, rfl⟩
    have hqs : q.size = W.length := by rw [hq]; exact bstr_size W
    have HQ := Lib.hid hq
    have hzz := HB.out.size
    by_cases hle : i ≤ l.length
    · have hfg := figures_any W wo (by omega)
      rw [← hq] at hfg ⊢
      clear hq
      by_cases hby : i < l.length ∧ l[i]? ≠ some 32
      · obtain ⟨hlt, h32⟩ := hby
        have hls : i < s.size := by omega
        obtain ⟨b, hbe⟩ : ∃ b : UInt8, s[i]'hls = b := ⟨_, rfl⟩
        have HXB : Hid (l[i]? = some b) := Lib.hid (by
          have h := Lib.data_getElem? s i hls
          rw [hbe, HSE.out, bstr_list] at h; exact h)
        have hb32 : b ≠ 32 := fun e => h32 (by rw [HXB.out, e])
        have hn := ne32 hb32
        have HI2 := Lib.hid (HI.out.byte HXB.out hb32)
        have HBS : Hid (bstr W ++ s.extract i (i + 1) = bstr (W ++ [b])) := Lib.hid (bstr_more (by rw [HSE.out, bstr_list]; exact HXB.out))
        clear hb32 h32 hfg
        go_wp2_with fail
        refine ⟨⟨i + 1, out, W ++ [b], A, c, by omega, by omega, by simp; omega, Lib.hid (fun h => by omega), rfl, ?_, by go_num, HI2, HB, HO⟩, by simp [intOf]; omega⟩
        rw [← HBS.out, HQ.out]
        try rfl
      · have hb : i = l.length ∨ l[i]? = some 32 := by
          by_cases h1 : i < l.length
          · exact .inr (Classical.byContradiction (fun h2 => hby ⟨h1, h2⟩))
          · exact .inl (by omega)
        have HP := Lib.hid (HI.out.piece hle hb)
        obtain ⟨N, hN⟩ : ∃ N, N = numB W := ⟨_, rfl⟩
        rw [← hN] at hfg
        have HN := Lib.hid hN
        have hN9 : ∀ n, N = some n → n < 1000000000 := fun n h => numB_le (by rw [← hN]; exact h)
        clear hN hby
        have key : ∀ (u : Unit), True := fun _ => trivial
        rcases Nat.lt_or_ge i l.length with hlt | hge
        have hls : i < s.size := by omega
        obtain ⟨b, hbe⟩ : ∃ b : UInt8, s[i]'hls = b := ⟨_, rfl⟩
        have hbn : ((b.toNat : Int) != 32) = false := by
          have h := Lib.data_getElem? s i hls
          rw [hbe, HSE.out, bstr_list] at h
          rcases hb with e | e
          · omega
          · rw [e] at h
            injection h with h
            rw [← h]; rfl
        rotate_left
        have hbn := trivial
        all_goals
          clear hb key
          cases N with
          | none =>
            simp only [Option.isSome_none, Option.getD_none] at hfg
            have HF : Hid (R = none) := Lib.hid (by rw [HR.out]; exact HP.out.1 HN.out.symm)
            go_wp2_with fail
            refine hfg.mono ?_
            rintro e w2 ⟨rfl, hb2⟩
            have HB2 := Lib.hid (HB.out.trans (hb2.mono HB.out.size))
            clear hfg hb2
            go_wp2_with fail
            go_ret2
            exact ⟨⟨_, by rw [HF.out]; rfl, by rw [HF.out]; rfl⟩, HB2.out⟩
          | some n =>
            simp only [Option.isSome_some, Option.getD_some] at hfg
            have hn9 := hN9 n rfl
            have HI2 := Lib.hid (HP.out.2 n HN.out.symm)
            go_wp2_with fail
            refine hfg.mono ?_
            rintro e w2 ⟨rfl, hb2⟩
            have HB2 := Lib.hid (HB.out.trans (hb2.mono HB.out.size))
            have HO2 := Lib.hid (own_below HO.out hb2)
            have hzz2 := HB2.out.size
            clear hfg hb2
            go_wp2_with (at_builtin; refine wp_append rfl (.tmp 39) (.tmp 41) _ rfl elIn w.heap.size A out.length c _ rfl (HO2.out.alloc _) _ 1 1 [.int .i64 (n : Int)] rfl (src_new _ _ _ rfl) (by omega) (sz_alloc hzz2) ?_; intro A' c' w4 ho hk' hb')
            have HB4 : Hid (Below w.heap.size w w4) := Lib.hid (HB2.out.trans ((((Only.refl (blockOf A) w2).alloc _).trans hk').below (fun k _ hk => own_base HO2.out k hk) hzz2))
            have hl2 : (out ++ [n]).length = out.length + 1 := by simp
            rw [nvl_more] at ho
            exact ⟨⟨i + 1, out ++ [n], [], A', c', by omega, by rw [hl2]; omega, by simp, Lib.hid (fun _ => by rw [hl2]; omega), by rw [hl2], rfl, by go_num, HI2, HB4, Lib.hid (by rw [hl2] at ho ⊢; exact ho)⟩, by simp [intOf]; omega⟩
    · obtain rfl : l.length + 1 = i := by omega
      have HF : Hid (R = some out) := Lib.hid (by
        have h := HI.out
        unfold PtOk at h
        rw [if_neg hle] at h
        rw [HR.out, h])
      have HV := Lib.hid (numV_own HO.out (HPO.out (by omega)))
      clear hq
      go_wp2_with fail
      go_ret2
      exact ⟨⟨_, by rw [HF.out]; rfl, by rw [HF.out]; exact HV.out⟩, HB.out⟩
end Go.Proofs.YtngjbiipgbeemaaDoor
