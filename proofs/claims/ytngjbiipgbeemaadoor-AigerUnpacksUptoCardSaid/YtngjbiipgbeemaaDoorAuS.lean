/- aiger's (*unpacker).seven, walked: a number in bytes of seven bits. Conditions: the bytes lie in memory and are fewer than 1000000000. -/
import Derived.Test.YtngjbiipgbeemaaDoorAuR
import Derived.Deep.QuietTactic
import Derived.BigQuiet
import Derived.Lib.EndianBits
namespace Go.Proofs.YtngjbiipgbeemaaDoor
open Go.RowKit Go.Shelf Go.Deep

def svQ (l : List UInt8) (p a b : Nat) : Option (Nat × Nat) := match svB l p with
  | none => none
  | some (n, q) => if a ≤ n ∧ n ≤ b then some (n, q) else none
def SvOut (w' : World) (bu bA oA n c : Nat) (l : List UInt8) (a b p : Nat) (e : Ending) : Prop :=
  (svQ l p a b = none ∧ e = .returned (.tuple #[.int .i64 0, .bool false]) ∧ UpAt w' bu bA oA n c p) ∨
  (∃ v q, svQ l p a b = some (v, q) ∧ e = .returned (.tuple #[.int .i64 (v : Nat), .bool true]) ∧ UpAt w' bu bA oA n c q)
theorem sv_step {l : List UInt8} {p i n : Nat} (hi : i < 4) (h : p + i < l.length) : svGo (4 - i) i n (l.drop (p + i)) = if (l.getD (p + i) 0).toNat < 128 then (if (l.getD (p + i) 0).toNat = 0 ∧ 0 < i then none else some (n + (l.getD (p + i) 0).toNat % 128 * 128 ^ i, i + 1)) else svGo (4 - (i + 1)) (i + 1) (n + (l.getD (p + i) 0).toNat % 128 * 128 ^ i) (l.drop (p + (i + 1))) := by
  rw [show 4 - i = (4 - (i + 1)) + 1 by omega, List.drop_eq_getElem_cons h, svGo]
  rw [List.getD_eq_getElem?_getD, List.getElem?_eq_getElem h]
  rfl
theorem sv_end {l : List UInt8} {p i n : Nat} (hi : i < 4) (h : ¬ p + i < l.length) : svGo (4 - i) i n (l.drop (p + i)) = none := by
  rw [show 4 - i = (4 - (i + 1)) + 1 by omega, List.drop_eq_nil_of_le (by omega)]
  rfl

theorem sv_or (i n B M X N : Nat) (hi : i < 4) (hn : n < 128 ^ i) (hB : B < 256) (hM : M = B % 128) (hX : X = M * 128 ^ i) (hN : N = n + X) :
    bits .and .u8 (B : Int) 127 = (M : Int) ∧ wrap64 ((M : Int) * 2 ^ (7 * i)) = (X : Int) ∧ bits .or .i64 (n : Int) (X : Int) = (N : Int) ∧ N < 128 ^ (i + 1) ∧ N ≤ 300000000 := by
  have hM8 : M < 128 := by omega
  have e1 : bits .and .u8 (B : Int) 127 = (M : Int) := by
    have h := bits_mask .u8 8 (by decide) (fun n h0 h1 => wraps_u8 n h0 (by omega)) 7 (by decide) (B : Int) (by omega) (by omega)
    rw [show ((2 : Int) ^ 7 - 1) = 127 from rfl] at h
    rw [h, hM]
    rfl
  have hwi : ∀ n : Int, 0 ≤ n → n < 2 ^ 62 → IntKind.i64.wrap n = n := fun n h0 h1 => by rw [IntKind.wrap_i64]; omega
  have hX2 : X ≤ 127 * 128 ^ i := by rw [hX]; exact Nat.mul_le_mul_right _ (by omega)
  have hi' : i = 0 ∨ i = 1 ∨ i = 2 ∨ i = 3 := by omega
  refine ⟨e1, ?_, ?_, ?_, ?_⟩
  · rcases hi' with rfl | rfl | rfl | rfl
    all_goals (simp at hX; subst hX; simp [wrap64]; try omega)
  · have h := bits_join_low .i64 62 (by decide) hwi (7 * i) (n : Int) (X : Int) (by omega) (by rcases hi' with rfl | rfl | rfl | rfl <;> simp at hn ⊢ <;> omega) (by rcases hi' with rfl | rfl | rfl | rfl <;> simp at hn ⊢ <;> omega) (by omega) (by rcases hi' with rfl | rfl | rfl | rfl <;> simp at hX ⊢ <;> omega) (by rcases hi' with rfl | rfl | rfl | rfl <;> simp at hX2 ⊢ <;> omega)
    rw [h, hN]
    push_cast
    rfl
  · rcases hi' with rfl | rfl | rfl | rfl <;> simp at hn hX2 ⊢ <;> omega
  · rcases hi' with rfl | rfl | rfl | rfl <;> simp at hn hX2 ⊢ <;> omega

set_option maxRecDepth 100000 in
set_option maxHeartbeats 8000000 in
theorem seven_any (l : List UInt8) (a b bu bA oA c p : Nat) (w : World) (hu : UpAt w bu bA oA l.length c p) (hM : MemB w bA oA l) (hp : p ≤ l.length) (hl : l.length ≤ 1000000000) :
    Calls Tryd.prog 48 #[.pointer (some ⟨bu, 0, none⟩), .int .i64 (a : Int), .int .i64 (b : Int)] w fun e w' => SvOut w' bu bA oA l.length c l a b p e ∧ Only (fun k => k = bu) w w' := by
  have HU := Lib.hid hu; have HM := Lib.hid hM
  clear hu hM
  go_enter Tryd.func48, Tryd.ntmps48
  go_wp2_with fail
  go_loopw [8, 11] (fun vn vi wr => ∃ i n : Nat, i ≤ 4 ∧ n < 128 ^ i ∧ vn = .int .i64 n ∧ vi = .int .i64 i ∧ Hid (svGo 4 0 0 (l.drop p) = svGo (4 - i) i n (l.drop (p + i))) ∧ Hid (UpAt wr bu bA oA l.length c p ∧ MemB wr bA oA l ∧ Only (fun k => k = bu) w wr)) (fun _ vi _ => 4 - (intOf vi).toNat)
  case atStart => exact ⟨0, 0, by omega, by simp, rfl, rfl, Lib.hid rfl, Lib.hid ⟨HU.out, HM.out, Only.refl _ _⟩⟩
  case round =>
    obtain ⟨i, n, hi, hn, rfl, rfl, HS, HW⟩ := hrel
    obtain ⟨wq, hwq⟩ : ∃ wq, wq = wr := ⟨_, rfl⟩
    subst hwq
    obtain ⟨⟨x0, x1⟩, _⟩ := box2 HW.out.1
    by_cases hi4 : i < 4
    · have ew : IntKind.i64.wrap ((p : Int) + (i : Int)) = ((p + i : Nat) : Int) := by rw [IntKind.wrap_i64] <;> omega
      obtain ⟨E, hE⟩ : ∃ E, E = p + i := ⟨_, rfl⟩
      by_cases hin : p + i < l.length
      · rw [← hE] at ew
        have hEl : E < l.length := by omega
        have hq1 : ¬ ((l.length : Int) ≤ (E : Int)) := by omega
        have xb := HW.out.2.1 E hEl
        obtain ⟨B, hB⟩ : ∃ B, B = (l.getD E 0).toNat := ⟨_, rfl⟩
        rw [← hB] at xb
        have hB8 : B < 256 := by rw [hB]; exact (l.getD E 0).toNat_lt
        have HBE : Hid (B = (l.getD E 0).toNat ∧ E = p + i) := Lib.hid ⟨hB, hE⟩
        clear hB hE
        go_upto_region 5 with (fail)
        go_quiet (fail)
        go_wp2_with fail
        obtain ⟨M, hM⟩ : ∃ M, M = B % 128 := ⟨_, rfl⟩
        obtain ⟨X, hX⟩ : ∃ X, X = M * 128 ^ i := ⟨_, rfl⟩
        obtain ⟨N, hN⟩ : ∃ N, N = n + X := ⟨_, rfl⟩
        obtain ⟨e1, e2, e3, hN2, hN3⟩ := sv_or i n B M X N hi4 hn hB8 hM hX hN
        have hM8 : M < 128 := by rw [hM]; omega
        have HSS : Hid (svGo 4 0 0 (l.drop p) = if B < 128 then (if B = 0 ∧ 0 < i then none else some (N, i + 1)) else svGo (4 - (i + 1)) (i + 1) N (l.drop (p + (i + 1)))) := Lib.hid (by
          rw [HS.out, sv_step hi4 hin, ← HBE.out.2, ← HBE.out.1, ← hM, ← hX, ← hN])
        have HNN := Lib.hid hN2
        clear hM hX hN HS
        have HWN : Hid (∀ q, UpAt (wq.drewN q) bu bA oA l.length c p ∧ MemB (wq.drewN q) bA oA l ∧ Only (fun k => k = bu) w (wq.drewN q)) := Lib.hid (fun q => ⟨HW.out.1, HW.out.2.1.below ⟨rfl, rfl, rfl, Nat.le_refl _, fun _ _ => rfl⟩, HW.out.2.2.call ⟨rfl, rfl, rfl, Nat.le_refl _, fun _ _ => rfl⟩⟩)
        have hnb : N ≤ 300000000 := hN3
        clear hN2 hN3
        go_quiet (fail)
        by_cases hB1 : B < 128
        · have HS1 : Hid (svB l p = if B = 0 ∧ 0 < i then none else some (N, p + (i + 1))) := Lib.hid (by
            unfold svB
            rw [HSS.out, if_pos hB1]
            split <;> rfl)
          by_cases hz : B = 0 ∧ 0 < i
          · have HQ : Hid (svQ l p a b = none) := Lib.hid (by unfold svQ; rw [HS1.out, if_pos hz])
            have q1 : ((B : Int) == 0) = true := by rw [hz.1]; rfl
            have q2 : (0 : Int) < (i : Int) := by omega
            clear hz
            go_wp2_with fail
            go_ret2
            exact ⟨.inl ⟨HQ.out, rfl, (HWN.out _).1⟩, (HWN.out _).2.2⟩
          · have HS2 : Hid (svB l p = some (N, p + (i + 1))) := Lib.hid (by rw [HS1.out, if_neg hz])
            have hz2 : ((B : Int) == 0) = false ∨ (((B : Int) == 0) = true ∧ ¬ (0 : Int) < (i : Int)) := by
              by_cases h0 : B = 0
              · right; exact ⟨by rw [h0]; rfl, by omega⟩
              · left; rw [beq_eq_false_iff_ne]; omega
            clear hz
            by_cases hab : a ≤ N ∧ N ≤ b
            · have HQ : Hid (svQ l p a b = some (N, p + (i + 1))) := Lib.hid (by unfold svQ; rw [HS2.out]; exact if_pos hab)
              have q3 : ¬ (N : Int) < (a : Int) := by omega
              have q4 : ¬ (b : Int) < (N : Int) := by omega
              have ew2 : IntKind.i64.wrap ((i : Int) + 1) = (i : Int) + 1 := by rw [IntKind.wrap_i64] <;> omega
              have ew3 : IntKind.i64.wrap ((p : Int) + ((i : Int) + 1)) = ((p + (i + 1) : Nat) : Int) := by rw [IntKind.wrap_i64] <;> omega
              have ew4 : (p : Int) + ((i : Int) + 1) = ((p + (i + 1) : Nat) : Int) := by omega
              obtain ⟨qq, hqq⟩ : ∃ qq, qq = p + (i + 1) := ⟨_, rfl⟩
              rw [← hqq] at ew3 ew4 HQ
              have hz9 : ∀ q, (wq.drewN q).frozen? ⟨bu, 1, none⟩ = false := fun q => (box2 (HWN.out q).1).2 1
              have HZ9 := Lib.hid hz9
              have HR : Hid (∀ q, UpAt ((wq.drewN q).setCell ⟨bu, 1, none⟩ (.int .i64 (qq : Int))) bu bA oA l.length c qq ∧ Only (fun k => k = bu) w ((wq.drewN q).setCell ⟨bu, 1, none⟩ (.int .i64 (qq : Int)))) := Lib.hid (fun q => ⟨set2_1 (HWN.out q).1 _, (HWN.out q).2.2.then_ (Only.setCell (p := ⟨bu, 1, none⟩) (Only.refl (fun k => k = bu) (wq.drewN q)) (fun _ => rfl) _) (fun _ _ h => h)⟩)
              have xz := (box2 HW.out.1).2 1
              rcases hz2 with q1 | ⟨q1, q2⟩
              · clear hqq hab hz9
                go_wp2_with fail
                go_ret2
                exact ⟨.inr ⟨N, qq, HQ.out, rfl, (HR.out _).1⟩, (HR.out _).2⟩
              · have ew5 : (p : Int) + 1 = (qq : Int) := by omega
                have ew6 : IntKind.i64.wrap ((p : Int) + 1) = (qq : Int) := by rw [IntKind.wrap_i64] <;> omega
                clear hqq hab hz9
                go_wp2_with fail
                go_ret2
                exact ⟨.inr ⟨N, qq, HQ.out, rfl, (HR.out _).1⟩, (HR.out _).2⟩
            · have HQ : Hid (svQ l p a b = none) := Lib.hid (by unfold svQ; rw [HS2.out]; exact if_neg hab)
              by_cases hna : N < a
              · have q3 : (N : Int) < (a : Int) := by omega
                clear hab hna
                rcases hz2 with q1 | ⟨q1, q2⟩
                · go_wp2_with fail
                  go_ret2
                  exact ⟨.inl ⟨HQ.out, rfl, (HWN.out _).1⟩, (HWN.out _).2.2⟩
                · go_wp2_with fail
                  go_ret2
                  exact ⟨.inl ⟨HQ.out, rfl, (HWN.out _).1⟩, (HWN.out _).2.2⟩
              · have q3 : ¬ (N : Int) < (a : Int) := by omega
                have q4 : (b : Int) < (N : Int) := by omega
                clear hab hna
                rcases hz2 with q1 | ⟨q1, q2⟩
                · go_wp2_with fail
                  go_ret2
                  exact ⟨.inl ⟨HQ.out, rfl, (HWN.out _).1⟩, (HWN.out _).2.2⟩
                · go_wp2_with fail
                  go_ret2
                  exact ⟨.inl ⟨HQ.out, rfl, (HWN.out _).1⟩, (HWN.out _).2.2⟩
        · have HS1 : Hid (svGo 4 0 0 (l.drop p) = svGo (4 - (i + 1)) (i + 1) N (l.drop (p + (i + 1)))) := Lib.hid (by rw [HSS.out, if_neg hB1])
          go_wp2_with fail
          exact ⟨⟨i + 1, N, by omega, HNN.out, rfl, by go_num, HS1, Lib.hid (HWN.out _)⟩, by simp [intOf]; omega⟩
      · rw [← hE] at ew
        have hq1 : (l.length : Int) ≤ (E : Int) := by omega
        have HQ : Hid (svQ l p a b = none) := Lib.hid (by unfold svQ svB; rw [HS.out, sv_end hi4 hin]; rfl)
        have HWN : Hid (∀ q, UpAt (wq.drewN q) bu bA oA l.length c p ∧ Only (fun k => k = bu) w (wq.drewN q)) := Lib.hid (fun q => ⟨HW.out.1, HW.out.2.2.call ⟨rfl, rfl, rfl, Nat.le_refl _, fun _ _ => rfl⟩⟩)
        clear hE
        go_upto_region 5 with (fail)
        go_quiet (fail)
        go_wp2_with fail
        go_ret2
        exact ⟨.inl ⟨HQ.out, rfl, (HWN.out _).1⟩, (HWN.out _).2⟩
    · obtain rfl : i = 4 := by omega
      have HQ : Hid (svQ l p a b = none) := Lib.hid (by unfold svQ svB; rw [HS.out]; rfl)
      go_wp2_with fail
      go_ret2
      exact ⟨.inl ⟨HQ.out, rfl, HW.out.1⟩, HW.out.2.2⟩
end Go.Proofs.YtngjbiipgbeemaaDoor
