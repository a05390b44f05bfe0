/- The reference's line, unseven, badByte, walked. Conditions: the bytes lie in memory and are fewer than 1000000000. -/
import Derived.Test.YtngjbiipgbeemaaDoorAuS
namespace Go.Proofs.YtngjbiipgbeemaaDoor
open Go.RowKit Go.Shelf Go.Deep

theorem take_len : ∀ (m : List UInt8) (k : Nat), k ≤ m.length → (∀ j, j < k → m.getD j 0 ≠ 10) → (k = m.length ∨ m.getD k 0 = 10) → (m.takeWhile (· != 10)).length = k
  | [], k, hk, _, _ => by simp at hk; subst hk; rfl
  | b :: r, 0, _, _, hs => by
    rcases hs with h | h
    · simp at h
    · have e : b = 10 := h
      subst e
      rfl
  | b :: r, k + 1, hk, ha, hs => by
    have hb : b ≠ 10 := ha 0 (by omega)
    have h1 := take_len r k (by simp at hk; omega) (fun j hj => ha (j + 1) (by omega)) (by
      rcases hs with h | h
      · left; simp at h; omega
      · right; exact h)
    rw [List.takeWhile_cons, if_pos (by simpa using hb)]
    simp [h1]
theorem lnK_eq {l : List UInt8} {p q : Nat} (h0 : p ≤ q) (h : q ≤ l.length) (ha : ∀ j, p ≤ j → j < q → l.getD j 0 ≠ 10) (hs : q = l.length ∨ l.getD q 0 = 10) : lnK l p = q - p := by
  unfold lnK
  have hg : ∀ j, (l.drop p).getD j 0 = l.getD (p + j) 0 := fun j => by rw [List.getD_eq_getElem?_getD, List.getElem?_drop, ← List.getD_eq_getElem?_getD]
  refine take_len _ _ (by rw [List.length_drop]; omega) (fun j hj => by rw [hg]; exact ha _ (by omega) (by omega)) ?_
  rw [hg, List.length_drop]
  rcases hs with h1 | h1
  · left; omega
  · right; rw [show p + (q - p) = q by omega]; exact h1
/-- bytes as they are handed -/
def MemO (w : World) (A : Option Addr) (l : List UInt8) (c : Nat) : Prop := (A = none ∧ l = [] ∧ c = 0) ∨ ∃ a : Addr, A = some a ∧ l.length ≤ c ∧ (l = [] ∨ ∃ b o, a = ⟨b, o, none⟩ ∧ MemB w b o l)
theorem MemO.below {w w1 : World} {A : Option Addr} {l : List UInt8} {c : Nat} (h : MemO w A l c) (k : Below w.heap.size w w1) : MemO w1 A l c := by
  rcases h with h | ⟨a, h1, h2, h3⟩
  · exact .inl h
  · refine .inr ⟨a, h1, h2, ?_⟩
    rcases h3 with h | ⟨b, o, h4, h5⟩
    · exact .inl h
    · exact .inr ⟨b, o, h4, h5.below k⟩
theorem MemO.at_ {w : World} {A : Option Addr} {l : List UInt8} {c : Nat} (h : MemO w A l c) (hl : 0 < l.length) : ∃ b o, A = some ⟨b, o, none⟩ ∧ MemB w b o l ∧ l.length ≤ c := by
  rcases h with ⟨_, h, _⟩ | ⟨a, rfl, h2, h | ⟨b, o, rfl, h5⟩⟩
  · rw [h] at hl; simp at hl
  · rw [h] at hl; simp at hl
  · exact ⟨b, o, rfl, h5, h2⟩
theorem results_tmp3 {fn : Func} {t u v : Tmp} (h : fn.results = #[.tmp t, .tmp u, .tmp v]) (tmps : Array Value) (P : Program) (w : World) :
    (results fn tmps).run P w = .ok (.tuple #[tmps.getD t undef, tmps.getD u undef, tmps.getD v undef]) w := by
  simp [results, h]
def LnOut (l : List UInt8) (p : Nat) (e : Ending) : Prop := (lnB l p = none ∧ e = .returned (.tuple #[.string ⟨#[]⟩, .int .i64 (p : Nat), .bool false])) ∨ ∃ s q, lnB l p = some (s, q) ∧ e = .returned (.tuple #[.string (bstr s), .int .i64 (q : Nat), .bool true])

set_option maxRecDepth 100000 in
set_option maxHeartbeats 8000000 in
theorem refLine_any (l : List UInt8) (A : Option Addr) (c p : Nat) (w : World) (hM : MemO w A l c) (hp : p ≤ l.length) (hl : l.length ≤ 1000000000) (hcm : c ≤ 9223372036854775807) :
    Calls Tryd.prog 32 #[.slice A l.length c, .int .i64 (p : Int)] w fun e w' => LnOut l p e ∧ Below w.heap.size w w' := by
  have HM := Lib.hid hM
  clear hM
  go_enter Tryd.func32, Tryd.ntmps32
  go_wp2_with fail
  go_loopw [7] (fun vq wr => ∃ q : Nat, p ≤ q ∧ q ≤ l.length ∧ vq = .int .i64 q ∧ Hid (∀ j, p ≤ j → j < q → l.getD j 0 ≠ 10) ∧ wr = w) (fun vq _ => l.length - (intOf vq).toNat)
  case atStart => exact ⟨p, by omega, hp, rfl, Lib.hid (fun j h1 h2 => by omega), rfl⟩
  case round =>
    obtain ⟨q, hq1, hq2, rfl, HA, rfl⟩ := hrel
    by_cases hq : q < l.length
    · obtain ⟨bA, oA, rfl, hm, hlc⟩ := HM.out.at_ (by omega)
      have xb := hm q hq
      obtain ⟨B, hB⟩ : ∃ B, B = (l.getD q 0).toNat := ⟨_, rfl⟩
      rw [← hB] at xb
      by_cases h10 : B = 10
      · have HK : Hid (lnK l p = q - p) := Lib.hid (lnK_eq hq1 hq2 HA.out (.inr (by
          have h : (l.getD q 0).toNat = 10 := by rw [← hB]; exact h10
          exact UInt8.toNat_inj.1 h)))
        have HQ : Hid (lnB l p = some ((l.drop p).take (q - p), q + 1)) := Lib.hid (by rw [lnB_k (by rw [HK.out]; omega), HK.out, show p + (q - p) = q by omega])
        have hcv := conv_any wr bA oA (c - p) l p (q - p) hm (by omega)
        have q1 : ((B : Int) == 10) = true := by rw [h10]; rfl
        have hpc : ¬ c = p := by omega
        have hqc : (q : Int) ≤ (c : Int) := by omega
        clear hB h10 hm
        go_wp2_with fail
        refine bodyPost_ret (results_tmp3 rfl _ _ _) rfl ?_
        exact ⟨.inr ⟨_, _, HQ.out, rfl⟩, Below.refl _ _⟩
      · have q1 : ((B : Int) == 10) = false := by rw [beq_eq_false_iff_ne]; omega
        have HA2 : Hid (∀ j, p ≤ j → j < q + 1 → l.getD j 0 ≠ 10) := Lib.hid (fun j h1 h2 => by
          by_cases e : j = q
          · subst e
            intro h
            rw [h] at hB
            exact h10 (by rw [hB]; rfl)
          · exact HA.out j h1 (by omega))
        clear hB h10 hm
        go_wp2_with fail
        exact ⟨⟨q + 1, by omega, by omega, by go_num, HA2, trivial⟩, by simp [intOf]; omega⟩
    · obtain rfl : q = l.length := by omega
      have HK : Hid (lnK l p = l.length - p) := Lib.hid (lnK_eq hq1 hq2 HA.out (.inl rfl))
      have HQ : Hid (lnB l p = none) := Lib.hid (lnB_no (by rw [HK.out]; omega))
      go_wp2_with fail
      refine bodyPost_ret (results_tmp3 rfl _ _ _) rfl ?_
      exact ⟨.inl ⟨HQ.out, rfl⟩, Below.refl _ _⟩
def UsOut (l : List UInt8) (p : Nat) (e : Ending) : Prop := (svB l p = none ∧ ∃ n q : Nat, e = .returned (.tuple #[.int .i64 (n : Nat), .int .i64 (q : Nat), .bool false])) ∨ ∃ n q : Nat, svB l p = some (n, q) ∧ e = .returned (.tuple #[.int .i64 (n : Nat), .int .i64 (q : Nat), .bool true])
set_option maxRecDepth 100000 in
set_option maxHeartbeats 8000000 in
theorem unseven_any (l : List UInt8) (A : Option Addr) (c p : Nat) (w : World) (hM : MemO w A l c) (hp : p ≤ l.length) (hl : l.length ≤ 1000000000) :
    Calls Tryd.prog 34 #[.slice A l.length c, .int .i64 (p : Int)] w fun e w' => UsOut l p e ∧ Below w.heap.size w w' := by
  have HM := Lib.hid hM
  clear hM
  go_enter Tryd.func34, Tryd.ntmps34
  go_wp2_with fail
  go_loopw [7, 8, 9] (fun vn vk vq wr => ∃ i n k q : Nat, i ≤ 4 ∧ q ≤ l.length ∧ n < k ∧ k ≤ 268435456 ∧ vn = .int .i64 n ∧ vk = .int .i64 k ∧ vq = .int .i64 q ∧ Hid (q = p + i ∧ k = 128 ^ i) ∧ Hid (svGo 4 0 0 (l.drop p) = svGo (4 - i) i n (l.drop (p + i))) ∧ wr = w) (fun _ _ vq _ => l.length - (intOf vq).toNat)
  case atStart => exact ⟨0, 0, 1, p, by omega, hp, by omega, by omega, rfl, rfl, rfl, Lib.hid ⟨rfl, rfl⟩, Lib.hid rfl, rfl⟩
  case round =>
    obtain ⟨i, n, k, q, hi, hq, hn, hk, rfl, rfl, rfl, HQ, HS, rfl⟩ := hrel
    by_cases hgo : q < l.length ∧ i < 4
    · obtain ⟨hq1, hi4⟩ := hgo
      obtain ⟨bA, oA, rfl, hm, hlc⟩ := HM.out.at_ (by omega)
      have xb := hm q hq1
      obtain ⟨B, hB⟩ : ∃ B, B = (l.getD q 0).toNat := ⟨_, rfl⟩
      rw [← hB] at xb
      have hB8 : B < 256 := by rw [hB]; exact (l.getD q 0).toNat_lt
      have hqi : (q : Int) < (p : Int) + 4 := by have := HQ.out.1; omega
      obtain ⟨M, hM⟩ : ∃ M, M = B % 128 := ⟨_, rfl⟩
      obtain ⟨X, hX⟩ : ∃ X, X = M * 128 ^ i := ⟨_, rfl⟩
      obtain ⟨N, hN⟩ : ∃ N, N = n + X := ⟨_, rfl⟩
      obtain ⟨_, _, _, hN2, hN3⟩ := sv_or i n B M X N hi4 (by rw [← HQ.out.2]; exact hn) hB8 hM hX hN
      have e1 : (B : Int) % 128 = (M : Int) := by omega
      have ex : (M : Int) * (k : Int) = (X : Int) := by rw [hX, ← HQ.out.2]; push_cast; rfl
      have en : (n : Int) + (X : Int) = (N : Int) := by omega
      have HSS : Hid (svGo 4 0 0 (l.drop p) = if B < 128 then (if B = 0 ∧ 0 < i then none else some (N, i + 1)) else svGo (4 - (i + 1)) (i + 1) N (l.drop (p + (i + 1)))) := Lib.hid (by
        have hq9 := HQ.out.1
        rw [HS.out, sv_step hi4 (by omega), ← hq9, ← hB, ← hM, ← hX, ← hN])
      have HNN := Lib.hid hN2
      have HBE := Lib.hid hB
      have hk2 : k ≤ 2097152 := by
        rw [HQ.out.2]
        have h9 := Nat.pow_le_pow_right (n := 128) (by omega) (show i ≤ 3 by omega)
        rw [show 128 ^ 3 = 2097152 from rfl] at h9
        exact h9
      have HK2 : Hid (k * 128 = 128 ^ (i + 1)) := Lib.hid (by rw [HQ.out.2, Nat.pow_succ])
      have hnb : N ≤ 300000000 := hN3
      clear hM hX hN HS hN2 hN3 hB
      by_cases hB1 : B < 128
      · have HS1 : Hid (svB l p = if B = 0 ∧ 0 < i then none else some (N, p + (i + 1))) := Lib.hid (by
          unfold svB
          rw [HSS.out, if_pos hB1]
          split <;> rfl)
        go_upto_region 9 with (fail)
        by_cases hz : B = 0 ∧ 0 < i
        · have HS2 : Hid (svB l p = none) := Lib.hid (by rw [HS1.out, if_pos hz])
          have q1 : ((B : Int) != 0) = false := by rw [hz.1]; rfl
          have q2 : ((q : Int) == (p : Int)) = false := by rw [beq_eq_false_iff_ne]; have := HQ.out.1; omega
          clear hz
          go_quiet (fail)
          go_wp2_with fail
          refine bodyPost_ret (results_tmp3 rfl _ _ _) rfl ?_
          exact ⟨.inl ⟨HS2.out, N, q + 1, rfl⟩, (Below.refl _ _).trans ⟨rfl, rfl, rfl, Nat.le_refl _, fun _ _ => rfl⟩⟩
        · have HS2 : Hid (svB l p = some (N, p + (i + 1))) := Lib.hid (by rw [HS1.out, if_neg hz])
          have HQ1 : Hid (p + (i + 1) = q + 1) := Lib.hid (by have := HQ.out.1; omega)
          by_cases hqp : q = p
          · have q2 : ((q : Int) == (p : Int)) = true := by rw [hqp]; simp
            clear hz hqp
            go_quiet (fail)
            go_wp2_with fail
            refine bodyPost_ret (results_tmp3 rfl _ _ _) rfl ?_
            exact ⟨.inr ⟨N, q + 1, by rw [HS2.out, HQ1.out], rfl⟩, (Below.refl _ _).trans ⟨rfl, rfl, rfl, Nat.le_refl _, fun _ _ => rfl⟩⟩
          · have q1 : ((B : Int) != 0) = true := by rw [bne_iff_ne]; have := HQ.out.1; omega
            have q2 : ((q : Int) == (p : Int)) = false := by rw [beq_eq_false_iff_ne]; omega
            clear hz hqp
            go_quiet (fail)
            go_wp2_with fail
            refine bodyPost_ret (results_tmp3 rfl _ _ _) rfl ?_
            exact ⟨.inr ⟨N, q + 1, by rw [HS2.out, HQ1.out], rfl⟩, (Below.refl _ _).trans ⟨rfl, rfl, rfl, Nat.le_refl _, fun _ _ => rfl⟩⟩
      · have HS1 : Hid (svGo 4 0 0 (l.drop p) = svGo (4 - (i + 1)) (i + 1) N (l.drop (p + (i + 1)))) := Lib.hid (by rw [HSS.out, if_neg hB1])
        go_wp2_with fail
        exact ⟨⟨i + 1, N, k * 128, q + 1, by omega, by omega, by rw [HK2.out]; exact HNN.out, by omega, rfl, by simp, by simp, Lib.hid ⟨by have := HQ.out.1; omega, HK2.out⟩, HS1, trivial⟩, by simp [intOf]; omega⟩
    · have HS2 : Hid (svB l p = none) := Lib.hid (by
        unfold svB
        rw [HS.out]
        by_cases hi4 : i < 4
        · rw [sv_end hi4 (by have := HQ.out.1; omega)]; rfl
        · rw [show 4 - i = 0 by omega]; rfl)
      by_cases hq1 : q < l.length
      · have hqi : ¬ (q : Int) < (p : Int) + 4 := by have := HQ.out.1; omega
        clear hgo
        go_wp2_with fail
        refine bodyPost_ret (results_tmp3 rfl _ _ _) rfl ?_
        exact ⟨.inl ⟨HS2.out, 0, p, rfl⟩, Below.refl _ _⟩
      · clear hgo
        go_wp2_with fail
        refine bodyPost_ret (results_tmp3 rfl _ _ _) rfl ?_
        exact ⟨.inl ⟨HS2.out, 0, p, rfl⟩, Below.refl _ _⟩
end Go.Proofs.YtngjbiipgbeemaaDoor
