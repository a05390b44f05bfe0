/- The reference's number, walked: a number's token. Condition: the text is shorter than 1000000 bytes. -/
import Derived.Test.YtbdcpealkllfnaaDoorLxD
import Derived.Deep.DeepCutAuto
namespace Go.Proofs.YtbdcpealkllfnaaDoor
open Go.RowKit Go.Deep

set_option maxRecDepth 100000 in
set_option maxHeartbeats 20000000 in
theorem number_any (s : ByteArray) (p : Nat) (w : World) (hp : p < s.size) (hs : s.size ≤ 1000000) :
  Calls Tryd.prog 31 #[.string s, .int .i64 (p : Int)] w fun e w' => LexOut s p e ∧ Below w.heap.size w w' := by
 have hk4 := heap_alloc_new w (.cells #[.int .i64 0, .int .i64 0, .int .i64 0, .string ⟨#[]⟩, .int .u64 0] 33)
 have hw0 : Below w.heap.size w (w.alloc (.cells #[.int .i64 0, .int .i64 0, .int .i64 0, .string ⟨#[]⟩, .int .u64 0] 33)) := (Below.refl _ _).alloc (Nat.le_refl _) _
 have hz0 : (w.alloc (.cells #[.int .i64 0, .int .i64 0, .int .i64 0, .string ⟨#[]⟩, .int .u64 0] 33)).heap.size = w.heap.size + 1 := by simp
 go_enter Tryd.func31, Tryd.ntmps31
 go_upto_region 1 with (fail)
 generalize w.alloc (.cells #[.int .i64 0, .int .i64 0, .int .i64 0, .string ⟨#[]⟩, .int .u64 0] 33) = wa at *
 obtain ⟨b4, hb4⟩ : ∃ b, b = w.heap.size := ⟨_, rfl⟩
 rw [← hb4] at hk4 ⊢
 have HB4 := Lib.hid hb4
 have HZ0 := Lib.hid hz0
 clear hb4 hz0
 have hdg := digits_any s p 10 wa (by omega) hs (by omega)
 rw [show ((10 : Nat) : Int) = 10 from rfl] at hdg
 go_wp2_with fail
 refine hdg.mono ?_
 rintro e w1 ⟨⟨n, q, ok, hn, hq1, hq2, hqo, rfl⟩, rfl⟩
 clear hdg
 have hk9 := heap_alloc_new w1 (.cells #[.int .i64 4, .int .i64 (p : Int), .int .i64 0, .string ⟨#[]⟩, .int .u64 0] 33)
 have hb9' := (Below.refl w1.heap.size w1).alloc (Nat.le_refl _) (.cells #[.int .i64 4, .int .i64 (p : Int), .int .i64 0, .string ⟨#[]⟩, .int .u64 0] 33)
 go_upto_region 3 with (fail)
 have HK4 := Lib.hid (heap_below hb9' hk4)
 have HBB := Lib.hid (hw0.trans (hb9'.mono (by have := HZ0.out; omega)))
 generalize w1.alloc (.cells #[.int .i64 4, .int .i64 (p : Int), .int .i64 0, .string ⟨#[]⟩, .int .u64 0] 33) = wb at *
 obtain ⟨b9, hb9⟩ : ∃ b, b = w1.heap.size := ⟨_, rfl⟩
 rw [← hb9] at hk9 ⊢
 have HK9 := Lib.hid hk9
 have HE : Hid (b4 = w.heap.size ∧ b9 = b4 + 1) := Lib.hid ⟨HB4.out, by have := HB4.out; have := HZ0.out; omega⟩
 have HN := Lib.hid hn
 clear hk4 hk9 hw0 hb9 hb9' hn
 have hne : ¬ b9 = b4 := by have := HE.out; omega
 by_cases hq : q < s.size
 ·
  have hqi : ¬ (s.size : Int) ≤ (q : Int) := by omega
  by_cases h39 : ((s[q]'hq).toNat : Int) = 39
  ·
   have q39 : (((s[q]'hq).toNat : Int) != 39) = false := by rw [bne_eq_false_iff_eq]; exact h39
   clear h39
   go_upto_if 45 with (fail)
   go_cut [10] (fun vb wx => ∃ bs : Nat, bs ≤ 16 ∧ (bs ≠ 0 → q + 1 < s.size) ∧ vb = .int .u64 (bs : Int) ∧ wx = wb)
   case first =>
    by_cases h1 : q + 1 < s.size
    ·
     have h1i : (q : Int) + 1 < (s.size : Int) := by omega
     obtain ⟨C, hC⟩ : ∃ C, C = ((s[q + 1]'h1).toNat : Int) := ⟨_, rfl⟩
     by_cases c98 : C = 98
     ·
      have qc : (((s[q + 1]'h1).toNat : Int) == 98) = true := by rw [← hC, c98]; rfl
      clear hC c98
      go_wp2_with fail
      go_meet
      exact ⟨2, by omega, fun _ => h1, rfl, rfl⟩
     ·
      have qc : (((s[q + 1]'h1).toNat : Int) == 98) = false := by rw [← hC, beq_eq_false_iff_ne]; exact c98
      by_cases c100 : C = 100
      ·
       have qd : (((s[q + 1]'h1).toNat : Int) == 100) = true := by rw [← hC, c100]; rfl
       clear hC c98 c100
       go_wp2_with fail
       go_meet
       exact ⟨10, by omega, fun _ => h1, rfl, rfl⟩
      ·
       have qd : (((s[q + 1]'h1).toNat : Int) == 100) = false := by rw [← hC, beq_eq_false_iff_ne]; exact c100
       by_cases c104 : C = 104
       ·
        have qe : (((s[q + 1]'h1).toNat : Int) == 104) = true := by rw [← hC, c104]; rfl
        clear hC c98 c100 c104
        go_wp2_with fail
        go_meet
        exact ⟨16, by omega, fun _ => h1, rfl, rfl⟩
       ·
        have qe : (((s[q + 1]'h1).toNat : Int) == 104) = false := by rw [← hC, beq_eq_false_iff_ne]; exact c104
        clear hC c98 c100 c104
        go_wp2_with fail
        go_meet
        exact ⟨0, by omega, fun h => absurd rfl h, rfl, rfl⟩
    ·
     have h1i : ¬ (q : Int) + 1 < (s.size : Int) := by omega
     go_wp2_with fail
     go_meet
     exact ⟨0, by omega, fun h => absurd rfl h, rfl, rfl⟩
   case rest =>
    obtain ⟨bs, hb16, hq2b, rfl, rfl⟩ := hcut
    by_cases h0 : bs = 0
    ·
     have q0 : ((bs : Int) == 0) = true := by rw [h0]; rfl
     clear h0
     cases ok with
     | false =>
      have HR := Lib.hid (st5_heap HK4.out (.int .i64 4) (.int .i64 (p : Int)) (.int .i64 0) (.string ⟨#[]⟩) (.int .u64 0))
      have HBR := Lib.hid (HBB.out.trans ((st5_only wc b4 (.int .i64 4) (.int .i64 (p : Int)) (.int .i64 0) (.string ⟨#[]⟩) (.int .u64 0)).below (fun k _ e => by rw [e]; have := HE.out; omega) HBB.out.size))
      obtain ⟨⟨y0, y1, y2, y3, y4⟩, yz⟩ := box5 HK4.out
      have yz0 := yz 0
      have yz1 := yz 1
      have yz2 := yz 2
      have yz3 := yz 3
      have yz4 := yz 4
      obtain ⟨⟨z0, z1, z2, z3, z4⟩, _⟩ := box5 HK9.out
      clear yz
      go_wp2_with fail
      exact bodyPost_ret (v := .tuple #[.agg #[.int .i64 4, .int .i64 (p : Int), .int .i64 0, .string ⟨#[]⟩, .int .u64 0], .int .i64 (p : Int)]) (outsNb rfl rfl HR.out) rfl ⟨⟨4, p, 0, ⟨#[]⟩, 0, p, ⟨by omega, by omega, by omega, Nat.zero_le _, by omega, fun h => by omega⟩, by omega, by omega, fun h => by omega, rfl⟩, HBR.out⟩
     | true =>
      have HR := Lib.hid (st5_heap HK4.out (.int .i64 4) (.int .i64 (p : Int)) (.int .i64 0) (.string ⟨#[]⟩) (.int .u64 0))
      have HBR := Lib.hid (HBB.out.trans ((st5_only wc b4 (.int .i64 4) (.int .i64 (p : Int)) (.int .i64 0) (.string ⟨#[]⟩) (.int .u64 0)).below (fun k _ e => by rw [e]; have := HE.out; omega) HBB.out.size))
      obtain ⟨⟨y0, y1, y2, y3, y4⟩, yz⟩ := box5 HK4.out
      have yz0 := yz 0
      have yz1 := yz 1
      have yz2 := yz 2
      have yz3 := yz 3
      have yz4 := yz 4
      obtain ⟨⟨z0, z1, z2, z3, z4⟩, _⟩ := box5 HK9.out
      clear yz
      go_wp2_with fail
      exact bodyPost_ret (v := .tuple #[.agg #[.int .i64 4, .int .i64 (p : Int), .int .i64 0, .string ⟨#[]⟩, .int .u64 0], .int .i64 (p : Int)]) (outsNb rfl rfl HR.out) rfl ⟨⟨4, p, 0, ⟨#[]⟩, 0, p, ⟨by omega, by omega, by omega, Nat.zero_le _, by omega, fun h => by omega⟩, by omega, by omega, fun h => by omega, rfl⟩, HBR.out⟩
    ·
     have q0 : ((bs : Int) == 0) = false := by rw [beq_eq_false_iff_ne]; omega
     have hdg := digits_any s (q + 2) bs wc (by have := hq2b h0; omega) hs hb16
     have eq2 : ((q + 2 : Nat) : Int) = (q : Int) + 2 := by omega
     rw [eq2] at hdg
     clear eq2
     cases ok with
     | false =>
      clear hdg
      have HR := Lib.hid (st5_heap HK4.out (.int .i64 4) (.int .i64 (p : Int)) (.int .i64 0) (.string ⟨#[]⟩) (.int .u64 0))
      have HBR := Lib.hid (HBB.out.trans ((st5_only wc b4 (.int .i64 4) (.int .i64 (p : Int)) (.int .i64 0) (.string ⟨#[]⟩) (.int .u64 0)).below (fun k _ e => by rw [e]; have := HE.out; omega) HBB.out.size))
      obtain ⟨⟨y0, y1, y2, y3, y4⟩, yz⟩ := box5 HK4.out
      have yz0 := yz 0
      have yz1 := yz 1
      have yz2 := yz 2
      have yz3 := yz 3
      have yz4 := yz 4
      obtain ⟨⟨z0, z1, z2, z3, z4⟩, _⟩ := box5 HK9.out
      clear yz
      go_wp2_with fail
      exact bodyPost_ret (v := .tuple #[.agg #[.int .i64 4, .int .i64 (p : Int), .int .i64 0, .string ⟨#[]⟩, .int .u64 0], .int .i64 (p : Int)]) (outsNb rfl rfl HR.out) rfl ⟨⟨4, p, 0, ⟨#[]⟩, 0, p, ⟨by omega, by omega, by omega, Nat.zero_le _, by omega, fun h => by omega⟩, by omega, by omega, fun h => by omega, rfl⟩, HBR.out⟩
     | true =>
      have hpq := hqo rfl
      by_cases hn1 : n < 1
      ·
       have q1 : (n : Int) < 1 := by omega
       clear hdg
       have HR := Lib.hid (st5_heap HK4.out (.int .i64 4) (.int .i64 (p : Int)) (.int .i64 0) (.string ⟨#[]⟩) (.int .u64 0))
       have HBR := Lib.hid (HBB.out.trans ((st5_only wc b4 (.int .i64 4) (.int .i64 (p : Int)) (.int .i64 0) (.string ⟨#[]⟩) (.int .u64 0)).below (fun k _ e => by rw [e]; have := HE.out; omega) HBB.out.size))
       obtain ⟨⟨y0, y1, y2, y3, y4⟩, yz⟩ := box5 HK4.out
       have yz0 := yz 0
       have yz1 := yz 1
       have yz2 := yz 2
       have yz3 := yz 3
       have yz4 := yz 4
       obtain ⟨⟨z0, z1, z2, z3, z4⟩, _⟩ := box5 HK9.out
       clear yz
       go_wp2_with fail
       exact bodyPost_ret (v := .tuple #[.agg #[.int .i64 4, .int .i64 (p : Int), .int .i64 0, .string ⟨#[]⟩, .int .u64 0], .int .i64 (p : Int)]) (outsNb rfl rfl HR.out) rfl ⟨⟨4, p, 0, ⟨#[]⟩, 0, p, ⟨by omega, by omega, by omega, Nat.zero_le _, by omega, fun h => by omega⟩, by omega, by omega, fun h => by omega, rfl⟩, HBR.out⟩
      ·
       have q1 : ¬ (n : Int) < 1 := by omega
       by_cases hn2 : 32 < n
       ·
        have q2 : (32 : Int) < (n : Int) := by omega
        clear hdg
        have HR := Lib.hid (st5_heap HK4.out (.int .i64 4) (.int .i64 (p : Int)) (.int .i64 0) (.string ⟨#[]⟩) (.int .u64 0))
        have HBR := Lib.hid (HBB.out.trans ((st5_only wc b4 (.int .i64 4) (.int .i64 (p : Int)) (.int .i64 0) (.string ⟨#[]⟩) (.int .u64 0)).below (fun k _ e => by rw [e]; have := HE.out; omega) HBB.out.size))
        obtain ⟨⟨y0, y1, y2, y3, y4⟩, yz⟩ := box5 HK4.out
        have yz0 := yz 0
        have yz1 := yz 1
        have yz2 := yz 2
        have yz3 := yz 3
        have yz4 := yz 4
        obtain ⟨⟨z0, z1, z2, z3, z4⟩, _⟩ := box5 HK9.out
        clear yz
        go_wp2_with fail
        exact bodyPost_ret (v := .tuple #[.agg #[.int .i64 4, .int .i64 (p : Int), .int .i64 0, .string ⟨#[]⟩, .int .u64 0], .int .i64 (p : Int)]) (outsNb rfl rfl HR.out) rfl ⟨⟨4, p, 0, ⟨#[]⟩, 0, p, ⟨by omega, by omega, by omega, Nat.zero_le _, by omega, fun h => by omega⟩, by omega, by omega, fun h => by omega, rfl⟩, HBR.out⟩
       ·
        have q2 : ¬ (32 : Int) < (n : Int) := by omega
        go_upto_region 18 with (fail)
        go_wp2_with fail
        refine hdg.mono ?_
        rintro e w2 ⟨⟨v, r, fine, hv, hr1, hr2, hro, rfl⟩, rfl⟩
        clear hdg
        have HV := Lib.hid hv
        clear hv
        cases fine with
        | false =>
         have HR := Lib.hid (st5_heap HK4.out (.int .i64 4) (.int .i64 (p : Int)) (.int .i64 0) (.string ⟨#[]⟩) (.int .u64 0))
         have HBR := Lib.hid (HBB.out.trans ((st5_only w2 b4 (.int .i64 4) (.int .i64 (p : Int)) (.int .i64 0) (.string ⟨#[]⟩) (.int .u64 0)).below (fun k _ e => by rw [e]; have := HE.out; omega) HBB.out.size))
         obtain ⟨⟨y0, y1, y2, y3, y4⟩, yz⟩ := box5 HK4.out
         have yz0 := yz 0
         have yz1 := yz 1
         have yz2 := yz 2
         have yz3 := yz 3
         have yz4 := yz 4
         obtain ⟨⟨z0, z1, z2, z3, z4⟩, _⟩ := box5 HK9.out
         clear yz
         go_wp2_with fail
         exact bodyPost_ret (v := .tuple #[.agg #[.int .i64 4, .int .i64 (p : Int), .int .i64 0, .string ⟨#[]⟩, .int .u64 0], .int .i64 (p : Int)]) (outsNb rfl rfl HR.out) rfl ⟨⟨4, p, 0, ⟨#[]⟩, 0, p, ⟨by omega, by omega, by omega, Nat.zero_le _, by omega, fun h => by omega⟩, by omega, by omega, fun h => by omega, rfl⟩, HBR.out⟩
        | true =>
         have HR := Lib.hid (st5_heap HK4.out (.int .i64 4) (.int .i64 (p : Int)) (.int .i64 0) (.string ⟨#[]⟩) (.int .u64 0))
         have HBR := Lib.hid (HBB.out.trans ((st5_only w2 b4 (.int .i64 4) (.int .i64 (p : Int)) (.int .i64 0) (.string ⟨#[]⟩) (.int .u64 0)).below (fun k _ e => by rw [e]; have := HE.out; omega) HBB.out.size))
         have HR2 := Lib.hid (st5_heap HK4.out (.int .i64 2) (.int .i64 (p : Int)) (.int .i64 (n : Int)) (.string ⟨#[]⟩) (.int .u64 (v : Int)))
         have HBR2 := Lib.hid (HBB.out.trans ((st5_only w2 b4 (.int .i64 2) (.int .i64 (p : Int)) (.int .i64 (n : Int)) (.string ⟨#[]⟩) (.int .u64 (v : Int))).below (fun k _ e => by rw [e]; have := HE.out; omega) HBB.out.size))
         obtain ⟨⟨y0, y1, y2, y3, y4⟩, yz⟩ := box5 HK4.out
         have yz0 := yz 0
         have yz1 := yz 1
         have yz2 := yz 2
         have yz3 := yz 3
         have yz4 := yz 4
         obtain ⟨⟨z0, z1, z2, z3, z4⟩, _⟩ := box5 HK9.out
         clear yz
         go_wp2_with fail
         ·
          exact bodyPost_ret (v := .tuple #[.agg #[.int .i64 4, .int .i64 (p : Int), .int .i64 0, .string ⟨#[]⟩, .int .u64 0], .int .i64 (p : Int)]) (outsNb rfl rfl HR.out) rfl ⟨⟨4, p, 0, ⟨#[]⟩, 0, p, ⟨by omega, by omega, by omega, Nat.zero_le _, by omega, fun h => by omega⟩, by omega, by omega, fun h => by omega, rfl⟩, HBR.out⟩
         ·
          exact bodyPost_ret (v := .tuple #[.agg #[.int .i64 2, .int .i64 (p : Int), .int .i64 (n : Int), .string ⟨#[]⟩, .int .u64 (v : Int)], .int .i64 (r : Int)]) (outsNb rfl rfl HR2.out) rfl ⟨⟨2, p, n, ⟨#[]⟩, v, r, ⟨by omega, by omega, by omega, Nat.zero_le _, HV.out, fun h => by omega⟩, by omega, by omega, fun _ => by omega, rfl⟩, HBR2.out⟩
  ·
   have q39 : (((s[q]'hq).toNat : Int) != 39) = true := by rw [bne_iff_ne]; exact h39
   clear h39
   cases ok with
   | false =>
    have HR := Lib.hid (st5_heap HK4.out (.int .i64 4) (.int .i64 (p : Int)) (.int .i64 0) (.string ⟨#[]⟩) (.int .u64 0))
    have HBR := Lib.hid (HBB.out.trans ((st5_only wb b4 (.int .i64 4) (.int .i64 (p : Int)) (.int .i64 0) (.string ⟨#[]⟩) (.int .u64 0)).below (fun k _ e => by rw [e]; have := HE.out; omega) HBB.out.size))
    obtain ⟨⟨y0, y1, y2, y3, y4⟩, yz⟩ := box5 HK4.out
    have yz0 := yz 0
    have yz1 := yz 1
    have yz2 := yz 2
    have yz3 := yz 3
    have yz4 := yz 4
    obtain ⟨⟨z0, z1, z2, z3, z4⟩, _⟩ := box5 HK9.out
    clear yz
    go_wp2_with fail
    exact bodyPost_ret (v := .tuple #[.agg #[.int .i64 4, .int .i64 (p : Int), .int .i64 0, .string ⟨#[]⟩, .int .u64 0], .int .i64 (p : Int)]) (outsNb rfl rfl HR.out) rfl ⟨⟨4, p, 0, ⟨#[]⟩, 0, p, ⟨by omega, by omega, by omega, Nat.zero_le _, by omega, fun h => by omega⟩, by omega, by omega, fun h => by omega, rfl⟩, HBR.out⟩
   | true =>
    have hpq := hqo rfl
    have HR := Lib.hid (st5_heap HK4.out (.int .i64 2) (.int .i64 (p : Int)) (.int .i64 0) (.string ⟨#[]⟩) (.int .u64 (n : Int)))
    have HBR := Lib.hid (HBB.out.trans ((st5_only wb b4 (.int .i64 2) (.int .i64 (p : Int)) (.int .i64 0) (.string ⟨#[]⟩) (.int .u64 (n : Int))).below (fun k _ e => by rw [e]; have := HE.out; omega) HBB.out.size))
    obtain ⟨⟨y0, y1, y2, y3, y4⟩, yz⟩ := box5 HK4.out
    have yz0 := yz 0
    have yz1 := yz 1
    have yz2 := yz 2
    have yz3 := yz 3
    have yz4 := yz 4
    obtain ⟨⟨z0, z1, z2, z3, z4⟩, _⟩ := box5 HK9.out
    clear yz
    go_wp2_with fail
    exact bodyPost_ret (v := .tuple #[.agg #[.int .i64 2, .int .i64 (p : Int), .int .i64 0, .string ⟨#[]⟩, .int .u64 (n : Int)], .int .i64 (q : Int)]) (outsNb rfl rfl HR.out) rfl ⟨⟨2, p, 0, ⟨#[]⟩, n, q, ⟨by omega, by omega, by omega, Nat.zero_le _, HN.out, fun h => by omega⟩, by omega, by omega, fun _ => by omega, rfl⟩, HBR.out⟩
 ·
  have hqi : (s.size : Int) ≤ (q : Int) := by omega
  cases ok with
  | false =>
   have HR := Lib.hid (st5_heap HK4.out (.int .i64 4) (.int .i64 (p : Int)) (.int .i64 0) (.string ⟨#[]⟩) (.int .u64 0))
   have HBR := Lib.hid (HBB.out.trans ((st5_only wb b4 (.int .i64 4) (.int .i64 (p : Int)) (.int .i64 0) (.string ⟨#[]⟩) (.int .u64 0)).below (fun k _ e => by rw [e]; have := HE.out; omega) HBB.out.size))
   obtain ⟨⟨y0, y1, y2, y3, y4⟩, yz⟩ := box5 HK4.out
   have yz0 := yz 0
   have yz1 := yz 1
   have yz2 := yz 2
   have yz3 := yz 3
   have yz4 := yz 4
   obtain ⟨⟨z0, z1, z2, z3, z4⟩, _⟩ := box5 HK9.out
   clear yz
   go_wp2_with fail
   exact bodyPost_ret (v := .tuple #[.agg #[.int .i64 4, .int .i64 (p : Int), .int .i64 0, .string ⟨#[]⟩, .int .u64 0], .int .i64 (p : Int)]) (outsNb rfl rfl HR.out) rfl ⟨⟨4, p, 0, ⟨#[]⟩, 0, p, ⟨by omega, by omega, by omega, Nat.zero_le _, by omega, fun h => by omega⟩, by omega, by omega, fun h => by omega, rfl⟩, HBR.out⟩
  | true =>
   have hpq := hqo rfl
   have HR := Lib.hid (st5_heap HK4.out (.int .i64 2) (.int .i64 (p : Int)) (.int .i64 0) (.string ⟨#[]⟩) (.int .u64 (n : Int)))
   have HBR := Lib.hid (HBB.out.trans ((st5_only wb b4 (.int .i64 2) (.int .i64 (p : Int)) (.int .i64 0) (.string ⟨#[]⟩) (.int .u64 (n : Int))).below (fun k _ e => by rw [e]; have := HE.out; omega) HBB.out.size))
   obtain ⟨⟨y0, y1, y2, y3, y4⟩, yz⟩ := box5 HK4.out
   have yz0 := yz 0
   have yz1 := yz 1
   have yz2 := yz 2
   have yz3 := yz 3
   have yz4 := yz 4
   obtain ⟨⟨z0, z1, z2, z3, z4⟩, _⟩ := box5 HK9.out
   clear yz
   go_wp2_with fail
   exact bodyPost_ret (v := .tuple #[.agg #[.int .i64 2, .int .i64 (p : Int), .int .i64 0, .string ⟨#[]⟩, .int .u64 (n : Int)], .int .i64 (q : Int)]) (outsNb rfl rfl HR.out) rfl ⟨⟨2, p, 0, ⟨#[]⟩, n, q, ⟨by omega, by omega, by omega, Nat.zero_le _, HN.out, fun h => by omega⟩, by omega, by omega, fun _ => by omega, rfl⟩, HBR.out⟩
end Go.Proofs.YtbdcpealkllfnaaDoor
