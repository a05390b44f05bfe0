/- The reference's skip, walked: where the next token begins. Condition: the text is shorter than 1000000 bytes. The reference's digits, walked: a number's digits, their value. Condition: the text is shorter than 1000000 bytes. Boxes of five cells; tokens. No condition. -/
import Derived.Test.YtbdcpealkllfnaaDoorLxA
import Derived.Lib.EndianBits
namespace Go.Proofs.YtbdcpealkllfnaaDoor
open Go.RowKit Go.Deep

def SkOut (s : ByteArray) (p : Nat) (e : Ending) : Prop := ∃ (q : Nat) (ok : Bool), p ≤ q ∧ q ≤ s.size ∧ e = .returned (.tuple #[.int .i64 (q : Int), .bool ok])
set_option maxRecDepth 100000 in
set_option maxHeartbeats 8000000 in
theorem skip_any (s : ByteArray) (p : Nat) (w : World) (hp : p ≤ s.size) (hs : s.size ≤ 1000000) :
  Calls Tryd.prog 29 #[.string s, .int .i64 (p : Int)] w fun e w' => SkOut s p e ∧ w' = w := by
 go_enter Tryd.func29, Tryd.ntmps29
 go_wp2_with fail
 go_loopw [1] (fun vp wr => ∃ q : Nat, p ≤ q ∧ q ≤ s.size ∧ vp = .int .i64 q ∧ wr = w) (fun vp _ => s.size - (intOf vp).toNat)
 case atStart => exact ⟨p, by omega, hp, rfl, rfl⟩
 case round =>
  obtain ⟨q, hq1, hq2, rfl, rfl⟩ := hrel
  obtain ⟨wo, hwo⟩ : ∃ x, x = wr := ⟨_, rfl⟩
  subst hwo
  by_cases hlt : q < s.size
  ·
   by_cases h2 : q + 1 < s.size
   ·
    have h2i : (q : Int) + 1 < (s.size : Int) := by omega
    by_cases h : ((s[q]'hlt).toNat : Int) = 32
    ·
     have q32 : (((s[q]'hlt).toNat : Int) == 32) = true := by rw [h]; rfl
     clear h
     go_wp2_with fail
     exact ⟨⟨q + 1, by omega, by omega, by go_num, trivial⟩, by simp [intOf]; omega⟩
    ·
     have q32 : (((s[q]'hlt).toNat : Int) == 32) = false := by rw [beq_eq_false_iff_ne]; exact h
     clear h
     by_cases h : ((s[q]'hlt).toNat : Int) = 9
     ·
      have q9 : (((s[q]'hlt).toNat : Int) == 9) = true := by rw [h]; rfl
      clear h
      go_wp2_with fail
      exact ⟨⟨q + 1, by omega, by omega, by go_num, trivial⟩, by simp [intOf]; omega⟩
     ·
      have q9 : (((s[q]'hlt).toNat : Int) == 9) = false := by rw [beq_eq_false_iff_ne]; exact h
      clear h
      by_cases h : ((s[q]'hlt).toNat : Int) = 10
      ·
       have q10 : (((s[q]'hlt).toNat : Int) == 10) = true := by rw [h]; rfl
       clear h
       go_wp2_with fail
       exact ⟨⟨q + 1, by omega, by omega, by go_num, trivial⟩, by simp [intOf]; omega⟩
      ·
       have q10 : (((s[q]'hlt).toNat : Int) == 10) = false := by rw [beq_eq_false_iff_ne]; exact h
       have hne := Lib.hid h
       clear h
       cases e47 : ((s.extract q (q + 2)).toList == [47, 47]) with
       | true =>
        go_wp2_with fail
        go_loopw [1] (fun vp wr => ∃ q' : Nat, q ≤ q' ∧ q' ≤ s.size ∧ vp = .int .i64 q' ∧ wr = wo) (fun vp _ => s.size - (intOf vp).toNat)
        case atStart => exact ⟨q, by omega, by omega, rfl, rfl⟩
        case round =>
         obtain ⟨q', hq3, hq4, rfl, rfl⟩ := hrel
         by_cases hlt2 : q' < s.size
         ·
          by_cases h : ((s[q']'hlt2).toNat : Int) = 10
          ·
           have z : (((s[q']'hlt2).toNat : Int) != 10) = false := by rw [bne_eq_false_iff_eq]; exact h
           have hqq : q' ≠ q := fun e => by
            subst e
            exact hne.out h
           clear h
           go_wp2_with fail
           exact ⟨⟨q', by omega, by omega, rfl, trivial⟩, by simp [intOf]; omega⟩
          ·
           have z : (((s[q']'hlt2).toNat : Int) != 10) = true := by rw [bne_iff_ne]; exact h
           clear h
           go_wp2_with fail
           exact ⟨⟨q' + 1, by omega, by omega, by go_num, trivial⟩, by simp [intOf]; omega⟩
         ·
          obtain rfl : s.size = q' := by omega
          go_wp2_with fail
          exact ⟨⟨s.size, by omega, by omega, rfl, trivial⟩, by simp [intOf]; omega⟩
       | false =>
        cases e42 : ((s.extract q (q + 2)).toList == [47, 42]) with
        | true =>
         go_wp2_with fail
         go_loopw [7] (fun vp wr => ∃ q' : Nat, q + 2 ≤ q' ∧ q' ≤ s.size ∧ vp = .int .i64 q' ∧ wr = wo) (fun vp _ => s.size - (intOf vp).toNat)
         case atStart => exact ⟨q + 2, by omega, by omega, by simp, rfl⟩
         case round =>
          obtain ⟨q', hq3, hq4, rfl, rfl⟩ := hrel
          by_cases hlt2 : q' + 1 < s.size
          ·
           cases z : ((s.extract q' (q' + 2)).toList == [42, 47]) with
           | true =>
            go_wp2_with fail
            exact ⟨⟨q' + 2, by omega, by omega, by go_num, trivial⟩, by simp [intOf]; omega⟩
           | false =>
            go_wp2_with fail
            exact ⟨⟨q' + 1, by omega, by omega, by go_num, trivial⟩, by simp [intOf]; omega⟩
          ·
           have hge : (s.size : Int) ≤ (q' : Int) + 1 := by omega
           go_wp2_with fail
           go_ret2
           exact ⟨⟨q, false, hq1, hq2, rfl⟩, rfl⟩
        | false =>
         go_wp2_with fail
         go_ret2
         exact ⟨⟨q, true, hq1, hq2, rfl⟩, rfl⟩
   ·
    have h2i : ¬ (q : Int) + 1 < (s.size : Int) := by omega
    by_cases h : ((s[q]'hlt).toNat : Int) = 32
    ·
     have q32 : (((s[q]'hlt).toNat : Int) == 32) = true := by rw [h]; rfl
     clear h
     go_wp2_with fail
     exact ⟨⟨q + 1, by omega, by omega, by go_num, trivial⟩, by simp [intOf]; omega⟩
    ·
     have q32 : (((s[q]'hlt).toNat : Int) == 32) = false := by rw [beq_eq_false_iff_ne]; exact h
     clear h
     by_cases h : ((s[q]'hlt).toNat : Int) = 9
     ·
      have q9 : (((s[q]'hlt).toNat : Int) == 9) = true := by rw [h]; rfl
      clear h
      go_wp2_with fail
      exact ⟨⟨q + 1, by omega, by omega, by go_num, trivial⟩, by simp [intOf]; omega⟩
     ·
      have q9 : (((s[q]'hlt).toNat : Int) == 9) = false := by rw [beq_eq_false_iff_ne]; exact h
      clear h
      by_cases h : ((s[q]'hlt).toNat : Int) = 10
      ·
       have q10 : (((s[q]'hlt).toNat : Int) == 10) = true := by rw [h]; rfl
       clear h
       go_wp2_with fail
       exact ⟨⟨q + 1, by omega, by omega, by go_num, trivial⟩, by simp [intOf]; omega⟩
      ·
       have q10 : (((s[q]'hlt).toNat : Int) == 10) = false := by rw [beq_eq_false_iff_ne]; exact h
       have hne := Lib.hid h
       clear h
       go_wp2_with fail
       go_ret2
       exact ⟨⟨q, true, hq1, hq2, rfl⟩, rfl⟩
  ·
   obtain rfl : s.size = q := by omega
   go_wp2_with fail
   go_ret2
   exact ⟨⟨_, _, hq1, Nat.le_refl _, rfl⟩, rfl⟩
end Go.Proofs.YtbdcpealkllfnaaDoor
namespace Go.Proofs.YtbdcpealkllfnaaDoor
open Go.RowKit Go.Deep

def DgOut (s : ByteArray) (p : Nat) (e : Ending) : Prop := ∃ (n q : Nat) (ok : Bool), n < 4294967296 ∧ p ≤ q ∧ q ≤ s.size ∧ (ok = true → p < q) ∧ e = .returned (.tuple #[.int .u64 (n : Int), .int .i64 (q : Int), .bool ok])
theorem results_tmp3 {fn : Func} {t u v : Tmp} (h : fn.results = #[.tmp t, .tmp u, .tmp v]) (tmps : Array Value) (P : Program) (w : World) :
  (results fn tmps).run P w = .ok (.tuple #[tmps.getD t undef, tmps.getD u undef, tmps.getD v undef]) w := by
 simp [results, h]
set_option maxRecDepth 100000 in
set_option maxHeartbeats 8000000 in
theorem digits_any (s : ByteArray) (p base : Nat) (w : World) (hp : p ≤ s.size) (hs : s.size ≤ 1000000) (hb : base ≤ 16) :
  Calls Tryd.prog 53 #[.string s, .int .i64 (p : Int), .int .u64 (base : Int)] w fun e w' => DgOut s p e ∧ w' = w := by
 go_enter Tryd.func53, Tryd.ntmps53
 go_wp2_with fail
 go_loopw [9, 10, 11] (fun vn vq vo wr => ∃ (n q : Nat) (o : Bool), Hid (n < 4294967296) ∧ p ≤ q ∧ q ≤ s.size ∧ vn = .int .u64 n ∧ vq = .int .i64 q ∧ vo = .bool o ∧ wr = w) (fun _ vq _ _ => s.size - (intOf vq).toNat)
 case atStart => exact ⟨0, p, true, Lib.hid (by omega), by omega, hp, rfl, rfl, rfl, rfl⟩
 case round =>
  obtain ⟨n, q, o, hn, hq1, hq2, rfl, rfl, rfl, rfl⟩ := hrel
  by_cases hlt : q < s.size
  ·
   obtain ⟨B, hB⟩ : ∃ B, B = (s[q]'hlt).toNat := ⟨_, rfl⟩
   have hB8 : B < 256 := by rw [hB]; exact (s[q]'hlt).toNat_lt
   have hv := value_any B wr hB8
   have e0 : (s[q]'hlt).toNat = B := hB.symm
   have hvl := valB_le B
   obtain ⟨v, hve⟩ : ∃ v, v = valB B := ⟨_, rfl⟩
   rw [← hve] at hv hvl
   have HVE := Lib.hid hve
   clear hB hve
   by_cases hvb : v < base
   ·
    have q95 : ((B : Int) != 95) = true := by
     rw [bne_iff_ne]
     intro h
     have h1 : B = 95 := by omega
     have h2 := HVE.out
     rw [h1] at h2
     have h3 : valB 95 = 99 := rfl
     omega
    obtain ⟨X, hX⟩ : ∃ X, X = n * base := ⟨_, rfl⟩
    have hXl : X ≤ 4294967296 * 16 := by rw [hX]; exact Nat.mul_le_mul (by have := hn.out; omega) hb
    have HXL := Lib.hid hXl
    have ex : (n : Int) * (base : Int) = (X : Int) := by rw [hX]; push_cast; rfl
    have hvbi : (v : Int) < (base : Int) := by omega
    obtain ⟨N, hN0⟩ : ∃ N, N = X + v := ⟨_, rfl⟩
    have ew1 : IntKind.u64.wrap (X : Int) = (X : Int) := by rw [IntKind.wrap_u64]; omega
    have ew2 : IntKind.u64.wrap ((X : Int) + (v : Int)) = (N : Int) := by rw [IntKind.wrap_u64]; omega
    have HN0 := Lib.hid hN0
    clear hX hN0 hXl
    go_wp2_with fail
    refine hv.mono ?_
    rintro e' w1 ⟨rfl, rfl⟩
    go_wp2_with fail
    refine hv.mono ?_
    rintro e' w1 ⟨rfl, rfl⟩
    by_cases hN : N < 4294967296
    ·
     have qn : decide ((4294967296 : Int) ≤ (N : Int)) = false := decide_eq_false (by omega)
     have HN := Lib.hid hN
     clear hN
     go_wp2_with fail
     exact ⟨⟨N, q + 1, o, HN, by omega, by omega, rfl, by simp, rfl, trivial⟩, by simp [intOf]; omega⟩
    ·
     have qn : decide ((4294967296 : Int) ≤ (N : Int)) = true := decide_eq_true (by omega)
     clear hN
     go_wp2_with fail
     exact ⟨⟨0, q + 1, false, Lib.hid (by omega), by omega, by omega, rfl, by simp, rfl, trivial⟩, by simp [intOf]; omega⟩
   ·
    have hvbi : ¬ (v : Int) < (base : Int) := by omega
    by_cases h95 : B = 95
    ·
     have q95 : ((B : Int) == 95) = true := by rw [h95]; rfl
     have q95' : ((B : Int) != 95) = false := by rw [h95]; rfl
     clear h95
     by_cases hqp : p < q
     ·
      have hqpi : (p : Int) < (q : Int) := by omega
      have qn : decide ((4294967296 : Int) ≤ (n : Int)) = false := decide_eq_false (by have := hn.out; omega)
      go_wp2_with fail
      refine hv.mono ?_
      rintro e' w1 ⟨rfl, rfl⟩
      go_wp2_with fail
      exact ⟨⟨n, q + 1, o, hn, by omega, by omega, rfl, by simp, rfl, trivial⟩, by simp [intOf]; omega⟩
     ·
      have hqpi : ¬ (p : Int) < (q : Int) := by omega
      go_wp2_with fail
      refine hv.mono ?_
      rintro e' w1 ⟨rfl, rfl⟩
      cases o with
      | true =>
       go_wp2_with fail
       refine bodyPost_ret (results_tmp3 rfl _ _ _) rfl ?_
       exact ⟨⟨n, q, false, hn.out, hq1, hq2, (fun h => by cases h), rfl⟩, rfl⟩
      | false =>
       go_wp2_with fail
       refine bodyPost_ret (results_tmp3 rfl _ _ _) rfl ?_
       exact ⟨⟨n, q, false, hn.out, hq1, hq2, (fun h => by cases h), rfl⟩, rfl⟩
    ·
     have q95 : ((B : Int) == 95) = false := by rw [beq_eq_false_iff_ne]; omega
     clear h95
     go_wp2_with fail
     refine hv.mono ?_
     rintro e' w1 ⟨rfl, rfl⟩
     by_cases hqp : p < q
     ·
      have hqpi : (p : Int) < (q : Int) := by omega
      cases o with
      | true =>
       go_wp2_with fail
       refine bodyPost_ret (results_tmp3 rfl _ _ _) rfl ?_
       exact ⟨⟨n, q, true, hn.out, hq1, hq2, fun _ => hqp, rfl⟩, rfl⟩
      | false =>
       go_wp2_with fail
       refine bodyPost_ret (results_tmp3 rfl _ _ _) rfl ?_
       exact ⟨⟨n, q, false, hn.out, hq1, hq2, (fun h => by cases h), rfl⟩, rfl⟩
     ·
      have hqpi : ¬ (p : Int) < (q : Int) := by omega
      cases o with
      | true =>
       go_wp2_with fail
       refine bodyPost_ret (results_tmp3 rfl _ _ _) rfl ?_
       exact ⟨⟨n, q, false, hn.out, hq1, hq2, (fun h => by cases h), rfl⟩, rfl⟩
      | false =>
       go_wp2_with fail
       refine bodyPost_ret (results_tmp3 rfl _ _ _) rfl ?_
       exact ⟨⟨n, q, false, hn.out, hq1, hq2, (fun h => by cases h), rfl⟩, rfl⟩
  ·
   obtain rfl : s.size = q := by omega
   by_cases hqp : p < s.size
   ·
    have hqpi : (p : Int) < (s.size : Int) := by omega
    cases o with
    | true =>
     go_wp2_with fail
     refine bodyPost_ret (results_tmp3 rfl _ _ _) rfl ?_
     exact ⟨⟨n, s.size, true, hn.out, hq1, hq2, fun _ => hqp, rfl⟩, rfl⟩
    | false =>
     go_wp2_with fail
     refine bodyPost_ret (results_tmp3 rfl _ _ _) rfl ?_
     exact ⟨⟨n, s.size, false, hn.out, hq1, hq2, (fun h => by cases h), rfl⟩, rfl⟩
   ·
    have hqpi : ¬ (p : Int) < (s.size : Int) := by omega
    cases o with
    | true =>
     go_wp2_with fail
     refine bodyPost_ret (results_tmp3 rfl _ _ _) rfl ?_
     exact ⟨⟨n, s.size, false, hn.out, hq1, hq2, (fun h => by cases h), rfl⟩, rfl⟩
    | false =>
     go_wp2_with fail
     refine bodyPost_ret (results_tmp3 rfl _ _ _) rfl ?_
     exact ⟨⟨n, s.size, false, hn.out, hq1, hq2, (fun h => by cases h), rfl⟩, rfl⟩
end Go.Proofs.YtbdcpealkllfnaaDoor
namespace Go.Proofs.YtbdcpealkllfnaaDoor
open Go.RowKit Go.Deep

theorem set5_0 {w : World} {b : Nat} {x0 x1 x2 x3 x4 : Value} {t : TypeId} (h : w.heap[b]? = some (.cells #[x0, x1, x2, x3, x4] t)) (v : Value) : (w.setCell ⟨b, 0, none⟩ v).heap[b]? = some (.cells #[v, x1, x2, x3, x4] t) := by simp [World.setCell, Array.getElem?_modify, h]
theorem set5_1 {w : World} {b : Nat} {x0 x1 x2 x3 x4 : Value} {t : TypeId} (h : w.heap[b]? = some (.cells #[x0, x1, x2, x3, x4] t)) (v : Value) : (w.setCell ⟨b, 1, none⟩ v).heap[b]? = some (.cells #[x0, v, x2, x3, x4] t) := by simp [World.setCell, Array.getElem?_modify, h]
theorem set5_2 {w : World} {b : Nat} {x0 x1 x2 x3 x4 : Value} {t : TypeId} (h : w.heap[b]? = some (.cells #[x0, x1, x2, x3, x4] t)) (v : Value) : (w.setCell ⟨b, 2, none⟩ v).heap[b]? = some (.cells #[x0, x1, v, x3, x4] t) := by simp [World.setCell, Array.getElem?_modify, h]
theorem set5_3 {w : World} {b : Nat} {x0 x1 x2 x3 x4 : Value} {t : TypeId} (h : w.heap[b]? = some (.cells #[x0, x1, x2, x3, x4] t)) (v : Value) : (w.setCell ⟨b, 3, none⟩ v).heap[b]? = some (.cells #[x0, x1, x2, v, x4] t) := by simp [World.setCell, Array.getElem?_modify, h]
theorem set5_4 {w : World} {b : Nat} {x0 x1 x2 x3 x4 : Value} {t : TypeId} (h : w.heap[b]? = some (.cells #[x0, x1, x2, x3, x4] t)) (v : Value) : (w.setCell ⟨b, 4, none⟩ v).heap[b]? = some (.cells #[x0, x1, x2, x3, v] t) := by simp [World.setCell, Array.getElem?_modify, h]
theorem box5 {W : World} {b : Nat} {x0 x1 x2 x3 x4 : Value} {t : TypeId} (h : W.heap[b]? = some (.cells #[x0, x1, x2, x3, x4] t)) : (W.cell? ⟨b, 0, none⟩ = some x0 ∧ W.cell? ⟨b, 1, none⟩ = some x1 ∧ W.cell? ⟨b, 2, none⟩ = some x2 ∧ W.cell? ⟨b, 3, none⟩ = some x3 ∧ W.cell? ⟨b, 4, none⟩ = some x4) ∧ ∀ j, W.frozen? ⟨b, j, none⟩ = false := by
 refine ⟨⟨?_, ?_, ?_, ?_, ?_⟩, fun j => by simp [World.frozen?, h]⟩
 all_goals (rw [cell_of_row W b _ _ _ _ h]; rfl)
def st5 (W : World) (b : Nat) (x0 x1 x2 x3 x4 : Value) : World := ((((W.setCell ⟨b, 0, none⟩ x0).setCell ⟨b, 1, none⟩ x1).setCell ⟨b, 2, none⟩ x2).setCell ⟨b, 3, none⟩ x3).setCell ⟨b, 4, none⟩ x4
theorem st5_only (W : World) (b : Nat) (x0 x1 x2 x3 x4 : Value) : Only (fun k => k = b) W (st5 W b x0 x1 x2 x3 x4) :=
 (((((Only.refl (fun k => k = b) W).setCell (p := ⟨b, 0, none⟩) (fun _ => rfl) x0).setCell (p := ⟨b, 1, none⟩) (fun _ => rfl) x1).setCell (p := ⟨b, 2, none⟩) (fun _ => rfl) x2).setCell (p := ⟨b, 3, none⟩) (fun _ => rfl) x3).setCell (p := ⟨b, 4, none⟩) (fun _ => rfl) x4
theorem st5_heap {W : World} {b : Nat} {y0 y1 y2 y3 y4 : Value} {t : TypeId} (h : W.heap[b]? = some (.cells #[y0, y1, y2, y3, y4] t)) (x0 x1 x2 x3 x4 : Value) : (st5 W b x0 x1 x2 x3 x4).heap[b]? = some (.cells #[x0, x1, x2, x3, x4] t) := set5_4 (set5_3 (set5_2 (set5_1 (set5_0 h _) _) _) _) _
/-- a token's cells -/
def tokV (kd at_ wd : Nat) (T : ByteArray) (num : Nat) : Value := .agg #[.int .i64 kd, .int .i64 at_, .int .i64 wd, .string T, .int .u64 num]
structure TokOk (s : ByteArray) (kd at_ wd : Nat) (T : ByteArray) (num : Nat) : Prop where
 k : kd ≤ 4
 a : at_ ≤ s.size
 w : wd ≤ 32
 t : T.size ≤ s.size
 n : num < 4294967296
 m : kd = 1 → T.size ≤ 40
/-- the token at or behind p, and where it ends -/
def LexOut (s : ByteArray) (p : Nat) (e : Ending) : Prop := ∃ (kd at_ wd : Nat) (T : ByteArray) (num q : Nat), TokOk s kd at_ wd T num ∧ p ≤ q ∧ q ≤ s.size ∧ (kd = 1 ∨ kd = 2 ∨ kd = 3 → p < q) ∧ e = .returned (.tuple #[tokV kd at_ wd T num, .int .i64 (q : Int)])
attribute [local go_sem] Oper.semAt_some in
theorem outsNb {tmps : Array Value} {W : World} {b : Nat} {x0 x1 x2 x3 x4 v : Value} (h2 : tmps[4]? = some (.pointer (some ⟨b, 0, none⟩))) (h3 : tmps[5]? = some v) (h : W.heap[b]? = some (.cells #[x0, x1, x2, x3, x4] 33)) :
  (results Tryd.f31 tmps).run Tryd.prog W = .ok (.tuple #[.agg #[x0, x1, x2, x3, x4], v]) W := by
 obtain ⟨⟨c0, c1, c2, c3, c4⟩, _⟩ := box5 h
 simp [results, Tryd.f31, go_sem, h2, h3, c0, c1, c2, c3, c4]
attribute [local go_sem] Oper.semAt_some in
theorem outsLx {tmps : Array Value} {W : World} {b : Nat} {x0 x1 x2 x3 x4 v : Value} (h2 : tmps[4]? = some (.pointer (some ⟨b, 0, none⟩))) (h3 : tmps[5]? = some v) (h : W.heap[b]? = some (.cells #[x0, x1, x2, x3, x4] 33)) :
  (results Tryd.f14 tmps).run Tryd.prog W = .ok (.tuple #[.agg #[x0, x1, x2, x3, x4], v]) W := by
 obtain ⟨⟨c0, c1, c2, c3, c4⟩, _⟩ := box5 h
 simp [results, Tryd.f14, go_sem, h2, h3, c0, c1, c2, c3, c4]
end Go.Proofs.YtbdcpealkllfnaaDoor
