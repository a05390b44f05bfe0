/- fabric.load, walked (under way). Condition: the bytes lie in memory. -/
import Derived.Test.YtbnjbclkmjjkhaaDoorFrC
import Derived.Test.YtbnjbclkmjjkhaaDoorFrU
import Derived.Deep.CutBlock
namespace Go.Proofs.YtbnjbclkmjjkhaaDoor
open Go.RowKit Go.Shelf Go.Deep

theorem run_max4 (w : World) (ts : Array TypeId) (t : TypeId) (x y z u : Int) : (Builtin.max_ ts t #[.int .i64 x, .int .i64 y, .int .i64 z, .int .i64 u]).run Tryd.prog w = .ok (.int .i64 (max (max (max x y) z) u)) w := by
  have e : ∀ x y : Int, (if y > x then y else x) = max x y := fun x y => by
    rw [Int.max_def]
    split <;> split <;> omega
  simp [Builtin.max_, Builtin.max2, e]
theorem fd0 {l : List UInt8} {A : Option Addr} {c : Nat} {w : World} (hM : Mem w A l) (h4 : 14 ≤ l.length) : Fd l A c w.heap.size (w.alloc (.cells #[.slice A l.length c, .int .i64 32, .bool false] 107)) 32 false :=
  ⟨⟨_, heap_alloc_new w _, rfl, fun k hk => by
    obtain rfl | rfl | rfl : k = 0 ∨ k = 1 ∨ k = 2 := by omega
    · rfl
    · simp only [frV]; rw [show min 32 (8 * l.length) = 32 by omega]; rfl
    · rfl⟩, hM.keeps (Keeps.alloc _ _)⟩
theorem Fd.in_ {l : List UInt8} {A : Option Addr} {c bS q n : Nat} {W : World} (h : Fd l A c bS W (q + n) (false || decide (8 * l.length < q + n))) (hq : q + n ≤ 8 * l.length) : Fd l A c bS W (q + n) false := by
  rwa [decide_eq_false (by omega), Bool.or_false] at h

set_option maxRecDepth 100000 in
set_option maxHeartbeats 16000000 in
theorem load_any (l : List UInt8) (A : Option Addr) (c : Nat) (w : World) (hm : Mem w A l) (hl : l.length ≤ 140737488355328) (hlc : l.length ≤ c) :
    Calls Tryd.prog 33 #[.slice A l.length c] w fun e w' =>
      ((GoodB l ∧ ∃ X AC cC CA cc AR cR AO cO, e = .returned (.tuple #[.pointer (some ⟨X, 0, none⟩), .bool true]) ∧ Chip w' w.heap.size X (body l) AC cC CA cc AR cR AO cO) ∨ (¬ GoodB l ∧ ∃ v, e = .returned (.tuple #[v, .bool false]))) ∧ Below w.heap.size w w' := by
  have HM := Lib.hid hm
  clear hm
  go_enter Tryd.func33, Tryd.ntmps33
  by_cases h18 : 18 ≤ l.length
  case neg =>
    have hd : decide ((l.length : Int) < 18) = true := decide_eq_true (by omega)
    have HG : Hid (¬ GoodB l) := Lib.hid (fun h => h18 h.len)
    clear h18
    go_wp2_with fail
    go_ret2
    exact ⟨.inr ⟨HG.out, _, rfl⟩, Below.refl _ _⟩
  have hd : decide ((l.length : Int) < 18) = false := decide_eq_false (by omega)
  obtain ⟨ba, oa, rfl, _⟩ := HM.out.at_ (k := 0) (by omega)
  have hcv := conv_mem 4 c (by simp; omega) (mem_take HM.out 4) (by simp; omega)
  have h4c : 4 ≤ c := by omega
  by_cases hmg : l.take 4 = [71, 87, 66, 49]
  case neg =>
    have HG : Hid (¬ GoodB l) := Lib.hid (fun h => hmg h.magic)
    have hsn : ((str (l.take 4)).toList == [71, 87, 66, 49]) = false := by rw [str_toList]; simpa using hmg
    clear hmg
    go_wp2_with fail
    go_ret2
    exact ⟨.inr ⟨HG.out, _, rfl⟩, Below.refl _ _⟩
  have HMG := Lib.hid hmg
  have hsn : ((str (l.take 4)).toList == [71, 87, 66, 49]) = true := by rw [str_toList, hmg]; rfl
  clear hmg
  have ew : IntKind.i64.wrap ((l.length : Int) - 4) = ((body l).length : Int) := by rw [body_len, IntKind.wrap_i64]; omega
  have hbc : (body l).length ≤ c := by rw [body_len]; omega
  have hbl : (body l).length ≤ l.length := by rw [body_len]; omega
  have hl4 : l.length - (body l).length = 4 := by rw [body_len]; omega
  have hcne : c ≠ (body l).length := by rw [body_len]; omega
  go_wp2_with fail
  clear hsn hcv
  refine wp_region_z (fun w' => True) [0, 1, 2, 3, 4, 5, 6, 7, 8, 9, 10, 11] [] (by kernel_rfl) (by kernel_rfl) (by kernel_rfl) (by rfl) (fun _ _ _ _ e h => ⟨e.symm.trans h.1, h.2⟩) trivial ?_
  iterate 12
    refine Heads.step (v := ?_) rfl (by first | (go_simp; done) | rfl) (fun W hW => ?_) ?_
    rotate_left
    · (go_simp; try with_reducible rfl)
  refine AnyZ.done (by kernel_rfl) ?_
  go_simp
  go_wp2_with fail
  refine (frCheck_any (body l) _ c w.drew (mem_body (HM.out.keeps (Keeps.of_below (Below.refl _ w).drew))) (by omega)).mono ?_
  rintro e w1 ⟨rfl, ew1⟩
  have HCR : Hid (be4 (crcF (body l)) = l.drop (l.length - 4) ↔ l = body l ++ be4 (crcF (body l))) := Lib.hid (crc_last (by omega))
  have hXb := crcF_lt (body l)
  obtain ⟨t0, t1, t2, t3, hT⟩ : ∃ t0 t1 t2 t3, l.drop (l.length - 4) = [t0, t1, t2, t3] := by
    have hlen : (l.drop (l.length - 4)).length = 4 := by simp; omega
    match l.drop (l.length - 4), hlen with
    | [a, b, c, d], _ => exact ⟨a, b, c, d, rfl⟩
  have hmT : Mem w1 (some ⟨ba, oa + (body l).length, none⟩) [t0, t1, t2, t3] := by
    rw [← ew1, ← hT, body_len]
    exact mem_drop (HM.out.keeps (Keeps.of_below (Below.refl _ w).drew)) _
  obtain ⟨b', o', eb, hct⟩ := hmT (by simp)
  injection eb with eb; injection eb with eb1 eb2; subst eb1 eb2
  have y0 : w1.cell? ⟨ba, oa + (body l).length, none⟩ = some (.int .u8 (t0.toNat : Int)) := hct 0 (by simp)
  have y1 : w1.cell? ⟨ba, oa + (body l).length + 1, none⟩ = some (.int .u8 (t1.toNat : Int)) := hct 1 (by simp)
  have y2 : w1.cell? ⟨ba, oa + (body l).length + 2, none⟩ = some (.int .u8 (t2.toNat : Int)) := hct 2 (by simp)
  have y3 : w1.cell? ⟨ba, oa + (body l).length + 3, none⟩ = some (.int .u8 (t3.toNat : Int)) := hct 3 (by simp)
  rw [hT] at HCR
  have HW1 : Hid (Below w.heap.size w w1) := Lib.hid (by rw [← ew1]; exact (Below.refl _ w).drew)
  clear hct hmT hT ew1
  generalize hX : crcF (body l) = X at *
  have u0 := u8_of_nat (X / 16777216); have u1 := u8_of_nat (X / 65536); have u2 := u8_of_nat (X / 256); have u3 := u8_of_nat X
  have HXE := Lib.hid hX
  clear hX
  have HNB : Hid (∀ (_ : ¬ (t0.toNat = X / 16777216 % 256 ∧ t1.toNat = X / 65536 % 256 ∧ t2.toNat = X / 256 % 256 ∧ t3.toNat = X % 256)), ¬ GoodB l) := Lib.hid (fun hne hg => by
    have h := HCR.out.2 (by have := hg.crc; rw [HXE.out] at this; exact this)
    simp only [be4, List.cons.injEq, and_true] at h
    obtain ⟨rfl, rfl, rfl, rfl⟩ := h
    exact hne ⟨by simp, by simp, by simp, by simp⟩)
  have HYB : Hid (t0.toNat = X / 16777216 % 256 → t1.toNat = X / 65536 % 256 → t2.toNat = X / 256 % 256 → t3.toNat = X % 256 → l = body l ++ be4 X) := Lib.hid (fun e0 e1 e2 e3 => HCR.out.1 (by
    have hx : ∀ (x : Nat) (t : UInt8), t.toNat = x % 256 → UInt8.ofNat x = t := fun x t h => UInt8.toNat_inj.1 (by rw [UInt8.toNat_ofNat', h])
    simp only [be4]
    rw [hx _ _ e0, hx _ _ e1, hx _ _ e2, hx _ _ e3]))
  clear HCR
  go_wp2_with fail
  · rename_i hh
    have hh2 : ¬ ((t3.toNat : Int) = (X : Int) % 256) := by simpa using hh
    go_ret2
    exact ⟨.inr ⟨HNB.out (fun h => hh2 (by have := h.2.2.2; omega)), _, rfl⟩, HW1.out⟩
  rotate_left
  · rename_i hh
    go_ret2
    exact ⟨.inr ⟨HNB.out (fun h => hh (by have := h.2.2.1; omega)), _, rfl⟩, HW1.out⟩
  · rename_i hh
    go_ret2
    exact ⟨.inr ⟨HNB.out (fun h => hh (by have := h.2.1; omega)), _, rfl⟩, HW1.out⟩
  · rename_i hh
    go_ret2
    exact ⟨.inr ⟨HNB.out (fun h => hh (by have := h.1; omega)), _, rfl⟩, HW1.out⟩
  have g3 : ((t3.toNat : Int) != (X : Int) % 256) = false := by assumption
  have g3' : (t3.toNat : Int) = (X : Int) % 256 := by simpa using g3
  have HCF := Lib.hid (HYB.out (by omega) (by omega) (by omega) (by omega))
  have hlb : 14 ≤ (body l).length ∧ (body l).length ≤ 140737488355328 := by rw [body_len]; omega
  have hM1 := HM.out.keeps (Keeps.of_below HW1.out)
  have hF := fd0 (c := c) (mem_body hM1) hlb.1
  have hA1 : Hid (∀ b, blockOf (some ⟨ba, oa, none⟩) b → b < w1.heap.size) := Lib.hid (mem_block hM1 (by omega))
  have hnA : Hid (¬ blockOf (some ⟨ba, oa, none⟩) w1.heap.size) := Lib.hid (fun h => by have := hA1.out _ h; omega)
  have hbw : Below w.heap.size w (w1.alloc (.cells #[.slice (some ⟨ba, oa, none⟩) (body l).length c, .int .i64 32, .bool false] 107)) := HW1.out.trans (((Below.refl _ _).alloc (Nat.le_refl _) _).mono HW1.out.size)
  have hzk : (w1.alloc (.cells #[.slice (some ⟨ba, oa, none⟩) (body l).length c, .int .i64 32, .bool false] 107)).heap.size = w1.heap.size + 1 := by simp
  have hzw := HW1.out.size
  generalize w1.alloc (.cells #[.slice (some ⟨ba, oa, none⟩) (body l).length c, .int .i64 32, .bool false] 107) = wk0 at *
  have HF0 := Lib.hid hF; have HB0 := Lib.hid hbw; have HZ0 := Lib.hid hzk
  clear hF hM1 hbw hzk y0 y1 y2 y3 u0 u1 u2 u3 g3 g3'
  refine (frTake_any (body l) (some ⟨ba, oa, none⟩) c w1.heap.size 32 16 false wk0 HF0.out hnA.out (by omega) (by omega) (by omega)).mono ?_
  rintro e wk1 ⟨rfl, hT, hO⟩
  have HF1 := Lib.hid (hT.in_ (by omega))
  have HB1 := Lib.hid (HB0.out.trans (hO.below (B := w.heap.size) (fun i _ hi => by omega) HB0.out.size))
  have HZ1 : Hid (wk1.heap.size ≥ w1.heap.size + 1) := Lib.hid (by have h1 := hO.size; have h2 := HZ0.out; omega)
  clear hT hO HF0 HB0
  go_wp2_with fail
  refine (frTake_any (body l) (some ⟨ba, oa, none⟩) c w1.heap.size (32 + 16) 16 false wk1 HF1.out hnA.out (by omega) (by omega) (by omega)).mono ?_
  rintro e wk2 ⟨rfl, hT, hO⟩
  have HF2 := Lib.hid (hT.in_ (by omega))
  have HB2 := Lib.hid (HB1.out.trans (hO.below (B := w.heap.size) (fun i _ hi => by omega) HB1.out.size))
  have HZ2 : Hid (wk2.heap.size ≥ w1.heap.size + 1) := Lib.hid (by have h1 := hO.size; have h2 := HZ1.out; omega)
  clear hT hO HF1 HB1
  go_wp2_with fail
  refine (frTake_any (body l) (some ⟨ba, oa, none⟩) c w1.heap.size (32 + 16 + 16) 16 false wk2 HF2.out hnA.out (by omega) (by omega) (by omega)).mono ?_
  rintro e wk3 ⟨rfl, hT, hO⟩
  have HF3 := Lib.hid (hT.in_ (by omega))
  have HB3 := Lib.hid (HB2.out.trans (hO.below (B := w.heap.size) (fun i _ hi => by omega) HB2.out.size))
  have HZ3 : Hid (wk3.heap.size ≥ w1.heap.size + 1) := Lib.hid (by have h1 := hO.size; have h2 := HZ2.out; omega)
  clear hT hO HF2 HB2
  go_wp2_with fail
  refine (frTake_any (body l) (some ⟨ba, oa, none⟩) c w1.heap.size (32 + 16 + 16 + 16) 16 false wk3 HF3.out hnA.out (by omega) (by omega) (by omega)).mono ?_
  rintro e wk4 ⟨rfl, hT, hO⟩
  have HF4 := Lib.hid (hT.in_ (by omega))
  have HB4 := Lib.hid (HB3.out.trans (hO.below (B := w.heap.size) (fun i _ hi => by omega) HB3.out.size))
  have HZ4 : Hid (wk4.heap.size ≥ w1.heap.size + 1) := Lib.hid (by have h1 := hO.size; have h2 := HZ3.out; omega)
  clear hT hO HF3 HB3
  go_wp2_with fail
  refine (frTake_any (body l) (some ⟨ba, oa, none⟩) c w1.heap.size (32 + 16 + 16 + 16 + 16) 16 false wk4 HF4.out hnA.out (by omega) (by omega) (by omega)).mono ?_
  rintro e wk5 ⟨rfl, hT, hO⟩
  have HF5 := Lib.hid (hT.in_ (by omega))
  have HB5 := Lib.hid (HB4.out.trans (hO.below (B := w.heap.size) (fun i _ hi => by omega) HB4.out.size))
  have HZ5 : Hid (wk5.heap.size ≥ w1.heap.size + 1) := Lib.hid (by have h1 := hO.size; have h2 := HZ4.out; omega)
  clear hT hO HF4 HB4
  obtain ⟨I0, hI0⟩ : ∃ n, n = tkv (body l) 32 16 := ⟨_, rfl⟩
  obtain ⟨I1, hI1⟩ : ∃ n, n = tkv (body l) (32 + 16) 16 := ⟨_, rfl⟩
  obtain ⟨I2, hI2⟩ : ∃ n, n = tkv (body l) (32 + 16 + 16) 16 := ⟨_, rfl⟩
  obtain ⟨R, hR⟩ : ∃ n, n = tkv (body l) (32 + 16 + 16 + 16) 16 := ⟨_, rfl⟩
  obtain ⟨C, hC⟩ : ∃ n, n = tkv (body l) (32 + 16 + 16 + 16 + 16) 16 := ⟨_, rfl⟩
  have q0 : shD (body l) 0 = (I0 : Int) := by rw [hI0]; rfl
  have q1 : shD (body l) 1 = (I1 : Int) := by rw [hI1]; rfl
  have q2 : shD (body l) 2 = (I2 : Int) := by rw [hI2]; rfl
  have q3 : shD (body l) 3 = (R : Int) := by rw [hR]; rfl
  have q4 : shD (body l) 4 = (C : Int) := by rw [hC]; rfl
  rw [← hI0, ← hI1, ← hI2, ← hR, ← hC]
  have hmx := fun W ts t => run_max4 W ts t (I0 : Int) (I1 : Int) (I2 : Int) (R : Int)
  obtain ⟨M, hM⟩ : ∃ M : Int, max (max (max (I0 : Int) I1) I2) R = M := ⟨_, rfl⟩
  rw [hM] at hmx
  have HI0 := Lib.hid hI0; have HI1 := Lib.hid hI1; have HI2 := Lib.hid hI2; have HR := Lib.hid hR; have HC := Lib.hid hC
  have Q0 := Lib.hid q0; have Q1 := Lib.hid q1; have Q2 := Lib.hid q2; have Q3 := Lib.hid q3; have Q4 := Lib.hid q4
  by_cases hsh : ShOk (shD (body l))
  case neg =>
    have HG : Hid (¬ GoodB l) := Lib.hid (fun h => hsh h.sh)
    have hno : ¬ (M ≤ 500 ∧ C ≤ 100 ∧ 1 ≤ R ∧ 1 ≤ C) := fun ⟨h1, h2, h3, h4⟩ => by
      rw [← hM] at h1
      simp only [Int.max_le] at h1
      exact hsh ⟨by rw [q0]; omega, by rw [q1]; omega, by rw [q2]; omega, by rw [q3]; omega, by rw [q4]; omega⟩
    clear hsh hI0 hI1 hI2 hR hC q0 q1 q2 q3 q4 hM
    by_cases a1 : M ≤ 500
    case neg =>
      have d1 : decide (500 < M) = true := decide_eq_true (by omega)
      clear hno a1
      go_wp2_with fail
      go_ret2
      exact ⟨.inr ⟨HG.out, _, rfl⟩, HB5.out⟩
    have d1 : decide (500 < M) = false := decide_eq_false (by omega)
    by_cases a2 : C ≤ 100
    case neg =>
      have d2 : decide ((100 : Int) < (C : Int)) = true := decide_eq_true (by omega)
      clear hno a1 a2
      go_wp2_with fail
      go_ret2
      exact ⟨.inr ⟨HG.out, _, rfl⟩, HB5.out⟩
    have d2 : decide ((100 : Int) < (C : Int)) = false := decide_eq_false (by omega)
    by_cases a3 : 1 ≤ R
    case neg =>
      have d3 : decide ((R : Int) < 1) = true := decide_eq_true (by omega)
      clear hno a1 a2 a3
      go_wp2_with fail
      go_ret2
      exact ⟨.inr ⟨HG.out, _, rfl⟩, HB5.out⟩
    have d3 : decide ((R : Int) < 1) = false := decide_eq_false (by omega)
    have d4 : decide ((C : Int) < 1) = true := decide_eq_true (by omega)
    clear hno a1 a2 a3
    go_wp2_with fail
    go_ret2
    exact ⟨.inr ⟨HG.out, _, rfl⟩, HB5.out⟩
  have g0 := hsh.s0; have g1 := hsh.s1; have g2 := hsh.s2; have g3 := hsh.s3; have g4 := hsh.s4
  rw [q0] at g0; rw [q1] at g1; rw [q2] at g2; rw [q3] at g3; rw [q4] at g4
  have hMb : M ≤ 500 := by rw [← hM]; simp only [Int.max_le]; omega
  have HSH := Lib.hid hsh
  clear hsh hI0 hI1 hI2 hR hC q0 q1 q2 q3 q4 hM
  have d1 : decide (500 < M) = false := decide_eq_false (by omega)
  have d2 : decide ((100 : Int) < (C : Int)) = false := decide_eq_false (by omega)
  have d3 : decide ((R : Int) < 1) = false := decide_eq_false (by omega)
  have d4 : decide ((C : Int) < 1) = false := decide_eq_false (by omega)
  obtain ⟨P, hP⟩ : ∃ P, P = R * C := ⟨_, rfl⟩
  have hPb : P ≤ 50000 := by rw [hP]; exact Nat.mul_le_mul (show R ≤ 500 by omega) (show C ≤ 100 by omega)
  obtain ⟨Q, hQ⟩ : ∃ Q, Q = 16 * P := ⟨_, rfl⟩
  obtain ⟨E, hE⟩ : ∃ E, E = 8 * (body l).length := ⟨_, rfl⟩
  have e1 : IntKind.i64.wrap ((R : Int) * (C : Int)) = (P : Int) := by rw [hP, ← Int.natCast_mul, ← hP, IntKind.wrap_i64]; omega
  have e2 : IntKind.i64.wrap ((P : Int) * 16) = (Q : Int) := by rw [IntKind.wrap_i64]; omega
  have e3 : IntKind.i64.wrap (8 * ((body l).length : Int)) = (E : Int) := by rw [IntKind.wrap_i64]; omega
  have HQ : Hid (Q = 16 * (R * C)) := Lib.hid (by rw [hQ, hP])
  have HE := Lib.hid hE
  clear hQ hP hE
  by_cases hfit : Q ≤ E
  case neg =>
    have HG : Hid (¬ GoodB l) := Lib.hid (fun h => by
      have h1 := h.fits
      have h2 := bitsD_ge (body l)
      have h3 := HQ.out; have h4 := HE.out
      have h5 : R = tkv (body l) 80 16 := HR.out
      have h6 : C = tkv (body l) 96 16 := HC.out
      rw [← h5, ← h6, ← h3] at h2
      rw [body_len] at h4
      omega)
    have d5 : decide (E < Q) = true := decide_eq_true (by omega)
    clear hfit
    go_wp2_with fail
    go_ret2
    exact ⟨.inr ⟨HG.out, _, rfl⟩, HB5.out⟩
  have d5 : decide (E < Q) = false := decide_eq_false (by omega)
  have HFT := Lib.hid hfit
  clear hfit
  -- LOOPS
  go_upto_block 0 with (fail)
  have gX := heap_alloc_new wk5 (.cells #[.int .i64 (I0 : Nat), .int .i64 (R : Nat), .slice none 0 0, .slice none 0 0, .slice none 0 0] 87)
  have hbx : Below wk5.heap.size wk5 (wk5.alloc (.cells #[.int .i64 (I0 : Nat), .int .i64 (R : Nat), .slice none 0 0, .slice none 0 0, .slice none 0 0] 87)) := (Below.refl _ _).alloc (Nat.le_refl _) _
  have hzx : (wk5.alloc (.cells #[.int .i64 (I0 : Nat), .int .i64 (R : Nat), .slice none 0 0, .slice none 0 0, .slice none 0 0] 87)).heap.size = wk5.heap.size + 1 := by simp
  have hfx := HF5.out.below hbx
  have hbw := HB5.out.trans (hbx.mono HB5.out.size)
  generalize wk5.alloc (.cells #[.int .i64 (I0 : Nat), .int .i64 (R : Nat), .slice none 0 0, .slice none 0 0, .slice none 0 0] 87) = wx at *
  have HX0 : Hid (wx.heap[wk5.heap.size]? = some (chipO I0 R none 0 0 none 0 0 none 0 0)) := Lib.hid gX
  have HF6 := Lib.hid hfx; have HB6 := Lib.hid hbw
  have hz5 := HZ5.out
  have hz51 : wk5.heap.size + 1 = wx.heap.size := hzx.symm
  have hzw5 := HB5.out.size
  clear gX hbx hzx hfx hbw hmx d1 d2 d3 d4 d5 e1 e2 e3 HF5 HB5 HZ0 HZ1 HZ2 HZ3 HZ4 HQ HFT HNB HYB
  obtain ⟨Ns, hNs⟩ : ∃ Ns : Nat → Nat, ∀ i, (decH (body l)).src i = (Ns i : Int) := ⟨fun i => ((decH (body l)).src i).toNat, fun i => (Int.toNat_of_nonneg (by have := (decH (body l)).src_le HSH.out i; omega)).symm⟩
  have hNb : ∀ i, 2 ≤ (Ns i : Int) ∧ (Ns i : Int) ≤ 1002 := fun i => by rw [← hNs]; have := (decH (body l)).src_le HSH.out i; omega
  obtain ⟨Wd, hWd⟩ : ∃ Wd : Nat → Nat, ∀ i, wid (Ns i : Int) = (Wd i : Int) := ⟨fun i => (wid (Ns i : Int)).toNat, fun i => (Int.toNat_of_nonneg (by have h := hNb i; have := wid_le (n := (Ns i : Int)) (by omega) (by omega); omega)).symm⟩
  have hWb : ∀ i, 1 ≤ Wd i ∧ Wd i ≤ 16 := fun i => by
    have h := hNb i
    have h1 := wid_le (n := (Ns i : Int)) (by omega) (by omega)
    have h2 := wid_pos (n := (Ns i : Int)) (by omega) (by omega)
    have h3 := hWd i
    omega
  have hN0 : (Ns 0 : Int) = 2 + (I0 : Int) + (I2 : Int) := by rw [← hNs]; show 2 + shD (body l) 0 + shD (body l) 2 = _; rw [Q0.out, Q2.out]
  have hN1 : ∀ i, (Ns (i + 1) : Int) = 2 + (R : Int) := fun i => by rw [← hNs]; show 2 + shD (body l) 3 = _; rw [Q3.out]
  have HNS := Lib.hid hNs; have HNB := Lib.hid hNb; have HWD := Lib.hid hWd; have HWB := Lib.hid hWb; have HN0 := Lib.hid hN0; have HN1 := Lib.hid hN1
  have hWs : ∀ i k j, Wd i = (decH (body l)).wf (.sel i k j) := fun i k j => by show _ = (wid ((decH (body l)).src i)).toNat; rw [hNs, hWd]; omega
  have hWr : ∀ k, Wd 1 = (decH (body l)).wf (.rsel k) := fun k => by show _ = (wid ((decH (body l)).src 1)).toNat; rw [hNs, hWd]; omega
  have hWo : ∀ k, Wd 1 = (decH (body l)).wf (.out k) := fun k => by show _ = (wid ((decH (body l)).src 1)).toNat; rw [hNs, hWd]; omega
  have HWS := Lib.hid hWs; have HWR := Lib.hid hWr; have HWO := Lib.hid hWo
  clear hNs hNb hWd hWb hN0 hN1 hWs hWr hWo
  have hlE : 112 ≤ 8 * (body l).length := by omega
  have HOV0 : Hid (Ov (body l) 112 (.bits 0 0) false) := Lib.hid ⟨by rw [bef_col0]; rfl, ⟨fun _ => ⟨hlE, fun y hy => by rw [bef_col0] at hy; cases hy⟩, fun _ => rfl⟩⟩
  go_wp2_with fail
  go_loopw [14, 123] (fun vn vi wr => ∃ (i q : Nat) (o : Bool) (AC : Option Addr) (cC : Nat) (CA : Nat → Option Addr) (cc : Nat → Nat), i ≤ C ∧ vi = .int .i64 i ∧ vn = .int .i64 (Ns i : Nat) ∧ Hid (Fd (body l) (some ⟨ba, oa, none⟩) c w1.heap.size wr q o) ∧ Hid (Ov (body l) q (.bits i 0) o) ∧ Hid (FCols wr wx.heap.size (body l) AC i cC R CA cc) ∧ Hid (wr.heap[wk5.heap.size]? = some (chipO I0 R AC i cC none 0 0 none 0 0)) ∧ Hid (Only (fun b => b = w1.heap.size ∨ b = wk5.heap.size ∨ wx.heap.size ≤ b) wx wr)) (fun _ vi _ => C - (intOf vi).toNat)
  case atStart => exact ⟨0, 112, false, none, 0, fun _ => none, fun _ => 0, by omega, rfl, congrArg (Value.int .i64) (by have := HN0.out; omega), HF6, HOV0, Lib.hid (FCols.nil _ _), HX0, Lib.hid (Only.refl _ _)⟩
  case round =>
    obtain ⟨i, q, o, AC, cC, CA, cc, hi, rfl, rfl, HF, HOV, HCO, HX, HO⟩ := hrel
    obtain ⟨wo, hwo⟩ : ∃ x, x = wr := ⟨_, rfl⟩
    subst hwo
    by_cases hlt : i < C
    · -- QB cols
      have hmk := fun W => mk_fcol R (by omega) W
      have hzo := HO.out.size
      go_wp2_with fail
      have hA0 := fcol_made wo (body l) i R
      have hbd : Below wo.heap.size wo (wo.alloc (.cells (madeCells #[.int .i64 0, .int .i64 0, .int .i64 0, .int .i64 0, .int .i64 0] (R * 5)) 92)) := (Below.refl _ _).alloc (Nat.le_refl _) _
      have hzd : (wo.alloc (.cells (madeCells #[.int .i64 0, .int .i64 0, .int .i64 0, .int .i64 0, .int .i64 0] (R * 5)) 92)).heap.size = wo.heap.size + 1 := by simp
      have hfd := HF.out.below hbd
      generalize wo.alloc (.cells (madeCells #[.int .i64 0, .int .i64 0, .int .i64 0, .int .i64 0, .int .i64 0] (R * 5)) 92) = wd at *
      have HFd := Lib.hid hfd; have HA0 := Lib.hid hA0; have HBD' := Lib.hid hbd; have HZD := Lib.hid hzd
      clear hmk hfd hA0 hbd hzd
      go_loopw [129] (fun vk wr => ∃ (k q1 : Nat) (o1 : Bool), k ≤ R ∧ vk = .int .i64 k ∧ Hid (Fd (body l) (some ⟨ba, oa, none⟩) c w1.heap.size wr q1 o1) ∧ Hid (Ov (body l) q1 (.bits i k) o1) ∧ Hid (Arr wr wo.heap.size 92 (R * 5) (colA (body l) i (k * 5))) ∧ Hid (Only (fun b => b = w1.heap.size ∨ b = wo.heap.size) wd wr)) (fun vk _ => R - (intOf vk).toNat)
      case atStart => exact ⟨0, q, o, by omega, rfl, HFd, HOV, HA0, Lib.hid (Only.refl _ _)⟩
      case round =>
        obtain ⟨k, q1, o1, hk, rfl, HFk, HOVk, HAk, HOk⟩ := hrel
        obtain ⟨wk, hwk⟩ : ∃ x, x = wr := ⟨_, rfl⟩
        subst hwk
        by_cases hlk : k < R
        · go_wp2_with fail
          refine (frTake_any (body l) (some ⟨ba, oa, none⟩) c w1.heap.size q1 16 o1 wk HFk.out hnA.out (by omega) (by omega) (by omega)).mono ?_
          rintro e wt ⟨rfl, hT, hO⟩
          have hov := HOVk.out.take (y := .sel i k 0) (n := 16) rfl rfl (bef_sel0 _ i k)
          have hnum : tkv (body l) q1 16 = fldN (body l) i (k * 5) := HOVk.out.num.trans (fldN_bits _ _ _).symm
          have hat := HAk.out.only hO (by omega)
          have hcx := hat.cell (k := k * 5) (by omega)
          have hcz := hat.thaw (k * 5)
          have hot := HOk.out.then_ hO (fun _ _ h => .inl h)
          obtain ⟨v, hv⟩ : ∃ v, v = tkv (body l) q1 16 := ⟨_, rfl⟩
          obtain ⟨o2, ho2⟩ : ∃ o2, o2 = (o1 || decide (8 * (body l).length < q1 + 16)) := ⟨_, rfl⟩
          rw [← ho2] at hov hT
          rw [← hv] at hnum ⊢
          have HNUM := Lib.hid hnum; have HOVt := Lib.hid hov; have HFt := Lib.hid hT; have HAt := Lib.hid hat; have HOt := Lib.hid hot
          clear hnum hov hT hO hat hot hv ho2
          go_wp2_with fail
          have hOs : Only (fun b => b = wo.heap.size) wt (wt.setCell ⟨wo.heap.size, k * 5, none⟩ (.int .i64 v)) := Only.setCell (p := ⟨wo.heap.size, k * 5, none⟩) (Only.refl (fun b => b = wo.heap.size) wt) (fun _ => rfl) _
          have hzo2 := hz51
          have HFe := Lib.hid (HFt.out.only hOs (by omega) (fun b hb e => by have := hA1.out b hb; have e : b = wo.heap.size := e; omega))
          have HAe := Lib.hid (HAt.out.set (colA_next (body l) i (k * 5) (R * 5) HNUM.out).1 (colA_next (body l) i (k * 5) (R * 5) HNUM.out).2)
          have HOe := Lib.hid (HOt.out.then_ hOs (fun _ _ h => .inr h))
          clear hOs hcx hcz HNUM HFt HAt HOt HFk HAk HOk HOVk hzo2
          generalize wt.setCell ⟨wo.heap.size, k * 5, none⟩ (.int .i64 v) = we at *
          go_loopw [138] (fun vj wr => ∃ (j q2 : Nat) (o3 : Bool), j ≤ 4 ∧ vj = .int .i64 j ∧ Hid (Fd (body l) (some ⟨ba, oa, none⟩) c w1.heap.size wr q2 o3) ∧ Hid (Ov (body l) q2 (nxt i k j) o3) ∧ Hid (Arr wr wo.heap.size 92 (R * 5) (colA (body l) i (k * 5 + 1 + j))) ∧ Hid (Only (fun b => b = w1.heap.size ∨ b = wo.heap.size) wd wr)) (fun vj _ => 4 - (intOf vj).toNat)
          case atStart => exact ⟨0, q1 + 16, o2, by omega, rfl, HFe, HOVt, HAe, HOe⟩
          case round =>
            clear HFe HOVt HAe HOe
            obtain ⟨j, q2, o3, hj, rfl, HFj, HOVj, HAj, HOj⟩ := hrel
            obtain ⟨wj, hwj⟩ : ∃ x, x = wr := ⟨_, rfl⟩
            subst hwj
            by_cases hlj : j < 4
            · go_wp2_with fail
              refine wp_region_z (fun w' => True) [0, 1, 2, 3, 4, 6, 7] [] (by kernel_rfl) (by kernel_rfl) (by kernel_rfl) (by rfl) (fun _ _ _ _ e h => ⟨e.symm.trans h.1, h.2⟩) trivial ?_
              iterate 7
                refine Heads.step (v := ?_) rfl (by first | (go_simp; done) | rfl) (fun W hW => ?_) ?_
                rotate_left
                · (go_simp; try with_reducible rfl)
              refine AnyZ.one (i := 5) (by kernel_rfl) rfl (fun K hK => ?_)
              go_simp
              have hnb := HNB.out i; have hwb := HWB.out i
              refine (frPick_any (body l) (some ⟨ba, oa, none⟩) c w1.heap.size q2 (Wd i) (Ns i : Nat) o3 wj.drew (HFj.out.below (Below.refl _ _).drew) hnA.out (by omega) hnb.1 hnb.2 (HWD.out i) hwb.1 hwb.2).mono ?_
              rintro e wt2 ⟨rfl, hT, hO⟩
              have hO := (Only.refl (fun b => b = w1.heap.size) wj).drew.then_ hO (fun _ _ h => h)
              have hov := (show Ov (body l) q2 (.sel i k j) o3 by have h := HOVj.out; unfold nxt at h; rwa [if_pos hlj] at h).pick (y := nxt i k (j + 1)) (HWS.out i k j) (show (decH (body l)).srcI (.sel i k j) = some (Ns i : Int) by show some ((decH (body l)).src i) = _; rw [HNS.out]) (bef_nxt _ i k hlj)
              have hnum : tkv (body l) q2 (Wd i) = fldN (body l) i (k * 5 + 1 + j) := by
                rw [fldN_sel _ _ _ hlj, HWS.out i k j]
                exact (show Ov (body l) q2 (.sel i k j) o3 by have h := HOVj.out; unfold nxt at h; rwa [if_pos hlj] at h).num
              have hat := HAj.out.only hO (by omega)
              have hcx := hat.cell (k := k * 5 + 1 + j) (by omega)
              have hcz := hat.thaw (k * 5 + 1 + j)
              have hot := HOj.out.then_ hO (fun _ _ h => .inl h)
              obtain ⟨v2, hv2⟩ : ∃ v, v = tkv (body l) q2 (Wd i) := ⟨_, rfl⟩
              obtain ⟨o4, ho4⟩ : ∃ o, o = pickO (body l) q2 (Wd i) (Ns i : Nat) o3 := ⟨_, rfl⟩
              obtain ⟨q3, hq3⟩ : ∃ q, q = q2 + Wd i := ⟨_, rfl⟩
              rw [← ho4, ← hq3] at hov hT
              rw [← hv2] at hnum ⊢
              have HNUM2 := Lib.hid hnum; have HOV2 := Lib.hid hov; have HF2 := Lib.hid hT; have HA2 := Lib.hid hat; have HO2 := Lib.hid hot
              clear hnum hov hT hO hat hot hv2 ho4 hq3 hnb hwb
              refine hK _ _ (fun _ => trivial) ?_
              clear hK
              refine AnyZ.mid [8] [] 1 rfl (by kernel_rfl) (by kernel_rfl) (by kernel_rfl) (fun _ _ _ _ e h => ⟨e.symm.trans h.1, h.2⟩) trivial ?_
              iterate 1
                refine Heads.step (v := ?_) rfl (by first | (go_simp; done) | rfl) (fun W hW => ?_) ?_
                rotate_left
                · (go_simp; try with_reducible rfl)
              refine AnyZ.one (i := 9) (by kernel_rfl) rfl (fun K hK => ?_)
              go_simp
              refine hK _ _ (fun _ => trivial) (AnyZ.done (by kernel_rfl) ?_)
              clear hK
              go_simp
              have hOs : Only (fun b => b = wo.heap.size) wt2 (wt2.setCell ⟨wo.heap.size, k * 5 + 1 + j, none⟩ (.int .i64 v2)) := Only.setCell (p := ⟨wo.heap.size, k * 5 + 1 + j, none⟩) (Only.refl (fun b => b = wo.heap.size) wt2) (fun _ => rfl) _
              have hzo2 := hz51
              have HFe := Lib.hid (HF2.out.only hOs (by omega) (fun b hb e => by have := hA1.out b hb; have e : b = wo.heap.size := e; omega))
              have HAe := Lib.hid (HA2.out.set (colA_next (body l) i (k * 5 + 1 + j) (R * 5) HNUM2.out).1 (colA_next (body l) i (k * 5 + 1 + j) (R * 5) HNUM2.out).2)
              have HOe := Lib.hid (HO2.out.then_ hOs (fun _ _ h => .inr h))
              clear hOs hcx hcz HNUM2 HF2 HA2 HO2 HFj HAj HOj HOVj hzo2
              go_wp2_with fail
              go_roundw
              case rel => exact ⟨j + 1, q3, o4, by omega, by go_num, HFe, HOV2, HAe, HOe⟩
              case measure => simp [intOf]; omega
            · obtain rfl : j = 4 := by omega
              rw [show ((4 : Nat) : Int) = 4 from rfl]
              go_wp2_with fail
              go_roundw
              case rel => exact ⟨k + 1, q2, o3, by omega, by go_num, HFj, HOVj, by rw [show (k + 1) * 5 = k * 5 + 1 + 4 by omega]; exact HAj, HOj⟩
              case measure => simp [intOf]; omega
        · obtain rfl : R = k := by omega
          have hXc : wk.heap[wk5.heap.size]? = some (chipO I0 R AC i cC none 0 0 none 0 0) := (HOk.out.block _ (by have := HBD'.out.size; omega) (by omega)).trans ((HBD'.out.block _ (by omega)).trans HX.out)
          have HF2 := HFk; have HOV2 := HOVk
          have hok1 : Only (fun b => b = w1.heap.size) wo wk := ((Only.refl _ wo).call HBD'.out).then_ HOk.out (fun b hb h => by rcases h with h | h; exact h; omega)
          have HCk := Lib.hid (HCO.out.only hok1 (fun b hb _ => .inl (by have e : b = w1.heap.size := hb; omega)))
          have hrw := colA_row (base := wx.heap.size) HAk.out hzo
          have HOa := Lib.hid (HO.out.then_ hok1 (fun b _ hb => .inl hb))
          have hbl : Below wk.heap.size wk (wk.alloc (.cells #[.slice (some ⟨wo.heap.size, 0, none⟩) R R] 90)) := (Below.refl _ _).alloc (Nat.le_refl _) _
          have HC1 := Lib.hid (HCk.out.below hbl)
          have HK1 := Lib.hid (hrw.below hbl)
          have hXa := heap_below hbl hXc
          have hzk : wx.heap.size ≤ wk.heap.size := HOa.out.size
          have hC100 : i + 1 ≤ 100 := by omega
          have HFa := Lib.hid (HFk.out.below hbl)
          have HOb := Lib.hid (HOa.out.call hbl)
          have x2 := (chip_cell hXc).2.2.1
          clear hok1 hbl hrw HOa HCk HFk HAk HOk
          go_wp2_with (at_builtin; refine wp_append rfl (.tmp 156) (.tmp 158) _ rfl elFcol wx.heap.size AC i cC _ rfl HC1.out.own _ 1 1 [.slice (some ⟨wo.heap.size, 0, none⟩) R R] rfl (src_new _ _ _ rfl) (by omega) (sz_alloc hzk) ?_; intro A' c' w' ho hk' hb'; have hX2 := (hk'.block _ (Array.getElem?_eq_some_iff.1 hXa).1 (own_type (e' := 87) HC1.out.own (by decide) _ _ hXa)).trans hXa; have y2 := (chip_cell hX2).2.2.1; have z2 := chip_thaw hX2 2)
          have hOs : Only (fun b => b = wk5.heap.size) w' (w'.setCell ⟨wk5.heap.size, 2, none⟩ (.slice A' (i + 1) c')) := Only.setCell (p := ⟨wk5.heap.size, 2, none⟩) (Only.refl (fun b => b = wk5.heap.size) w') (fun _ => rfl) _
          have hba := fun b => own_base HC1.out.own b
          have HC2 := Lib.hid ((HC1.out.push HK1.out ho hk').only hOs (fun b hb _ => .inl (by have e : b = wk5.heap.size := hb; omega)))
          have HX2 : Hid ((w'.setCell ⟨wk5.heap.size, 2, none⟩ (.slice A' (i + 1) c')).heap[wk5.heap.size]? = some (chipO I0 R A' (i + 1) c' none 0 0 none 0 0)) := Lib.hid (chip_set2 hX2)
          have HO3 := Lib.hid ((HOb.out.then_ hk' (fun b _ hb => .inr (.inr (hba b hb)))).then_ hOs (fun b _ hb => .inr (.inl hb)))
          have HF3 := Lib.hid ((HFa.out.only hk' (fun h => by have := hba _ h; omega) (fun b hb h => by have h1 := hA1.out b hb; have := hba b h; omega)).only hOs (by omega) (fun b hb e => by have := hA1.out b hb; have e : b = wk5.heap.size := e; omega))
          have HOV3 : Hid (Ov (body l) q1 (.bits (i + 1) 0) o1) := Lib.hid (HOVk.out.same (by rw [bef_col0]; show (decH (body l)).before (.bits i R) = _; rw [show R = (decH (body l)).rows i from HR.out]; rfl))
          clear ho hk' hb' hX2 y2 z2 hOs hba x2 hXa hXc HC1 HK1 HFa HOb HOVk
          go_roundw
          case rel => exact ⟨i + 1, q1, o1, A', c', _, _, by omega, by go_num, congrArg (Value.int .i64) (by have := HN1.out i; omega), HF3, HOV3, HC2, HX2, HO3⟩
          case measure => simp [intOf]; omega
      -- QE cols
    · obtain rfl : C = i := by omega
      obtain ⟨w8, hw8⟩ : ∃ x, x = wo := ⟨_, rfl⟩
      subst hw8
      have hz8 : wx.heap.size ≤ w8.heap.size := HO.out.size
      obtain ⟨N1, hN1⟩ : ∃ N1, N1 = Ns 1 := ⟨_, rfl⟩
      obtain ⟨m, hm⟩ : ∃ m, C = m + 1 := ⟨C - 1, by omega⟩
      have hNC : (Ns C : Int) = (N1 : Int) := by rw [hN1, hm, HN1.out m, HN1.out 0]
      have hNC2 : Ns C = N1 := by omega
      rw [hNC2]
      have HNB1 : Hid (2 ≤ (N1 : Int) ∧ (N1 : Int) ≤ 1002) := Lib.hid (by rw [hN1]; exact HNB.out 1)
      obtain ⟨W1, hW1⟩ : ∃ W1, W1 = Wd 1 := ⟨_, rfl⟩
      have HWD1 : Hid (wid (N1 : Int) = (W1 : Int)) := Lib.hid (by rw [hN1, hW1]; exact HWD.out 1)
      have HWB1 : Hid (1 ≤ W1 ∧ W1 ≤ 16) := Lib.hid (by rw [hW1]; exact HWB.out 1)
      have HWR1 : Hid (∀ k, W1 = (decH (body l)).wf (.rsel k)) := Lib.hid (by rw [hW1]; exact HWR.out)
      have HWO1 : Hid (∀ k, W1 = (decH (body l)).wf (.out k)) := Lib.hid (by rw [hW1]; exact HWO.out)
      have HSR : Hid (∀ k, (decH (body l)).srcI (.rsel k) = some (N1 : Int)) := Lib.hid (fun k => by show some ((decH (body l)).src 1) = _; rw [HNS.out, hN1])
      have HSO : Hid (∀ k, (decH (body l)).srcI (.out k) = some (N1 : Int)) := Lib.hid (fun k => by show some ((decH (body l)).src 1) = _; rw [HNS.out, hN1])
      have HOV8 : Hid (Ov (body l) q (.init 0) o) := Lib.hid (HOV.out.same (by rw [bef_col0, bef_init0]; show (decH (body l)).allF C = (decH (body l)).allF (tkv (body l) 96 16); rw [show tkv (body l) 96 16 = C from HC.out.symm]))
      clear hNC hNC2 hN1 hW1 hm HOV HNS HNB HWD HWB HWS HWR HWO
      go_wp2_with fail
      go_loopw [166] (fun vk wr => ∃ (k q1 : Nat) (o1 : Bool) (AR : Option Addr) (cR : Nat), k ≤ I2 ∧ vk = .int .i64 k ∧ Hid (Fd (body l) (some ⟨ba, oa, none⟩) c w1.heap.size wr q1 o1) ∧ Hid (Ov (body l) q1 (.init k) o1) ∧ Hid (wr.ownsRow w8.heap.size 89 2 (.slice AR k cR) k (flatF 2 (regV (body l)) k)) ∧ Hid (wr.heap[wk5.heap.size]? = some (chipO I0 R AC C cC AR k cR none 0 0)) ∧ Hid (Only (fun b => b = w1.heap.size ∨ b = wk5.heap.size ∨ w8.heap.size ≤ b) w8 wr)) (fun vk _ => I2 - (intOf vk).toNat)
      case atStart => exact ⟨0, q, o, none, 0, by omega, rfl, HF, HOV8, Lib.hid (World.ownsRow_nil _ _ _ _), HX, Lib.hid (Only.refl _ _)⟩
      case round =>
        clear HOV8
        obtain ⟨k, q1, o1, AR, cR, hk, rfl, HFr, HOVr, HRr, HXr, HOr⟩ := hrel
        obtain ⟨wr0, hwr0⟩ : ∃ x, x = wr := ⟨_, rfl⟩
        subst hwr0
        have hzr := HOr.out.size
        by_cases hlk : k < I2
        · -- QB regs
          go_wp2_with fail
          refine (frTake_any (body l) (some ⟨ba, oa, none⟩) c w1.heap.size q1 1 o1 wr0 HFr.out hnA.out (by omega) (by omega) (by omega)).mono ?_
          rintro e wt ⟨rfl, hT, hO⟩
          have hov := HOVr.out.take (y := .rsel k) (n := 1) rfl rfl (bef_init _ k)
          have hnum : tkv (body l) q1 1 = numD (body l) (.init k) := HOVr.out.num
          have hxt := (hO.block _ (Array.getElem?_eq_some_iff.1 HXr.out).1 (by omega)).trans HXr.out
          have hrt := own_only HRr.out hO (fun b hb e => by have := own_base HRr.out b hb; have e : b = w1.heap.size := e; omega)
          have hot := HOr.out.then_ hO (fun _ _ h => .inl h)
          obtain ⟨v, hv⟩ : ∃ v, v = tkv (body l) q1 1 := ⟨_, rfl⟩
          obtain ⟨o2, ho2⟩ : ∃ o2, o2 = (o1 || decide (8 * (body l).length < q1 + 1)) := ⟨_, rfl⟩
          rw [← ho2] at hov hT
          rw [← hv] at hnum ⊢
          have HNUM := Lib.hid hnum; have HOVt := Lib.hid hov; have HFt := Lib.hid hT; have HXt := Lib.hid hxt; have HRt := Lib.hid hrt; have HOt := Lib.hid hot
          clear hnum hov hT hO hxt hrt hot hv ho2 HFr HOVr HXr HRr HOr
          go_wp2_with fail
          have x3 := (chip_cell HXt.out).2.2.2.1
          refine wp_region_z (fun w' => w'.cell? ⟨wk5.heap.size, 3, none⟩ = some (.slice AR k cR)) [0, 1, 2, 3, 4, 5, 6, 7] [14] (by kernel_rfl) (by kernel_rfl) (by kernel_rfl) (by rfl) (fun _ _ _ _ e h => ⟨e.symm.trans h.1, h.2⟩) x3 ?_
          iterate 8
            refine Heads.step (v := ?_) rfl (by first | (go_simp; done) | rfl) (fun W hW => ?_) ?_
            rotate_left
            · (have t0 := hW; go_simp; try with_reducible rfl)
          refine AnyZ.one (i := 8) (by kernel_rfl) rfl (fun K hK => ?_)
          go_simp
          refine (frPick_any (body l) (some ⟨ba, oa, none⟩) c w1.heap.size (q1 + 1) W1 (N1 : Nat) o2 wt.drew (HFt.out.below (Below.refl _ _).drew) hnA.out (by omega) HNB1.out.1 HNB1.out.2 HWD1.out HWB1.out.1 HWB1.out.2).mono ?_
          rintro e wt2 ⟨rfl, hT, hO⟩
          have hO := (Only.refl (fun b => b = w1.heap.size) wt).drew.then_ hO (fun _ _ h => h)
          have hov := HOVt.out.pick (y := .init (k + 1)) (HWR1.out k) (HSR.out k) (bef_rsel _ k)
          have hnum2 : tkv (body l) (q1 + 1) W1 = numD (body l) (.rsel k) := by rw [HWR1.out k]; exact HOVt.out.num
          have hxt := (hO.block _ (Array.getElem?_eq_some_iff.1 HXt.out).1 (by omega)).trans HXt.out
          have hrt := own_only HRt.out hO (fun b hb e => by have := own_base HRt.out b hb; have e : b = w1.heap.size := e; omega)
          have hot := HOt.out.then_ hO (fun _ _ h => .inl h)
          obtain ⟨v2, hv2⟩ : ∃ v, v = tkv (body l) (q1 + 1) W1 := ⟨_, rfl⟩
          obtain ⟨o3, ho3⟩ : ∃ o3, o3 = pickO (body l) (q1 + 1) W1 (N1 : Nat) o2 := ⟨_, rfl⟩
          rw [← ho3] at hov hT
          rw [← hv2] at hnum2 ⊢
          replace x3 := (chip_cell hxt).2.2.2.1
          have HNUM2 := Lib.hid hnum2; have HOV2 := Lib.hid hov; have HF2 := Lib.hid hT; have HX2 := Lib.hid hxt; have HR2 := Lib.hid hrt; have HO2 := Lib.hid hot
          have hz2 : w8.heap.size ≤ wt2.heap.size := hot.size
          clear hnum2 hov hT hO hxt hrt hot hv2 ho3 HFt HOVt HXt HRt HOt
          refine hK _ _ (fun _ => x3) ?_
          clear hK
          refine AnyZ.mid [9] [14] 5 rfl (by kernel_rfl) (by kernel_rfl) (by kernel_rfl) (fun _ _ _ _ e h => ⟨e.symm.trans h.1, h.2⟩) x3 ?_
          iterate 1
            refine Heads.step (v := ?_) rfl (by first | (go_simp; done) | rfl) (fun W hW => ?_) ?_
            rotate_left
            · (have t0 := hW; go_simp; try with_reducible rfl)
          refine AnyZ.one (i := 10) (by kernel_rfl) rfl (fun K hK => ?_)
          go_simp
          obtain ⟨β, hβ⟩ : ∃ β : Bool, β = ((v : Int) == 1) := ⟨_, rfl⟩
          rw [← hβ]
          have HBT : Hid (β = (numD (body l) (.init k) == 1)) := Lib.hid (by rw [hβ, HNUM.out, beq_cast])
          clear hβ
          have hbl : Below wt2.heap.size wt2 (wt2.alloc (.cells #[.bool β, .int .i64 v2] 89)) := (Below.refl _ _).alloc (Nat.le_refl _) _
          obtain ⟨_, _, hsc⟩ := src_news wt2 #[.bool β, .int .i64 v2] 89 2 1 rfl (by intro u hu; simp at hu; rcases hu with rfl | rfl <;> rfl)
          obtain ⟨ad, hae, hsc⟩ := hsc (by omega)
          injection hae with hae; subst hae
          have hx3 := heap_below hbl HX2.out
          replace x3 := (chip_cell hx3).2.2.2.1
          have HX3 := Lib.hid hx3; have HF3 := Lib.hid (HF2.out.below hbl); have HR3 := Lib.hid (own_below HR2.out hbl); have HO3 := Lib.hid (HO2.out.call hbl)
          have hz3 : w8.heap.size ≤ (wt2.alloc (.cells #[.bool β, .int .i64 v2] 89)).heap.size := Nat.le_trans hz2 hbl.size
          clear hbl hx3 HX2 HF2 HR2 HO2
          generalize wt2.alloc (.cells #[.bool β, .int .i64 v2] 89) = w3 at *
          refine hK _ _ (fun _ => x3) ?_
          clear hK
          obtain ⟨A', c', w4, hap, hown, hon⟩ := run_append_s elFreg 85 HR3.out ⟨wt2.heap.size, 0, none⟩ 1 [.bool β, .int .i64 v2] rfl hsc (by intro u hu; simp at hu; rcases hu with rfl | rfl <;> rfl) (by omega) hz3
          have hge : ∀ b, blockOf AR b → w8.heap.size ≤ b := own_base HR3.out
          have hX4 := (hon.block _ (Array.getElem?_eq_some_iff.1 HX3.out).1 (fun h => by have := hge _ h; omega)).trans HX3.out
          have HF4 := Lib.hid (HF3.out.only hon (fun h => by have := hge _ h; omega) (fun b hb h => by have h1 := hA1.out b hb; have := hge b h; omega))
          have HO4 := Lib.hid (HO3.out.then_ hon (fun b _ hb => .inr (.inr (hge b hb))))
          replace x3 := (chip_cell hX4).2.2.2.1
          clear hon hge hsc HX3 HF3 HR3 HO3
          refine AnyZ.one (i := 11) (by kernel_rfl) rfl (fun K hK => ?_)
          rw [if_pos (by rfl)]
          refine wpZ_append1 (.tmp 175) (.tmp 181) 85 rfl rfl rfl hap ?_
          go_simp
          refine hK _ _ (fun _ => x3) ?_
          clear hK hap
          refine AnyZ.mid [12, 13] [14] 1 rfl (by kernel_rfl) (by kernel_rfl) (by kernel_rfl) (fun _ _ _ _ e h => ⟨e.symm.trans h.1, h.2⟩) x3 ?_
          iterate 2
            refine Heads.step (v := ?_) rfl (by first | (go_simp; done) | rfl) (fun W hW => ?_) ?_
            rotate_left
            · (have t0 := hW; go_simp; try with_reducible rfl)
          have z3 := chip_thaw hX4 3
          refine AnyZ.one (i := 14) (by kernel_rfl) rfl (fun K hK => ?_)
          go_simp
          refine hK _ _ (fun h => by cases h) (AnyZ.done (by kernel_rfl) ?_)
          clear hK
          go_simp
          have hOs : Only (fun b => b = wk5.heap.size) w4 (w4.setCell ⟨wk5.heap.size, 3, none⟩ (.slice A' (k + 1) c')) := Only.setCell (p := ⟨wk5.heap.size, 3, none⟩) (Only.refl (fun b => b = wk5.heap.size) w4) (fun _ => rfl) _
          have HF5 := Lib.hid (HF4.out.only hOs (by omega) (fun b hb e => by have := hA1.out b hb; have e : b = wk5.heap.size := e; omega))
          have HR5 : Hid ((w4.setCell ⟨wk5.heap.size, 3, none⟩ (.slice A' (k + 1) c')).ownsRow w8.heap.size 89 2 (.slice A' (k + 1) c') (k + 1) (flatF 2 (regV (body l)) (k + 1))) := Lib.hid (own_only (by rw [← flat_reg, ← HBT.out, ← HNUM2.out]; exact hown) hOs (fun b hb e => own_type (e' := 87) hown (by decide) b _ (by have e : b = wk5.heap.size := e; subst e; exact hX4) hb))
          have HX5 : Hid ((w4.setCell ⟨wk5.heap.size, 3, none⟩ (.slice A' (k + 1) c')).heap[wk5.heap.size]? = some (chipO I0 R AC C cC A' (k + 1) c' none 0 0)) := Lib.hid (chip_set3 hX4)
          have HO5 := Lib.hid (HO4.out.then_ hOs (fun b _ hb => .inr (.inl hb)))
          clear hOs hX4 hown z3 x3 HF4 HO4
          go_wp2_with fail
          go_roundw
          case rel => exact ⟨k + 1, q1 + 1 + W1, o3, A', c', by omega, by go_num, HF5, HOV2, HR5, HX5, HO5⟩
          case measure => simp [intOf]; omega
          -- QE regs
        · obtain rfl : I2 = k := by omega
          obtain ⟨w9, hw9⟩ : ∃ x, x = wr0 := ⟨_, rfl⟩
          subst hw9
          have HOV9 : Hid (Ov (body l) q1 (.out 0) o1) := Lib.hid (HOVr.out.same (by rw [bef_out0]; show (decH (body l)).before (.init I2) = (decH (body l)).before (.init (tkv (body l) 64 16)); rw [show tkv (body l) 64 16 = I2 from HI2.out.symm]))
          clear HOVr
          go_wp2_with fail
          go_loopw [187] (fun vk wr => ∃ (k q2 : Nat) (o2 : Bool) (AO : Option Addr) (cO : Nat), k ≤ I1 ∧ vk = .int .i64 k ∧ Hid (Fd (body l) (some ⟨ba, oa, none⟩) c w1.heap.size wr q2 o2) ∧ Hid (Ov (body l) q2 (.out k) o2) ∧ Hid (wr.ownsRow w9.heap.size 3 1 (.slice AO k cO) k (flatF 1 (outV (body l)) k)) ∧ Hid (wr.heap[wk5.heap.size]? = some (chipO I0 R AC C cC AR I2 cR AO k cO)) ∧ Hid (Only (fun b => b = w1.heap.size ∨ b = wk5.heap.size ∨ w9.heap.size ≤ b) w9 wr)) (fun vk _ => I1 - (intOf vk).toNat)
          case atStart => exact ⟨0, q1, o1, none, 0, by omega, rfl, HFr, HOV9, Lib.hid (World.ownsRow_nil _ _ _ _), HXr, Lib.hid (Only.refl _ _)⟩
          case round =>
            clear HOV9
            obtain ⟨k, q2, o2, AO, cO, hk, rfl, HFs, HOVs, HRs, HXs, HOs⟩ := hrel
            obtain ⟨wt, hwt⟩ : ∃ x, x = wr := ⟨_, rfl⟩
            subst hwt
            have hzs := HOs.out.size
            by_cases hlo : k < I1
            · -- QB outs
              go_wp2_with fail
              have x4 := (chip_cell HXs.out).2.2.2.2
              refine wp_region_z (fun w' => w'.cell? ⟨wk5.heap.size, 4, none⟩ = some (.slice AO k cO)) [0, 1, 2, 3, 4, 5, 6] [12] (by kernel_rfl) (by kernel_rfl) (by kernel_rfl) (by rfl) (fun _ _ _ _ e h => ⟨e.symm.trans h.1, h.2⟩) x4 ?_
              iterate 7
                refine Heads.step (v := ?_) rfl (by first | (go_simp; done) | rfl) (fun W hW => ?_) ?_
                rotate_left
                · (have t0 := hW; go_simp; try with_reducible rfl)
              refine AnyZ.one (i := 7) (by kernel_rfl) rfl (fun K hK => ?_)
              go_simp
              refine (frPick_any (body l) (some ⟨ba, oa, none⟩) c w1.heap.size q2 W1 (N1 : Nat) o2 wt.drew (HFs.out.below (Below.refl _ _).drew) hnA.out (by omega) HNB1.out.1 HNB1.out.2 HWD1.out HWB1.out.1 HWB1.out.2).mono ?_
              rintro e wt2 ⟨rfl, hT, hO⟩
              have hO := (Only.refl (fun b => b = w1.heap.size) wt).drew.then_ hO (fun _ _ h => h)
              have hov := HOVs.out.pick (y := .out (k + 1)) (HWO1.out k) (HSO.out k) (bef_out _ k)
              have hnum2 : tkv (body l) q2 W1 = numD (body l) (.out k) := by rw [HWO1.out k]; exact HOVs.out.num
              have hxt := (hO.block _ (Array.getElem?_eq_some_iff.1 HXs.out).1 (by omega)).trans HXs.out
              have hrt := own_only HRs.out hO (fun b hb e => by have := own_base HRs.out b hb; have e : b = w1.heap.size := e; omega)
              have hot := HOs.out.then_ hO (fun _ _ h => .inl h)
              obtain ⟨v2, hv2⟩ : ∃ v, v = tkv (body l) q2 W1 := ⟨_, rfl⟩
              obtain ⟨o3, ho3⟩ : ∃ o3, o3 = pickO (body l) q2 W1 (N1 : Nat) o2 := ⟨_, rfl⟩
              rw [← ho3] at hov hT
              rw [← hv2] at hnum2 ⊢
              replace x4 := (chip_cell hxt).2.2.2.2
              have HNUM2 := Lib.hid hnum2; have HOV2 := Lib.hid hov; have HF2 := Lib.hid hT; have HX2 := Lib.hid hxt; have HR2 := Lib.hid hrt; have HO2 := Lib.hid hot
              have hz2 : w9.heap.size ≤ wt2.heap.size := hot.size
              clear hnum2 hov hT hO hxt hrt hot hv2 ho3 HFs HOVs HXs HRs HOs
              refine hK _ _ (fun _ => x4) ?_
              clear hK
              refine AnyZ.one (i := 8) (by kernel_rfl) rfl (fun K hK => ?_)
              go_simp
              have hbl : Below wt2.heap.size wt2 (wt2.alloc (.cells #[.int .i64 v2] 3)) := (Below.refl _ _).alloc (Nat.le_refl _) _
              obtain ⟨_, _, hsc⟩ := src_news wt2 #[.int .i64 v2] 3 1 1 rfl (by intro u hu; simp at hu; subst hu; rfl)
              obtain ⟨ad, hae, hsc⟩ := hsc (by omega)
              injection hae with hae; subst hae
              have hx3 := heap_below hbl HX2.out
              replace x4 := (chip_cell hx3).2.2.2.2
              have HX3 := Lib.hid hx3; have HF3 := Lib.hid (HF2.out.below hbl); have HR3 := Lib.hid (own_below HR2.out hbl); have HO3 := Lib.hid (HO2.out.call hbl)
              have hz3 : w9.heap.size ≤ (wt2.alloc (.cells #[.int .i64 v2] 3)).heap.size := Nat.le_trans hz2 hbl.size
              clear hbl hx3 HX2 HF2 HR2 HO2
              generalize wt2.alloc (.cells #[.int .i64 v2] 3) = w3 at *
              refine hK _ _ (fun _ => x4) ?_
              clear hK
              obtain ⟨A', c', w4, hap, hown, hon⟩ := run_append_s elOuts 29 HR3.out ⟨wt2.heap.size, 0, none⟩ 1 [.int .i64 v2] rfl hsc (by intro u hu; simp at hu; subst hu; rfl) (by omega) hz3
              have hge : ∀ b, blockOf AO b → w9.heap.size ≤ b := own_base HR3.out
              have hX4 := (hon.block _ (Array.getElem?_eq_some_iff.1 HX3.out).1 (fun h => by have := hge _ h; omega)).trans HX3.out
              have HF4 := Lib.hid (HF3.out.only hon (fun h => by have := hge _ h; omega) (fun b hb h => by have h1 := hA1.out b hb; have := hge b h; omega))
              have HO4 := Lib.hid (HO3.out.then_ hon (fun b _ hb => .inr (.inr (hge b hb))))
              replace x4 := (chip_cell hX4).2.2.2.2
              clear hon hge hsc HX3 HF3 HR3 HO3
              refine AnyZ.one (i := 9) (by kernel_rfl) rfl (fun K hK => ?_)
              rw [if_pos (by rfl)]
              refine wpZ_append1 (.tmp 193) (.tmp 197) 29 rfl rfl rfl hap ?_
              go_simp
              refine hK _ _ (fun _ => x4) ?_
              clear hK hap
              refine AnyZ.mid [10, 11] [12] 1 rfl (by kernel_rfl) (by kernel_rfl) (by kernel_rfl) (fun _ _ _ _ e h => ⟨e.symm.trans h.1, h.2⟩) x4 ?_
              iterate 2
                refine Heads.step (v := ?_) rfl (by first | (go_simp; done) | rfl) (fun W hW => ?_) ?_
                rotate_left
                · (have t0 := hW; go_simp; try with_reducible rfl)
              have z4 := chip_thaw hX4 4
              refine AnyZ.one (i := 12) (by kernel_rfl) rfl (fun K hK => ?_)
              go_simp
              refine hK _ _ (fun h => by cases h) (AnyZ.done (by kernel_rfl) ?_)
              clear hK
              go_simp
              have hOs : Only (fun b => b = wk5.heap.size) w4 (w4.setCell ⟨wk5.heap.size, 4, none⟩ (.slice A' (k + 1) c')) := Only.setCell (p := ⟨wk5.heap.size, 4, none⟩) (Only.refl (fun b => b = wk5.heap.size) w4) (fun _ => rfl) _
              have HF5 := Lib.hid (HF4.out.only hOs (by omega) (fun b hb e => by have := hA1.out b hb; have e : b = wk5.heap.size := e; omega))
              have HR5 : Hid ((w4.setCell ⟨wk5.heap.size, 4, none⟩ (.slice A' (k + 1) c')).ownsRow w9.heap.size 3 1 (.slice A' (k + 1) c') (k + 1) (flatF 1 (outV (body l)) (k + 1))) := Lib.hid (own_only (by rw [← flat_out, ← HNUM2.out]; exact hown) hOs (fun b hb e => own_type (e' := 87) hown (by decide) b _ (by have e : b = wk5.heap.size := e; subst e; exact hX4) hb))
              have HX5 : Hid ((w4.setCell ⟨wk5.heap.size, 4, none⟩ (.slice A' (k + 1) c')).heap[wk5.heap.size]? = some (chipO I0 R AC C cC AR I2 cR A' (k + 1) c')) := Lib.hid (chip_set4 hX4)
              have HO5 := Lib.hid (HO4.out.then_ hOs (fun b _ hb => .inr (.inl hb)))
              clear hOs hX4 hown z4 x4 HF4 HO4
              go_wp2_with fail
              go_roundw
              case rel => exact ⟨k + 1, q2 + W1, o3, A', c', by omega, by go_num, HF5, HOV2, HR5, HX5, HO5⟩
              case measure => simp [intOf]; omega
              -- QE outs
            · obtain rfl : I1 = k := by omega
              obtain ⟨hq2, ho2⟩ := (show Ov (body l) q2 (.out (decH (body l)).no) o2 by show Ov (body l) q2 (.out (tkv (body l) 48 16)) o2; rw [show tkv (body l) 48 16 = I1 from HI1.out.symm]; exact HOVs.out).end_
              subst hq2
              have HO2 := Lib.hid ho2
              have hz9 : w8.heap.size ≤ w9.heap.size := hzr
              have hzt : w9.heap.size ≤ wt.heap.size := hzs
              obtain ⟨E8, hE8⟩ : ∃ E8, E8 = 8 * (body l).length := ⟨_, rfl⟩
              have hE8b : E8 % 8 = 0 := by omega
              have hE8c : E8 ≤ 1125899906842624 := by omega
              have HE8 := Lib.hid hE8
              have HP0 : Hid (padO (body l) o2 0 = o2) := Lib.hid (by unfold padO; simp)
              clear hE8 HOVs ho2
              go_wp2_with fail
              go_loopw [] (fun wr => ∃ i : Nat, i ≤ (8 - bitsD (body l) % 8) % 8 ∧ Hid (Fd (body l) (some ⟨ba, oa, none⟩) c w1.heap.size wr (bitsD (body l) + i) (padO (body l) o2 i)) ∧ Hid (Only (fun b => b = w1.heap.size) wt wr)) (fun wr => E8 - (match wr.cell? ⟨w1.heap.size, 1, none⟩ with | some v => (intOf v).toNat | none => 0))
              case atStart => exact ⟨0, by omega, by rw [HP0.out]; exact HFs, Lib.hid (Only.refl _ _)⟩
              case round =>
                obtain ⟨i, hi8, HFp, HOp⟩ := hrel
                have hbx := HFp.out.box
                have c1 := hbx.cell (k := 1) (by omega); have c2 := hbx.cell (k := 2) (by omega)
                have z2 := hbx.thaw 2
                simp only [frV] at c1 c2
                rw [← HE8.out] at c1
                obtain ⟨P8, hP8⟩ : ∃ P8, P8 = min (bitsD (body l) + i) E8 := ⟨_, rfl⟩
                rw [← hP8] at c1
                have hPb : (P8 : Int) ≤ 1125899906842624 := by omega
                obtain ⟨m8, hm8⟩ : ∃ m8, m8 = P8 % 8 := ⟨_, rfl⟩
                have e2 : bits BinOp.and IntKind.i64 (P8 : Int) 7 = m8 := by
                  have h1 := bits_mask .i64 63 (by decide) (fun n h0 h1 => by rw [IntKind.wrap_i64]; omega) 3 (by decide) (P8 : Int) (by omega) (by omega)
                  rw [show (2 : Int) ^ 3 - 1 = 7 from rfl] at h1
                  rw [h1, show (2 : Int) ^ 3 = 8 from rfl]; omega
                by_cases hm0 : m8 = 0
                · have HP8 := Lib.hid hP8
                  have HM8 : Hid (P8 % 8 = 0) := Lib.hid (by omega)
                  subst hm0
                  clear hm8 hbx hP8 z2
                  go_upto_region 41 with (fail)
                  have hgi := load_good (l := l) (o := o2) (i := i) h18 HMG.out (by rw [HXE.out]; exact HCF.out) HSH.out HO2.out (by rw [← HE8.out, ← HP8.out]; exact HM8.out) (by omega)
                  rw [← HE8.out, ← HP8.out] at hgi
                  have hop := HOp.out
                  have hwx : Only (fun b => b = w1.heap.size ∨ b = wk5.heap.size ∨ w9.heap.size ≤ b) w9 wr := HOs.out.then_ hop (fun b _ h => .inl h)
                  have hwx8 : Only (fun b => b = w1.heap.size ∨ b = wk5.heap.size ∨ w8.heap.size ≤ b) w8 wr := HOr.out.then_ hwx (fun b _ h => by omega)
                  have hd : Only (fun b => False) wr wr.drew := (Only.refl _ _).drew
                  have HXf : Hid (wr.drew.heap[wk5.heap.size]? = some (chipO I0 R AC C cC AR I2 cR AO I1 cO)) := Lib.hid ((hop.block _ (Array.getElem?_eq_some_iff.1 HXs.out).1 (by omega)).trans HXs.out)
                  have HCf : Hid (FCols wr.drew wx.heap.size (body l) AC C cC R CA cc) := Lib.hid ((HCO.out.only hwx8 (fun b hb hlt => by
                    rcases hb with h | h | h
                    · exact .inl (by omega)
                    · exact .inl (by omega)
                    · omega)).only hd (fun b hb => hb.elim))
                  have HRf : Hid (wr.drew.ownsRow w8.heap.size 89 2 (.slice AR I2 cR) I2 (flatF 2 (regV (body l)) I2)) := Lib.hid (own_only (own_only HRr.out hwx (fun b hb h => by have h1 := own_base HRr.out b hb; have h2 := own_lt HRr.out b hb; omega)) hd (fun b _ hb => hb))
                  have HOf : Hid (wr.drew.ownsRow w9.heap.size 3 1 (.slice AO I1 cO) I1 (flatF 1 (outV (body l)) I1)) := Lib.hid (own_only (own_only HRs.out hop (fun b hb h => by have h1 := own_base HRs.out b hb; have h : b = w1.heap.size := h; omega)) hd (fun b _ hb => hb))
                  have HBf : Hid (Below w.heap.size w wr.drew) := Lib.hid (HB6.out.trans (((HO.out.then_ hwx8 (fun b _ h => by omega)).below (B := w.heap.size) (fun b _ h => by omega) HB6.out.size).drew))
                  clear hwx hwx8 hd hop HFp HFs HRs HXs HOs HRr HXr HOr HFr HX HCO HF HO
                  have e8 : IntKind.i64.wrap (8 * ((body l).length : Int)) = (E8 : Int) := by have := HE8.out; rw [IntKind.wrap_i64]; omega
                  have hI0 := HI0.out; have hI1 := HI1.out; have hI2 := HI2.out; have hR := HR.out; have hC := HC.out
                  have HG1 := Lib.hid hgi
                  obtain ⟨ov, hov⟩ : ∃ ov, ov = padO (body l) o2 i := ⟨_, rfl⟩
                  rw [← hov] at c2
                  have HOV := Lib.hid hov
                  have HJ : Hid (I0 = tkv (body l) 32 16 ∧ I1 = tkv (body l) (32 + 16) 16 ∧ I2 = tkv (body l) (32 + 16 + 16) 16 ∧ R = tkv (body l) (32 + 16 + 16 + 16) 16 ∧ C = tkv (body l) (32 + 16 + 16 + 16 + 16) 16) := Lib.hid ⟨hI0, hI1, hI2, hR, hC⟩
                  clear hov hgi hI0 hI1 hI2 hR hC HI0 HI1 HI2 HR HC
                  cases ov
                  · obtain ⟨β, hβ⟩ : ∃ β : Bool, ((P8 : Int) == (E8 : Int)) = β := ⟨_, rfl⟩
                    have HBE : Hid (β = true ↔ P8 = E8) := Lib.hid (by rw [← hβ, beq_iff_eq]; omega)
                    refine wp_region_z (fun w' => w'.cell? ⟨w1.heap.size, 1, none⟩ = some (.int .i64 (P8 : Nat)) ∧ w'.cell? ⟨w1.heap.size, 2, none⟩ = some (.bool false)) [0, 1, 2, 3, 4, 5, 6, 7, 8, 9, 10, 11, 12, 13, 14, 15, 16, 17] [] (by kernel_rfl) (by kernel_rfl) (by kernel_rfl) (by rfl) (fun _ _ _ _ e h => ⟨e.symm.trans h.1, h.2⟩) ⟨c1, c2⟩ ?_
                    iterate 18
                      refine Heads.step (v := ?_) rfl (by first | (go_simp; done) | rfl) (fun W hW => ?_) ?_
                      rotate_left
                      · (obtain ⟨t0, t1⟩ := hW; go_simp; try with_reducible rfl)
                    refine AnyZ.done (by kernel_rfl) ?_
                    go_simp
                    clear c1 c2
                    go_wp2_with fail
                    go_ret2
                    clear hβ
                    obtain ⟨hI0, hI1, hI2, hR, hC⟩ := HJ.out
                    cases β
                    · exact ⟨.inr ⟨fun h => (by have := HBE.out.2 (HG1.out.2 h).2; cases this), _, rfl⟩, HBf.out⟩
                    · have hgd : GoodB l := HG1.out.1 ⟨HOV.out.symm, HBE.out.1 rfl⟩
                      clear HJ
                      subst hI0 hI1 hI2 hR hC
                      exact ⟨.inl ⟨hgd, wk5.heap.size, AC, cC, CA, cc, AR, cR, AO, cO, rfl, ⟨by omega, HXf.out, HCf.out.mono (by omega), own_mono HRf.out (by omega), own_mono HOf.out (by omega)⟩⟩, HBf.out⟩
                  · have HGD : Hid (¬ GoodB l) := Lib.hid (fun h => by have := (HG1.out.2 h).1; rw [← HOV.out] at this; cases this)
                    refine wp_region_z (fun w' => w'.cell? ⟨w1.heap.size, 1, none⟩ = some (.int .i64 (P8 : Nat)) ∧ w'.cell? ⟨w1.heap.size, 2, none⟩ = some (.bool true)) [0, 1, 2, 3, 4, 5, 6, 7, 8, 9, 10, 11, 12, 13, 14, 15, 16, 17] [] (by kernel_rfl) (by kernel_rfl) (by kernel_rfl) (by rfl) (fun _ _ _ _ e h => ⟨e.symm.trans h.1, h.2⟩) ⟨c1, c2⟩ ?_
                    iterate 7
                      refine Heads.step (v := ?_) rfl (by first | (go_simp; done) | rfl) (fun W hW => ?_) ?_
                      rotate_left
                      · (obtain ⟨t0, t1⟩ := hW; go_simp; try with_reducible rfl)
                    iterate 8
                      refine Heads.skip rfl (by first | (go_simp; done) | rfl) ?_
                    iterate 3
                      refine Heads.step (v := ?_) rfl (by first | (go_simp; done) | rfl) (fun W hW => ?_) ?_
                      rotate_left
                      · (obtain ⟨t0, t1⟩ := hW; go_simp; try with_reducible rfl)
                    refine AnyZ.done (by kernel_rfl) ?_
                    go_simp
                    clear c1 c2
                    go_wp2_with fail
                    go_ret2
                    exact ⟨.inr ⟨HGD.out, _, rfl⟩, HBf.out⟩
                · -- QB pad
                  have hbn : ((m8 : Int) != 0) = true := by simpa using hm0
                  have hin : P8 = bitsD (body l) + i := by omega
                  have hlt8 : bitsD (body l) + i < E8 := by omega
                  have hi9 : i + 1 ≤ (8 - bitsD (body l) % 8) % 8 := by omega
                  have HIN := Lib.hid hin
                  clear hm0 hm8 hP8 c2 z2 hbx hin
                  go_wp2_with fail
                  clear c1 e2 hbn
                  refine (frTake_any (body l) (some ⟨ba, oa, none⟩) c w1.heap.size (bitsD (body l) + i) 1 (padO (body l) o2 i) wr HFp.out hnA.out (by omega) (by omega) (by omega)).mono ?_
                  rintro e wv ⟨rfl, hT, hO⟩
                  have hv1 : tkv (body l) (bitsD (body l) + i) 1 = bitN (body l) (bitsD (body l) + i) := by simp [tkv]
                  have HPN := Lib.hid (padO_next (b := (body l)) (o := o2) hv1.symm)
                  rw [show (padO (body l) o2 i || decide (8 * (body l).length < bitsD (body l) + i + 1)) = padO (body l) o2 i by rw [decide_eq_false (by rw [← HE8.out]; omega), Bool.or_false]] at hT
                  have hbw := hT.box
                  have d1 := hbw.cell (k := 1) (by omega)
                  simp only [frV] at d1
                  rw [← HE8.out, show min (bitsD (body l) + i + 1) E8 = bitsD (body l) + i + 1 by omega] at d1
                  have d2 := hbw.cell (k := 2) (by omega); have dz := hbw.thaw 2
                  simp only [frV] at d2
                  have HTV := Lib.hid hT; have HOV := Lib.hid (HOp.out.then_ hO (fun _ _ h => h))
                  have c1r := HFp.out.box.cell (k := 1) (by omega)
                  simp only [frV] at c1r
                  rw [← HE8.out, show min (bitsD (body l) + i) E8 = bitsD (body l) + i by omega] at c1r
                  have HC1 := Lib.hid c1r; have HD1 := Lib.hid d1
                  obtain ⟨v, hv⟩ : ∃ v, v = tkv (body l) (bitsD (body l) + i) 1 := ⟨_, rfl⟩
                  rw [← hv] at HPN ⊢
                  clear hT hO hbw hv hv1 c1r d1
                  by_cases hv1 : v = 1
                  · subst hv1
                    have HT2 : Hid (Fd (body l) (some ⟨ba, oa, none⟩) c w1.heap.size (wv.setCell ⟨w1.heap.size, 2, none⟩ (.bool true)) (bitsD (body l) + (i + 1)) (padO (body l) o2 (i + 1))) := Lib.hid (by
                      rw [HPN.out]
                      exact HTV.out.put hnA.out (by simp [frV]) (fun j hj hne => by
                        obtain rfl | rfl : j = 0 ∨ j = 1 := by omega
                        · rfl
                        · rfl))
                    have HO2' := Lib.hid (HOV.out.setCell (p := ⟨w1.heap.size, 2, none⟩) (fun _ => rfl) (.bool true))
                    have HD2 : Hid ((wv.setCell ⟨w1.heap.size, 2, none⟩ (.bool true)).cell? ⟨w1.heap.size, 1, none⟩ = some (.int .i64 ((bitsD (body l) + i + 1 : Nat) : Int))) := Lib.hid (by
                      have h := HT2.out.box.cell (k := 1) (by omega)
                      simp only [frV] at h
                      rw [← HE8.out, show min (bitsD (body l) + (i + 1)) E8 = bitsD (body l) + i + 1 by omega] at h
                      exact h)
                    rw [show ((1 : Nat) : Int) = 1 from rfl]
                    go_wp2_with fail
                    go_roundw
                    case rel => exact ⟨i + 1, hi9, HT2, HO2'⟩
                    case measure => rw [HC1.out, HD2.out]; simp [intOf]; omega
                  · have hvn : ((v : Int) == 1) = false := by rw [beq_cast]; simpa using hv1
                    have HT2 : Hid (Fd (body l) (some ⟨ba, oa, none⟩) c w1.heap.size wv (bitsD (body l) + (i + 1)) (padO (body l) o2 (i + 1))) := Lib.hid (by
                      rw [HPN.out, show (v == 1) = false by simpa using hv1, Bool.or_false]
                      exact HTV.out)
                    clear hv1
                    go_wp2_with fail
                    go_roundw
                    case rel => exact ⟨i + 1, hi9, HT2, HOV⟩
                    case measure => rw [HC1.out, HD1.out]; simp [intOf]; omega
                  -- QE pad
end Go.Proofs.YtbnjbclkmjjkhaaDoor
