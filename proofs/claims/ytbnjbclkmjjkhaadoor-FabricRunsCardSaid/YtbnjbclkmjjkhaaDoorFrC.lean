/- fabric's reader: take, walked: the next bits as a number, zeros behind the end. Condition: the reader's box and its bytes lie in memory. fabric's width, pick and check, walked. Conditions: a selector chooses among 1 to 1002; the reader's box and the bytes lie in memory. fabric's check, walked: the check sum of bytes in memory. Condition: they lie in memory. -/
import Derived.Test.YtbnjbclkmjjkhaaDoorDkT
import Derived.Test.YtbnjbclkmjjkhaaDoorBtL
import Derived.Test.YtbnjbclkmjjkhaaDoorBtC
namespace Go.Proofs.YtbnjbclkmjjkhaaDoor
open Go.RowKit

def frV (A : Option Addr) (n c : Nat) (p : Nat) (o : Bool) : Nat → Value
  | 0 => .slice A n c
  | 1 => .int .i64 p
  | _ => .bool o
/-- a reader that was asked for q bits; whether it is over -/
structure Fd (l : List UInt8) (A : Option Addr) (c bS : Nat) (W : World) (q : Nat) (o : Bool) : Prop where
  box : Arr W bS 107 3 (frV A l.length c (min q (8 * l.length)) o)
  mem : Mem W A l
theorem Fd.only {S : Nat → Prop} {l : List UInt8} {A : Option Addr} {c bS q : Nat} {o : Bool} {W W1 : World} (h : Fd l A c bS W q o) (k : Only S W W1) (h1 : ¬ S bS) (h2 : ∀ b, blockOf A b → ¬ S b) : Fd l A c bS W1 q o :=
  ⟨h.box.only k h1, fun hn => by
    obtain ⟨b, o, e, hc⟩ := h.mem hn
    exact ⟨b, o, e, fun i hi => k.cell (hc i hi) (h2 b ⟨_, e, rfl⟩)⟩⟩
theorem Fd.below {l : List UInt8} {A : Option Addr} {c bS q : Nat} {o : Bool} {W W1 : World} (h : Fd l A c bS W q o) (k : Below W.heap.size W W1) : Fd l A c bS W1 q o := ⟨h.box.below k, h.mem.keeps (Keeps.of_below k)⟩
/-- one cell of its box is written -/
theorem Fd.put {l : List UInt8} {A : Option Addr} {c bS q q' j : Nat} {o o' : Bool} {v : Value} {W : World} (h : Fd l A c bS W q o) (hA : ¬ blockOf A bS) (hv : frV A l.length c (min q' (8 * l.length)) o' j = v)
    (ho : ∀ k, k < 3 → k ≠ j → frV A l.length c (min q' (8 * l.length)) o' k = frV A l.length c (min q (8 * l.length)) o k) : Fd l A c bS (W.setCell ⟨bS, j, none⟩ v) q' o' :=
  ⟨h.box.set ho hv, fun hn => by
    obtain ⟨b, o, e, hc⟩ := h.mem hn
    exact ⟨b, o, e, fun i hi => (Only.setCell (p := ⟨bS, j, none⟩) (Only.refl (fun k => k = bS) W) (fun _ => rfl) v).cell (hc i hi) (fun e2 => hA ⟨_, e, e2.symm⟩)⟩⟩

set_option maxRecDepth 100000 in
set_option maxHeartbeats 8000000 in
theorem frTake_any (l : List UInt8) (A : Option Addr) (c bS q n : Nat) (o : Bool) (w : World) (hR : Fd l A c bS w q o) (hA : ¬ blockOf A bS) (hl : l.length ≤ 140737488355328) (hn : n ≤ 16) (h0 : 1 ≤ n) :
    Calls Tryd.prog 44 #[.pointer (some ⟨bS, 0, none⟩), .int .i64 n] w fun e w' => e = .returned (.int .i64 (tkv l q n)) ∧ Fd l A c bS w' (q + n) (o || decide (8 * l.length < q + n)) ∧ Only (fun k => k = bS) w w' := by
  have HR := Lib.hid hR; have HA := Lib.hid hA
  clear hR hA
  go_enter Tryd.func44, Tryd.ntmps44
  go_wp2_with fail
  go_loopw [1, 5] (fun vn vv wr => ∃ i : Nat, i ≤ n ∧ vn = .int .i64 ((n - i : Nat) : Int) ∧ vv = .int .i64 (tkv l q i) ∧ Hid (Fd l A c bS wr (q + i) (o || decide (0 < i ∧ 8 * l.length < q + i))) ∧ Hid (Only (fun k => k = bS) w wr)) (fun vn _ _ => (intOf vn).toNat)
  case atStart => exact ⟨0, by omega, rfl, rfl, Lib.hid (by simpa using HR.out), Lib.hid (Only.refl _ _)⟩
  case round =>
    obtain ⟨i, hi, rfl, rfl, HK, HO⟩ := hrel
    by_cases hlt : i < n
    · have hpos : (0 : Int) < ((n - i : Nat) : Int) := by omega
      obtain ⟨N, hN⟩ : ∃ N, N = n - i := ⟨_, rfl⟩
      rw [← hN] at hpos ⊢
      have hNb : N ≤ 16 := by omega
      have hNp : 0 < N := by omega
      have hN1 : (N : Int) - 1 = ((n - (i + 1) : Nat) : Int) := by omega
      have HN1 := Lib.hid hN1; have HN := Lib.hid hN
      clear hN1 hN
      have hbx := HK.out.box
      have c0 := hbx.cell (k := 0) (by omega); have c1 := hbx.cell (k := 1) (by omega); have c2 := hbx.cell (k := 2) (by omega)
      have z1 := hbx.thaw 1; have z2 := hbx.thaw 2
      simp only [frV] at c0 c1 c2
      have hx := tkv_small l q (n := i) (by omega)
      by_cases hin : q + i < 8 * l.length
      · have HXN : Hid (2 * tkv l q i + bitN l (q + i) = tkv l q (i + 1)) := Lib.hid rfl
        have hmin : min (q + i) (8 * l.length) = q + i := by omega
        rw [hmin] at c1
        obtain ⟨ba, oa, rfl, x0⟩ := HK.out.mem.at_ (k := (q + i) / 8) (by omega)
        have HY : Hid ((l.getD ((q + i) / 8) 0).toNat / 2 ^ (7 - (q + i) % 8) % 2 = bitN l (q + i)) := Lib.hid rfl
        have hy : (l.getD ((q + i) / 8) 0).toNat < 256 := (l.getD ((q + i) / 8) 0).toNat_lt
        generalize (l.getD ((q + i) / 8) 0).toNat = y at *
        generalize tkv l q i = x at *
        generalize hP' : q + i = P at *
        have HPE := Lib.hid hP'
        have hPb : (P : Int) ≤ 1125899906842624 := by omega
        have e0 : IntKind.i64.wrap (8 * (l.length : Int)) = 8 * (l.length : Int) := by rw [IntKind.wrap_i64]; omega
        have hd : decide (8 * (l.length : Int) ≤ (P : Int)) = false := decide_eq_false (by omega)
        have ex : (x : Int) * 2 = ((2 * x : Nat) : Int) := by push_cast; omega
        clear hP' hbx hmin
        go_wp2_with fail
        refine wp_region_z (fun w' => w'.cell? ⟨bS, 1, none⟩ = some (.int .i64 (P : Int)) ∧ w'.cell? ⟨bS, 0, none⟩ = some (.slice (some ⟨ba, oa, none⟩) l.length c)) [0, 1, 2, 3, 4, 5, 6, 7, 8, 9, 10] [] (by kernel_rfl) (by kernel_rfl) (by kernel_rfl) (by rfl) (fun _ _ _ _ e h => ⟨e.symm.trans h.1, h.2⟩) ⟨c1, c0⟩ ?_
        iterate 11
          refine Heads.step (v := ?_) rfl (by first | (go_simp; done) | rfl) (fun W hW => ?_) ?_
          rotate_left
          · (obtain ⟨t0, t1⟩ := hW; go_simp; try with_reducible rfl)
        refine AnyZ.done (by kernel_rfl) ?_
        go_simp
        replace c0 : wr.drew.cell? ⟨bS, 0, none⟩ = _ := c0
        replace c1 : wr.drew.cell? ⟨bS, 1, none⟩ = _ := c1
        replace x0 : wr.drew.cell? ⟨ba, oa + P / 8, none⟩ = _ := x0
        replace z1 : wr.drew.frozen? ⟨bS, 1, none⟩ = _ := z1
        replace HK := Lib.hid (HK.out.below (Below.refl _ _).drew)
        replace HO := Lib.hid HO.out.drew
        clear c2 z2 hd e0
        generalize wr.drew = wd at *
        obtain ⟨j, hj⟩ : ∃ j, j = P / 8 := ⟨_, rfl⟩
        obtain ⟨m, hm⟩ : ∃ m, m = P % 8 := ⟨_, rfl⟩
        obtain ⟨r, hr⟩ : ∃ r, r = 7 - m := ⟨_, rfl⟩
        rw [← hj] at x0
        rw [← hm, ← hr] at HY
        have e1 : (P : Int) / 8 = j := by omega
        have e2 : bits BinOp.and IntKind.i64 (P : Int) 7 = m := by
          have h1 := bits_mask .i64 63 (by decide) (fun n h0 h1 => by rw [IntKind.wrap_i64]; omega) 3 (by decide) (P : Int) (by omega) (by omega)
          rw [show (2 : Int) ^ 3 - 1 = 7 from rfl] at h1
          rw [h1, show (2 : Int) ^ 3 = 8 from rfl]; omega
        have e3 : IntKind.i64.wrap (7 - (m : Int)) = r := by rw [IntKind.wrap_i64]; omega
        have hr7 : r ≤ 7 := by omega
        have hql : j < l.length := by omega
        clear hj hm hr
        go_wp2_with fail
        refine wp_region_z (fun w' => w'.cell? ⟨bS, 0, none⟩ = some (.slice (some ⟨ba, oa, none⟩) l.length c) ∧ w'.cell? ⟨bS, 1, none⟩ = some (.int .i64 (P : Int)) ∧ w'.cell? ⟨ba, oa + j, none⟩ = some (.int .u8 y)) [0, 1, 2, 3, 4, 5, 6, 7, 8, 9, 10, 11, 12, 13, 14, 15, 16, 17, 18, 19, 20, 21, 22] [] (by kernel_rfl) (by kernel_rfl) (by kernel_rfl) (by rfl) (fun _ _ _ _ e h => ⟨e.symm.trans h.1, h.2⟩) ⟨c0, c1, x0⟩ ?_
        iterate 23
          refine Heads.step (v := ?_) rfl (by first | (go_simp; done) | rfl) (fun W hW => ?_) ?_
          rotate_left
          · (obtain ⟨t0, t1, t2⟩ := hW; go_simp; try with_reducible rfl)
        refine AnyZ.done (by kernel_rfl) ?_
        go_simp
        have hb1 := bitN_le l P
        have hEA : bits BinOp.or IntKind.i64 (2 * (x : Int)) (bits BinOp.and IntKind.i64 (IntKind.i64.wrap ((y : Int) / 2 ^ r)) 1) = ((2 * x + bitN l P : Nat) : Int) := by
          have h0 : (y : Int) / 2 ^ r = ((y / 2 ^ r : Nat) : Int) := by push_cast; rfl
          have hle : y / 2 ^ r ≤ y := Nat.div_le_self _ _
          have hb : y / 2 ^ r % 2 = bitN l P := HY.out
          rw [h0]
          generalize y / 2 ^ r = u at *
          have h2 : IntKind.i64.wrap (u : Int) = u := by rw [IntKind.wrap_i64]; omega
          have h1 := bits_mask .i64 63 (by decide) (fun n h0 h1 => by rw [IntKind.wrap_i64]; omega) 1 (by decide) (u : Int) (by omega) (by omega)
          rw [show (2 : Int) ^ 1 - 1 = 1 from rfl] at h1
          rw [h2, h1, show (u : Int) % 2 ^ 1 = ((bitN l P : Nat) : Int) by rw [← hb]; omega, show 2 * (x : Int) = ((2 * x : Nat) : Int) by push_cast; rfl]
          exact or_bit x (bitN l P) hx (by omega)
        rw [hEA]
        have HXN2 : Hid (2 * x + bitN l P = tkv l q (i + 1)) := Lib.hid HXN.out
        replace c1 : wd.drew.cell? ⟨bS, 1, none⟩ = _ := c1
        replace z1 : wd.drew.frozen? ⟨bS, 1, none⟩ = _ := z1
        replace HK := Lib.hid (HK.out.below (Below.refl _ _).drew)
        replace HO := Lib.hid HO.out.drew
        clear hEA e1 e2 e3 x0 c0 HXN ex
        generalize wd.drew = we at *
        generalize 2 * x + bitN l P = x1 at *
        go_wp2_with fail
        go_roundw
        case rel => exact ⟨i + 1, by omega, by rw [← HN1.out], by rw [HXN2.out], Lib.hid (by
          rw [show q + (i + 1) = P + 1 by rw [← HPE.out]; omega]
          have ho : (o || decide (0 < i ∧ 8 * l.length < P)) = (o || decide (0 < i + 1 ∧ 8 * l.length < P + 1)) := by
            rw [decide_eq_false (show ¬ (0 < i ∧ 8 * l.length < P) by omega), decide_eq_false (show ¬ (0 < i + 1 ∧ 8 * l.length < P + 1) by omega)]
          rw [← ho]
          exact HK.out.put HA.out (by simp only [frV]; rw [show min (P + 1) (8 * l.length) = P + 1 by omega]; push_cast; rfl) (fun k hk hne => by
            obtain rfl | rfl : k = 0 ∨ k = 2 := by omega
            · rfl
            · rfl)), Lib.hid (HO.out.setCell (p := ⟨bS, 1, none⟩) (fun _ => rfl) _)⟩
        case measure => simp [intOf]; omega
      · have hmin : min (q + i) (8 * l.length) = 8 * l.length := by omega
        rw [hmin] at c1
        have HXN : Hid (2 * tkv l q i = tkv l q (i + 1)) := Lib.hid (by simp only [tkv]; rw [bitN_far (by omega), Nat.add_zero])
        generalize tkv l q i = x at *
        have e0 : IntKind.i64.wrap (8 * (l.length : Int)) = ((8 * l.length : Nat) : Int) := by rw [IntKind.wrap_i64]; omega
        obtain ⟨E, hE⟩ : ∃ E, E = 8 * l.length := ⟨_, rfl⟩
        rw [← hE] at c1 e0
        have HE := Lib.hid hE
        have hEb : (E : Int) ≤ 1125899906842624 := by omega
        have hd : decide (E ≤ E) = true := decide_eq_true (Nat.le_refl _)
        have ex : (x : Int) * 2 = ((2 * x : Nat) : Int) := by push_cast; omega
        clear hE hbx hmin
        go_wp2_with fail
        refine wp_region_z (fun w' => w'.cell? ⟨bS, 1, none⟩ = some (.int .i64 (E : Int)) ∧ w'.cell? ⟨bS, 0, none⟩ = some (.slice A l.length c)) [0, 1, 2, 3, 4, 5, 6, 7, 8, 9, 10] [] (by kernel_rfl) (by kernel_rfl) (by kernel_rfl) (by rfl) (fun _ _ _ _ e h => ⟨e.symm.trans h.1, h.2⟩) ⟨c1, c0⟩ ?_
        iterate 11
          refine Heads.step (v := ?_) rfl (by first | (go_simp; done) | rfl) (fun W hW => ?_) ?_
          rotate_left
          · (obtain ⟨t0, t1⟩ := hW; go_simp; try with_reducible rfl)
        refine AnyZ.done (by kernel_rfl) ?_
        go_simp
        replace c2 : wr.drew.cell? ⟨bS, 2, none⟩ = _ := c2
        replace z2 : wr.drew.frozen? ⟨bS, 2, none⟩ = _ := z2
        replace HK := Lib.hid (HK.out.below (Below.refl _ _).drew)
        replace HO := Lib.hid HO.out.drew
        clear c0 c1 z1
        generalize wr.drew = wd at *
        go_wp2_with fail
        go_roundw
        case rel => exact ⟨i + 1, by omega, by rw [← HN1.out], by rw [← HXN.out]; push_cast; rfl, Lib.hid (by
          have ht : (o || decide (0 < i + 1 ∧ 8 * l.length < q + (i + 1))) = true := by
            rw [decide_eq_true (show 0 < i + 1 ∧ 8 * l.length < q + (i + 1) by omega), Bool.or_true]
          rw [ht]
          exact HK.out.put HA.out rfl (fun k hk hne => by
            obtain rfl | rfl : k = 0 ∨ k = 1 := by omega
            · rfl
            · simp only [frV]; rw [show min (q + (i + 1)) (8 * l.length) = min (q + i) (8 * l.length) by omega])), Lib.hid (HO.out.setCell (p := ⟨bS, 2, none⟩) (fun _ => rfl) _)⟩
        case measure => simp [intOf]; omega
    · obtain rfl : i = n := by omega
      have e0 : ((i - i : Nat) : Int) = 0 := by omega
      rw [e0]
      go_wp2_with fail
      go_ret
      exact ⟨rfl, by simpa [show 0 < i by omega] using HK.out, HO.out⟩
end Go.Proofs.YtbnjbclkmjjkhaaDoor
namespace Go.Proofs.YtbnjbclkmjjkhaaDoor
open Go.RowKit

set_option maxRecDepth 100000 in
set_option maxHeartbeats 4000000 in
theorem frWidth_any (n : Int) (w : World) (h0 : 1 ≤ n) (h1 : n ≤ 1002) :
    Calls Tryd.prog 52 #[.int .i64 n] w fun e w' => e = .returned (.int .i64 (wid n)) ∧ w = w' := by
  have hw := wid_le h0 h1
  go_enter Tryd.func52, Tryd.ntmps52
  go_wp2_with fail
  go_loop [3] (fun vk => ∃ k : Nat, (k : Int) ≤ wid n ∧ vk = .int .i64 k) (fun vk => (wid n - intOf vk).toNat)
  case atStart => exact ⟨0, by simpa using hw.1, rfl⟩
  case round =>
    obtain ⟨k, hk, rfl⟩ := hrel
    have ht := wid_test h0 h1 (k := k) (by omega)
    have hk10 : k ≤ 10 := by omega
    have hwr : wrap64 ((2 : Int) ^ k) = 2 ^ k := by
      obtain rfl | rfl | rfl | rfl | rfl | rfl | rfl | rfl | rfl | rfl | rfl : k = 0 ∨ k = 1 ∨ k = 2 ∨ k = 3 ∨ k = 4 ∨ k = 5 ∨ k = 6 ∨ k = 7 ∨ k = 8 ∨ k = 9 ∨ k = 10 := by omega
      all_goals (unfold wrap64; decide)
    by_cases hlt : (k : Int) < wid n
    · have hd : decide (wrap64 ((2 : Int) ^ k) < n) = true := by rw [hwr]; exact decide_eq_true (ht.2 hlt)
      clear ht hwr
      go_wp2_with fail
      go_round
      case rel => exact ⟨k + 1, by omega, by go_num⟩
      case measure => simp [intOf]; omega
    · have hd : decide (wrap64 ((2 : Int) ^ k) < n) = false := by rw [hwr]; exact decide_eq_false (fun h => hlt (ht.1 h))
      have HK : Hid ((k : Int) = wid n) := Lib.hid (by omega)
      clear ht hwr
      go_wp2_with fail
      go_ret
      exact ⟨ret_int HK.out, rfl⟩

/-- a selector among n: the next bits; over, where they are none of n -/
def pickO (l : List UInt8) (q wd : Nat) (n : Int) (o : Bool) : Bool := (o || decide (8 * l.length < q + wd)) || decide (n ≤ (tkv l q wd : Nat))
set_option maxRecDepth 100000 in
set_option maxHeartbeats 4000000 in
theorem frPick_any (l : List UInt8) (A : Option Addr) (c bS q wd : Nat) (n : Int) (o : Bool) (w : World) (hR : Fd l A c bS w q o) (hA : ¬ blockOf A bS) (hl : l.length ≤ 140737488355328) (h0 : 2 ≤ n) (h1 : n ≤ 1002) (hw : wid n = (wd : Int)) (hw1 : 1 ≤ wd) (hw2 : wd ≤ 16) :
    Calls Tryd.prog 45 #[.pointer (some ⟨bS, 0, none⟩), .int .i64 n] w fun e w' => e = .returned (.int .i64 (tkv l q wd)) ∧ Fd l A c bS w' (q + wd) (pickO l q wd n o) ∧ Only (fun k => k = bS) w w' := by
  have HR := Lib.hid hR; have HA := Lib.hid hA; have HW := Lib.hid hw
  clear hR hA hw
  go_enter Tryd.func45, Tryd.ntmps45
  go_wp2_with fail
  refine (frWidth_any n w (by omega) h1).mono ?_
  rintro e w1 ⟨rfl, e1⟩
  subst e1
  rw [HW.out]
  go_wp2_with fail
  refine (frTake_any l A c bS q wd o w HR.out HA.out hl hw2 hw1).mono ?_
  rintro e w1 ⟨rfl, hT, hO⟩
  have hbx := hT.box
  have c2 := hbx.cell (k := 2) (by omega)
  have z2 := hbx.thaw 2
  simp only [frV] at c2
  have HT := Lib.hid hT; have HO := Lib.hid hO
  have HP : Hid (pickO l q wd n o = ((o || decide (8 * l.length < q + wd)) || decide (n ≤ (tkv l q wd : Nat)))) := Lib.hid rfl
  clear hT hO hbx
  generalize (o || decide (8 * l.length < q + wd)) = o1 at *
  generalize hx : tkv l q wd = x at *
  generalize hb : decide (n ≤ (x : Int)) = β at *
  have HXE := Lib.hid hx
  clear hx
  have HF : Hid (Fd l A c bS (w1.setCell ⟨bS, 2, none⟩ (.bool (pickO l q wd n o))) (q + wd) (pickO l q wd n o)) := Lib.hid (HT.out.put HA.out rfl (fun k hk hne => by
    obtain rfl | rfl : k = 0 ∨ k = 1 := by omega
    · rfl
    · rfl))
  have HOF := Lib.hid (HO.out.setCell (p := ⟨bS, 2, none⟩) (fun _ => rfl) (.bool (pickO l q wd n o)))
  rw [HP.out] at HF HOF
  cases o1
  · go_wp2_with fail
    go_ret
    exact ⟨by first | rfl | (rw [HXE.out]; rfl), by rw [HP.out]; simpa using HF.out, by simpa using HOF.out⟩
  · go_wp2_with fail
    go_ret
    exact ⟨by first | rfl | (rw [HXE.out]; rfl), by rw [HP.out]; simpa using HF.out, by simpa using HOF.out⟩
end Go.Proofs.YtbnjbclkmjjkhaaDoor
namespace Go.Proofs.YtbnjbclkmjjkhaaDoor
open Go.RowKit

theorem and_mask (z : Nat) (hz : z < 4294967296) : bits .and .u32 3988292384 (-(bits .and .u32 (z : Int) 1) % 4294967296) = if z % 2 = 1 then 3988292384 else 0 := by
  have h1 := bits_mask .u32 32 (by decide) (fun n h0 h1 => by rw [IntKind.wrap_u32]; omega) 1 (by decide) (z : Int) (by omega) (by omega)
  rw [show (2 : Int) ^ 1 - 1 = 1 from rfl] at h1
  rw [h1]
  by_cases h : z % 2 = 1
  · rw [if_pos h, show (z : Int) % 2 ^ 1 = 1 by omega]
    decide +kernel
  · rw [if_neg h, show (z : Int) % 2 ^ 1 = 0 by omega]
    decide +kernel

set_option maxRecDepth 100000 in
set_option maxHeartbeats 4000000 in
theorem frCheck_any (l : List UInt8) (A : Option Addr) (c : Nat) (w : World) (hm : Mem w A l) (hl : l.length ≤ 140737488355328) :
    Calls Tryd.prog 43 #[.slice A l.length c] w fun e w' => e = .returned (.int .u32 (crcF l : Nat)) ∧ w = w' := by
  have HM := Lib.hid hm
  clear hm
  go_enter Tryd.func43, Tryd.ntmps43
  go_wp2_with fail
  go_loop [3, 8] (fun vc vi => ∃ (i X : Nat), i ≤ l.length ∧ vi = .int .i64 i ∧ vc = .int .u32 X ∧ Hid (X = crcV l i)) (fun _ vi => l.length - (intOf vi).toNat)
  case atStart => exact ⟨0, _, by omega, rfl, rfl, Lib.hid rfl⟩
  case round =>
    obtain ⟨i, X, hi, rfl, rfl, HX⟩ := hrel
    have hX : X < 4294967296 := by rw [HX.out]; exact crcV_lt l i
    by_cases hlt : i < l.length
    · obtain ⟨ba, oa, rfl, x0⟩ := HM.out.at_ hlt
      have hb : (l.getD i 0).toNat < 256 := (l.getD i 0).toNat_lt
      have HS : Hid (crcV l (i + 1) = stepN 8 (X ^^^ (l.getD i 0).toNat)) := Lib.hid (by rw [HX.out]; rfl)
      generalize (l.getD i 0).toNat = b at *
      go_wp2_with fail
      go_loop [3, 16] (fun vc vk => ∃ (k z : Nat), k ≤ 8 ∧ vk = .int .i64 k ∧ vc = .int .u32 z ∧ Hid (z = stepN k (X ^^^ b))) (fun _ vk => 8 - (intOf vk).toNat)
      case atStart => exact ⟨0, _, by omega, rfl, congrArg (Value.int .u32) (by first | exact xor32 hX (by omega) | (rw [show IntKind.u32.wrap (b : Int) = b by rw [IntKind.wrap_u32]; omega]; exact xor32 hX (by omega))), Lib.hid rfl⟩
      case round =>
        obtain ⟨k, z, hk, rfl, rfl, HZ⟩ := hrel
        have hz : z < 4294967296 := by rw [HZ.out]; exact stepN_lt (Nat.xor_lt_two_pow (n := 32) hX (by omega)) k
        by_cases hlk : k < 8
        · have ham := and_mask z hz
          by_cases h1 : z % 2 = 1
          · rw [if_pos h1] at ham
            have HZ1 : Hid (((z / 2) ^^^ 3988292384) = stepN (k + 1) (X ^^^ b)) := Lib.hid (by show _ = step1 (stepN k (X ^^^ b)); rw [← HZ.out, step1, if_pos h1])
            have HXR : Hid (bits .xor .u32 ((z : Int) / 2) 3988292384 = (((z / 2) ^^^ 3988292384 : Nat) : Int)) := Lib.hid (by have := xor32 (a := z / 2) (b := 3988292384) (by omega) (by omega); rw [← this]; congr 1)
            have HZB := Lib.hid hz; have HXB := Lib.hid hX; have HAM := Lib.hid ham
            clear h1 hz hX ham
            go_wp2_with fail
            go_round
            case rel => exact ⟨k + 1, (z / 2) ^^^ 3988292384, by omega, by go_num, congrArg (Value.int .u32) (by first | exact HXR.out | (rw [HAM.out]; exact HXR.out)), HZ1⟩
            case measure => simp [intOf]; omega
          · rw [if_neg h1] at ham
            have HZ1 : Hid ((z / 2) = stepN (k + 1) (X ^^^ b)) := Lib.hid (by show _ = step1 (stepN k (X ^^^ b)); rw [← HZ.out, step1, if_neg h1])
            have HXR : Hid (bits .xor .u32 ((z : Int) / 2) 0 = ((z / 2 : Nat) : Int)) := Lib.hid (by have := xor32 (a := z / 2) (b := 0) (by omega) (by omega); rw [Nat.xor_zero] at this; rw [← this]; congr 1)
            have HZB := Lib.hid hz; have HXB := Lib.hid hX; have HAM := Lib.hid ham
            clear h1 hz hX ham
            go_wp2_with fail
            go_round
            case rel => exact ⟨k + 1, z / 2, by omega, by go_num, congrArg (Value.int .u32) (by first | exact HXR.out | (rw [HAM.out]; exact HXR.out)), HZ1⟩
            case measure => simp [intOf]; omega
        · obtain rfl : k = 8 := by omega
          go_wp2_with fail
          go_round
          case rel => exact ⟨i + 1, z, by omega, by go_num, rfl, Lib.hid (by rw [HZ.out, HS.out])⟩
          case measure => simp [intOf]; omega
    · obtain rfl : i = l.length := by omega
      go_wp2_with fail
      go_ret
      exact ⟨ret_int (by rw [show IntKind.u32.max = ((4294967295 : Nat) : Int) from rfl, xor32 (by omega) hX, HX.out, Nat.xor_comm]; rfl), rfl⟩
end Go.Proofs.YtbnjbclkmjjkhaaDoor
