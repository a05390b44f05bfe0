/- The reference's Stream.take, walked: the next bits as a number, or nothing behind the end. Condition: the stream's box and its bytes lie in memory. -/
import Derived.Test.YtbnjbclkmjjkhaaDoorDkT
namespace Go.Proofs.YtbnjbclkmjjkhaaDoor
open Go.RowKit

def rdV (A : Option Addr) (n c : Nat) (p : Nat) (o : Bool) : Nat → Value
  | 0 => .slice A n c
  | 1 => .int .i64 0
  | 2 => .int .i64 p
  | _ => .bool o
/-- a reader that was asked for q bits -/
structure Rd (l : List UInt8) (A : Option Addr) (c bS : Nat) (W : World) (q : Nat) : Prop where
  box : Arr W bS 48 4 (rdV A l.length c (min q (8 * l.length)) (decide (8 * l.length < q)))
  mem : Mem W A l
/-- what it tells for n bits more -/
def rdN (l : List UInt8) (q n : Nat) : Nat := if q + n ≤ 8 * l.length then tkv l q n else 0
theorem Rd.only {S : Nat → Prop} {l : List UInt8} {A : Option Addr} {c bS q : Nat} {W W1 : World} (h : Rd l A c bS W q) (k : Only S W W1) (h1 : ¬ S bS) (h2 : ∀ b, blockOf A b → ¬ S b) : Rd l A c bS W1 q :=
  ⟨h.box.only k h1, fun hn => by
    obtain ⟨b, o, e, hc⟩ := h.mem hn
    exact ⟨b, o, e, fun i hi => k.cell (hc i hi) (h2 b ⟨_, e, rfl⟩)⟩⟩
theorem Rd.below {l : List UInt8} {A : Option Addr} {c bS q : Nat} {W W1 : World} (h : Rd l A c bS W q) (k : Below W.heap.size W W1) : Rd l A c bS W1 q := ⟨h.box.below k, h.mem.keeps (Keeps.of_below k)⟩
/-- one cell of its box is written -/
theorem Rd.put {l : List UInt8} {A : Option Addr} {c bS q q' j : Nat} {v : Value} {W : World} (h : Rd l A c bS W q) (hA : ¬ blockOf A bS) (_ : j < 4) (hv : rdV A l.length c (min q' (8 * l.length)) (decide (8 * l.length < q')) j = v)
    (ho : ∀ k, k < 4 → k ≠ j → rdV A l.length c (min q' (8 * l.length)) (decide (8 * l.length < q')) k = rdV A l.length c (min q (8 * l.length)) (decide (8 * l.length < q)) k) : Rd l A c bS (W.setCell ⟨bS, j, none⟩ v) q' :=
  ⟨h.box.set ho hv, fun hn => by
    obtain ⟨b, o, e, hc⟩ := h.mem hn
    exact ⟨b, o, e, fun i hi => (Only.setCell (p := ⟨bS, j, none⟩) (Only.refl (fun k => k = bS) W) (fun _ => rfl) v).cell (hc i hi) (fun e2 => hA ⟨_, e, e2.symm⟩)⟩⟩

set_option maxRecDepth 100000 in
set_option maxHeartbeats 8000000 in
theorem refTake_any (l : List UInt8) (A : Option Addr) (c bS q n : Nat) (w : World) (hR : Rd l A c bS w q) (hA : ¬ blockOf A bS) (hl : l.length ≤ 140737488355328) (hn : n ≤ 16) :
    Calls Tryd.prog 28 #[.pointer (some ⟨bS, 0, none⟩), .int .i64 n] w fun e w' => e = .returned (.int .i64 (rdN l q n)) ∧ Rd l A c bS w' (q + n) ∧ Only (fun k => k = bS) w w' := by
  have HR := Lib.hid hR; have HA := Lib.hid hA
  clear hR hA
  have HZ : Hid (rdN l q n = if q + n ≤ 8 * l.length then tkv l q n else 0) := Lib.hid rfl
  generalize rdN l q n = res at *
  go_enter Tryd.func28, Tryd.ntmps28
  go_wp2_with fail
  go_loopw [5, 6] (fun vv vi wr => ∃ i : Nat, i ≤ n ∧ vi = .int .i64 i ∧ vv = .int .i64 (tkv l q i) ∧ (0 < i → q + i ≤ 8 * l.length) ∧ Hid (Rd l A c bS wr (q + i)) ∧ Hid (Only (fun k => k = bS) w wr)) (fun _ vi _ => n - (intOf vi).toNat)
  case atStart => exact ⟨0, by omega, rfl, rfl, by omega, HR, Lib.hid (Only.refl _ _)⟩
  case round =>
    obtain ⟨i, hi, rfl, rfl, hqi, HK, HO⟩ := hrel
    by_cases hlt : i < n
    · have hbx := HK.out.box
      have c0 := hbx.cell (k := 0) (by omega); have c2 := hbx.cell (k := 2) (by omega); have c3 := hbx.cell (k := 3) (by omega)
      have z2 := hbx.thaw 2; have z3 := hbx.thaw 3
      simp only [rdV] at c0 c2 c3
      have hx := tkv_small l q (n := i) (by omega)
      by_cases hin : q + i < 8 * l.length
      · have HXN : Hid (2 * tkv l q i + bitN l (q + i) = tkv l q (i + 1)) := Lib.hid rfl
        have hmin : min (q + i) (8 * l.length) = q + i := by omega
        rw [hmin] at c2
        have hdn : decide (8 * l.length < q + i) = false := decide_eq_false (by omega)
        obtain ⟨ba, oa, rfl, x0⟩ := HK.out.mem.at_ (k := (q + i) / 8) (by omega)
        have HY : Hid ((l.getD ((q + i) / 8) 0).toNat / 2 ^ (7 - (q + i) % 8) % 2 = bitN l (q + i)) := Lib.hid rfl
        have hy : (l.getD ((q + i) / 8) 0).toNat < 256 := (l.getD ((q + i) / 8) 0).toNat_lt
        generalize (l.getD ((q + i) / 8) 0).toNat = y at *
        generalize tkv l q i = x at *
        generalize hP' : q + i = P at *
        have HPE := Lib.hid hP'
        have hPb : (P : Int) ≤ 1125899906842624 := by omega
        have e0 : IntKind.i64.wrap (8 * (l.length : Int)) = 8 * (l.length : Int) := by rw [IntKind.wrap_i64]; omega
        have hd : decide (8 * (l.length : Int) ≤ (P : Int)) = false := decide_eq_false (by omega)
        clear hP' hbx hmin
        go_wp2_with fail
        refine wp_region_z (fun w' => w'.cell? ⟨bS, 2, none⟩ = some (.int .i64 (P : Int)) ∧ w'.cell? ⟨bS, 0, none⟩ = some (.slice (some ⟨ba, oa, none⟩) l.length c)) [0, 1, 2, 3, 4, 5, 6, 7, 8, 9, 10] [] (by kernel_rfl) (by kernel_rfl) (by kernel_rfl) (by rfl) (fun _ _ _ _ e h => ⟨e.symm.trans h.1, h.2⟩) ⟨c2, c0⟩ ?_
        iterate 11
          refine Heads.step (v := ?_) rfl (by first | (go_simp; done) | rfl) (fun W hW => ?_) ?_
          rotate_left
          · (obtain ⟨t0, t1⟩ := hW; go_simp; try with_reducible rfl)
        refine AnyZ.done (by kernel_rfl) ?_
        go_simp
        go_wp2_with fail
        replace c0 : wr.drew.cell? ⟨bS, 0, none⟩ = _ := c0
        replace c2 : wr.drew.cell? ⟨bS, 2, none⟩ = _ := c2
        replace x0 : wr.drew.cell? ⟨ba, oa + P / 8, none⟩ = _ := x0
        replace z2 : wr.drew.frozen? ⟨bS, 2, none⟩ = _ := z2
        have HKD : Hid (Rd l (some ⟨ba, oa, none⟩) c bS wr.drew P) := Lib.hid (HK.out.below (Below.refl _ _).drew)
        have HOD := Lib.hid HO.out.drew
        clear HK HO c3 z3 hd e0
        generalize wr.drew = wd at *
        obtain ⟨j, hj⟩ : ∃ j, j = P / 8 := ⟨_, rfl⟩
        obtain ⟨m, hm⟩ : ∃ m, m = P % 8 := ⟨_, rfl⟩
        obtain ⟨r, hr⟩ : ∃ r, r = 7 - m := ⟨_, rfl⟩
        rw [← hj] at x0
        rw [← hm, ← hr] at HY
        have e1 : IntKind.i64.wrap ((P : Int) / 8) = j := by rw [IntKind.wrap_i64]; omega
        have e2 : (P : Int).tmod 8 = m := by rw [Int.tmod_eq_emod_of_nonneg (by omega)]; omega
        have e3 : IntKind.i64.wrap (7 - (m : Int)) = r := by rw [IntKind.wrap_i64]; omega
        have hr7 : r ≤ 7 := by omega
        have hql : j < l.length := by omega
        clear hj hm hr
        refine wp_region_z (fun w' => w'.cell? ⟨bS, 0, none⟩ = some (.slice (some ⟨ba, oa, none⟩) l.length c) ∧ w'.cell? ⟨bS, 2, none⟩ = some (.int .i64 (P : Int)) ∧ w'.cell? ⟨ba, oa + j, none⟩ = some (.int .u8 y)) [0, 1, 2, 3, 4, 5, 6, 7, 8, 9, 10, 11, 12, 13, 14, 15, 16, 17, 18, 19, 20, 21, 22, 23, 24] [] (by kernel_rfl) (by kernel_rfl) (by kernel_rfl) (by rfl) (fun _ _ _ _ e h => ⟨e.symm.trans h.1, h.2⟩) ⟨c0, c2, x0⟩ ?_
        iterate 25
          refine Heads.step (v := ?_) rfl (by first | (go_simp; done) | rfl) (fun W hW => ?_) ?_
          rotate_left
          · (obtain ⟨t0, t1, t2⟩ := hW; go_simp; try with_reducible rfl)
        refine AnyZ.done (by kernel_rfl) ?_
        go_simp
        have hb1 := bitN_le l P
        have hEA : IntKind.i64.wrap (IntKind.i64.wrap (2 * (x : Int)) + IntKind.i64.wrap (((y : Int) / 2 ^ min (IntKind.u64.wrap (r : Int)).toNat 8).tmod 2)) = ((2 * x + bitN l P : Nat) : Int) := by
          have h1 : IntKind.u64.wrap (r : Int) = r := by rw [IntKind.wrap_u64]; omega
          have h2 : min ((r : Int)).toNat 8 = r := by omega
          have h0 : (y : Int) / 2 ^ r = ((y / 2 ^ r : Nat) : Int) := by push_cast; rfl
          have hle : y / 2 ^ r ≤ y := Nat.div_le_self _ _
          have hb : y / 2 ^ r % 2 = bitN l P := HY.out
          rw [h1, h2, h0]
          generalize y / 2 ^ r = u at *
          rw [Int.tmod_eq_emod_of_nonneg (by omega)]
          have a2 : IntKind.i64.wrap ((u : Int) % 2) = ((bitN l P : Nat) : Int) := by rw [IntKind.wrap_i64, ← hb]; omega
          have a1 : IntKind.i64.wrap (2 * (x : Int)) = 2 * (x : Int) := by rw [IntKind.wrap_i64]; omega
          rw [a1, a2, IntKind.wrap_i64]
          omega
        rw [hEA]
        have HXN2 : Hid (2 * x + bitN l P = tkv l q (i + 1)) := Lib.hid HXN.out
        replace c0 : wd.drew.cell? ⟨bS, 0, none⟩ = _ := c0
        replace c2 : wd.drew.cell? ⟨bS, 2, none⟩ = _ := c2
        replace z2 : wd.drew.frozen? ⟨bS, 2, none⟩ = _ := z2
        replace HKD := Lib.hid (HKD.out.below (Below.refl _ _).drew)
        replace HOD := Lib.hid HOD.out.drew
        clear hEA e1 e2 e3 x0 HXN
        generalize wd.drew = we at *
        generalize 2 * x + bitN l P = x1 at *
        have e9 : IntKind.i64.wrap ((P : Int) + 1) = ((P + 1 : Nat) : Int) := by rw [IntKind.wrap_i64]; omega
        go_wp2_with fail
        go_roundw
        case rel => exact ⟨i + 1, by omega, by go_num, by rw [HXN2.out], fun _ => by have := HPE.out; omega, Lib.hid (by
          rw [show q + (i + 1) = P + 1 by rw [← HPE.out]; omega]
          exact HKD.out.put HA.out (by omega) (by simp only [rdV]; rw [show min (P + 1) (8 * l.length) = P + 1 by omega]; push_cast; rfl) (fun k hk hne => by
            obtain rfl | rfl | rfl : k = 0 ∨ k = 1 ∨ k = 3 := by omega
            · rfl
            · rfl
            · simp only [rdV]; rw [decide_eq_false (show ¬ (8 * l.length < P + 1) by omega), decide_eq_false (show ¬ (8 * l.length < P) by omega)])), Lib.hid (HOD.out.setCell (p := ⟨bS, 2, none⟩) (fun _ => rfl) _)⟩
        case measure => simp [intOf]; omega
      · have hmin : min (q + i) (8 * l.length) = 8 * l.length := by omega
        rw [hmin] at c2
        have e0 : IntKind.i64.wrap (8 * (l.length : Int)) = ((8 * l.length : Nat) : Int) := by rw [IntKind.wrap_i64]; omega
        have HRS : Hid (res = 0) := Lib.hid (by rw [HZ.out, if_neg (by omega)])
        obtain ⟨E, hE⟩ : ∃ E, E = 8 * l.length := ⟨_, rfl⟩
        rw [← hE] at c2 e0
        have HE := Lib.hid hE
        have hEb : (E : Int) ≤ 1125899906842624 := by omega
        have hd : decide (E ≤ E) = true := decide_eq_true (Nat.le_refl _)
        clear hE hbx hmin hx
        go_wp2_with fail
        refine wp_region_z (fun w' => w'.cell? ⟨bS, 2, none⟩ = some (.int .i64 (E : Int)) ∧ w'.cell? ⟨bS, 0, none⟩ = some (.slice A l.length c)) [0, 1, 2, 3, 4, 5, 6, 7, 8, 9, 10] [] (by kernel_rfl) (by kernel_rfl) (by kernel_rfl) (by rfl) (fun _ _ _ _ e h => ⟨e.symm.trans h.1, h.2⟩) ⟨c2, c0⟩ ?_
        iterate 11
          refine Heads.step (v := ?_) rfl (by first | (go_simp; done) | rfl) (fun W hW => ?_) ?_
          rotate_left
          · (obtain ⟨t0, t1⟩ := hW; go_simp; try with_reducible rfl)
        refine AnyZ.done (by kernel_rfl) ?_
        go_simp
        replace c3 : wr.drew.cell? ⟨bS, 3, none⟩ = _ := c3
        replace z3 : wr.drew.frozen? ⟨bS, 3, none⟩ = _ := z3
        have HKD : Hid (Rd l A c bS wr.drew (q + i)) := Lib.hid (HK.out.below (Below.refl _ _).drew)
        have HOD := Lib.hid HO.out.drew
        clear HK HO c0 c2 z2
        generalize wr.drew = wd at *
        go_wp2_with fail
        go_ret
        refine ⟨by rw [HRS.out]; rfl, HKD.out.put HA.out (by omega) (by simp only [rdV]; rw [decide_eq_true (by have := HE.out; omega)]) (fun k hk hne => ?_), HOD.out.setCell (p := ⟨bS, 3, none⟩) (fun _ => rfl) _⟩
        obtain rfl | rfl | rfl : k = 0 ∨ k = 1 ∨ k = 2 := by omega
        · rfl
        · rfl
        · simp only [rdV]; rw [show min (q + n) (8 * l.length) = min (q + i) (8 * l.length) by have := HE.out; omega]
    · obtain rfl : i = n := by omega
      have HRS : Hid (tkv l q i = res) := Lib.hid (by
        rw [HZ.out]
        by_cases h0 : 0 < i
        · rw [if_pos (hqi h0)]
        · obtain rfl : i = 0 := by omega
          by_cases h1 : q + 0 ≤ 8 * l.length
          · rw [if_pos h1]
          · rw [if_neg h1]; rfl)
      go_wp2_with fail
      go_ret
      exact ⟨by first | rfl | (rw [← HRS.out]; rfl), HK.out, HO.out⟩
end Go.Proofs.YtbnjbclkmjjkhaaDoor
