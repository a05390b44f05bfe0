/- stream.Decode's closure take, walked: the next n bits of the bytes as a number; behind their end stand zeros. Condition: its three boxes lie apart, the bytes lie in memory. -/
import Derived.Test.YtbnjbclkmjjkhaaDoorBtC
import Derived.RangeFuncBox
namespace Go.Proofs.YtbnjbclkmjjkhaaDoor
open Go.RowKit

/-- bit p of bytes -/
def bitN (l : List UInt8) (p : Nat) : Nat := (l.getD (p / 8) 0).toNat / 2 ^ (7 - p % 8) % 2
theorem bitN_le (l : List UInt8) (p : Nat) : bitN l p ≤ 1 := by unfold bitN; omega
theorem bitN_far {l : List UInt8} {p : Nat} (h : 8 * l.length ≤ p) : bitN l p = 0 := by
  have : l.length ≤ p / 8 := by omega
  simp [bitN, List.getD_eq_getElem?_getD, List.getElem?_eq_none this]
/-- n bits from bit p on, as a number -/
def tkv (l : List UInt8) (p : Nat) : Nat → Nat
  | 0 => 0
  | n + 1 => 2 * tkv l p n + bitN l (p + n)
theorem tkv_lt (l : List UInt8) (p : Nat) : ∀ n, tkv l p n < 2 ^ n
  | 0 => by simp [tkv]
  | n + 1 => by
    have h1 := tkv_lt l p n
    have h2 := bitN_le l (p + n)
    simp only [tkv]; omega
theorem tkv_small (l : List UInt8) (p : Nat) {n : Nat} (h : n ≤ 16) : tkv l p n < 65536 :=
  Nat.lt_of_lt_of_le (tkv_lt l p n) (Nat.pow_le_pow_right (by omega) h)
/-- the bytes in front of the last four -/
def body (l : List UInt8) : List UInt8 := l.take (l.length - 4)
theorem body_len (l : List UInt8) : (body l).length = l.length - 4 := by simp [body]
theorem bitN_body {l : List UInt8} {p : Nat} (h : p < 8 * (l.length - 4)) : bitN (body l) p = (l.getD (p / 8) 0).toNat / 2 ^ (7 - p % 8) % 2 := by
  have : p / 8 < l.length - 4 := by omega
  simp only [bitN, body, List.getD_eq_getElem?_getD, List.getElem?_take, if_pos this]
theorem or_bit (x b : Nat) (hx : x < 65536) (hb : b < 2) : bits BinOp.or .i64 ((2 * x : Nat) : Int) (b : Int) = ((2 * x + b : Nat) : Int) := by
  have h := (bits_nat .i64 63 (by decide) (fun n h0 h1 => by rw [IntKind.wrap_i64]; omega) (2 * x) b (by omega) (by omega)).2
  rw [h]
  obtain rfl | rfl : b = 0 ∨ b = 1 := by omega
  · simp
  · congr 1
    apply Nat.eq_of_testBit_eq
    intro k
    cases k with
    | zero => simp
    | succ k =>
      rw [Nat.testBit_or, Nat.testBit_succ, Nat.testBit_succ, Nat.testBit_succ, show 2 * x / 2 = x by omega, show (2 * x + 1) / 2 = x by omega]
      simp
theorem set1_heap0 {W : World} {b : Nat} {cur : Array Value} {t : TypeId} {z : Nat × Nat} (h : W.heap[b]? = some (.cells cur t z)) (o : Nat) (v : Value) : (W.setCell ⟨b, o, none⟩ v).heap[b]? = some (.cells (cur.setIfInBounds o v) t z) := by
  simp [World.setCell, Array.getElem?_modify, h]
/-- one block's cells are written -/
structure Typ (b : Nat) (w w1 : World) : Prop where
  only : Only (fun k => k = b) w w1
  typ : ∀ cur t z, w.heap[b]? = some (Obj.cells cur t z) → ∃ cur', w1.heap[b]? = some (Obj.cells cur' t z)
theorem Typ.refl (b : Nat) (w : World) : Typ b w w := ⟨Only.refl _ _, fun cur _ _ h => ⟨cur, h⟩⟩
theorem Typ.setCell {b : Nat} {w w1 : World} (h : Typ b w w1) (o : Nat) (v : Value) : Typ b w (w1.setCell ⟨b, o, none⟩ v) :=
  ⟨h.only.setCell (p := ⟨b, o, none⟩) (fun _ => rfl) v, fun cur t z hc => by
    obtain ⟨cur', h'⟩ := h.typ cur t z hc
    exact ⟨_, set1_heap0 h' o v⟩⟩
theorem Typ.drew {b : Nat} {w w1 : World} (h : Typ b w w1) : Typ b w w1.drew := ⟨h.only.drew, h.typ⟩

/-- the boxes of at, end and b -/
structure TakeAt (l : List UInt8) (A : Option Addr) (c bA bE bB : Nat) (W : World) (p : Nat) : Prop where
  pa : W.cell? ⟨bA, 0, none⟩ = some (.int .i64 p)
  fr : W.frozen? ⟨bA, 0, none⟩ = false
  pe : W.cell? ⟨bE, 0, none⟩ = some (.int .i64 ((8 * (l.length - 4) : Nat) : Int))
  pb : W.cell? ⟨bB, 0, none⟩ = some (.slice A l.length c)
  mem : Mem W A l

theorem TakeAt.heap {l : List UInt8} {A : Option Addr} {c bA bE bB p : Nat} {W W' : World} (h : TakeAt l A c bA bE bB W p) (hw : W'.heap = W.heap) : TakeAt l A c bA bE bB W' p := by
  have hc : ∀ a, W'.cell? a = W.cell? a := fun a => by simp [World.cell?, hw]
  have hf : ∀ a, W'.frozen? a = W.frozen? a := fun a => by simp [World.frozen?, hw]
  refine ⟨(hc _).trans h.pa, (hf _).trans h.fr, (hc _).trans h.pe, (hc _).trans h.pb, fun hn => ?_⟩
  obtain ⟨b, off, e, hr⟩ := h.mem hn
  exact ⟨b, off, e, fun k hk => (hc _).trans (hr k hk)⟩
theorem TakeAt.step {l : List UInt8} {A : Option Addr} {c bA bE bB p : Nat} {W : World} (h : TakeAt l A c bA bE bB W p) (hE : bE ≠ bA) (hB : bB ≠ bA) (hA : ¬ blockOf A bA) :
    TakeAt l A c bA bE bB (W.setCell ⟨bA, 0, none⟩ (.int .i64 ((p : Int) + 1))) (p + 1) := by
  have ho : Only (fun k => k = bA) W (W.setCell ⟨bA, 0, none⟩ (.int .i64 ((p : Int) + 1))) := Only.setCell (p := ⟨bA, 0, none⟩) (Only.refl (fun k => k = bA) W) (fun _ => rfl) _
  refine ⟨?_, (World.frozen?_setCell ..).trans h.fr, ho.cell h.pe hE, ho.cell h.pb hB, ?_⟩
  · rw [World.cell?_setCell_same' _ _ _ (by rw [h.pa]; rfl)]; push_cast; rfl
  · intro hn
    obtain ⟨b, off, e, hr⟩ := h.mem hn
    exact ⟨b, off, e, fun k hk => ho.cell (hr k hk) (fun e' => hA ⟨_, e, e'.symm⟩)⟩

set_option maxRecDepth 100000 in
set_option maxHeartbeats 8000000 in
theorem take_any (l : List UInt8) (A : Option Addr) (c bA bE bB p n : Nat) (w : World) (hT : TakeAt l A c bA bE bB w p) (hE : bE ≠ bA) (hB : bB ≠ bA) (hA : ¬ blockOf A bA) (hl : l.length ≤ 1000000000) (hp : p ≤ 1000000000000) (hn : n ≤ 16) :
    Calls Tryd.prog 23 #[.int .i64 n, .pointer (some ⟨bA, 0, none⟩), .pointer (some ⟨bE, 0, none⟩), .pointer (some ⟨bB, 0, none⟩)] w fun e w' => e = .returned (.int .i64 (tkv (body l) p n)) ∧ TakeAt l A c bA bE bB w' (p + n) ∧ Typ bA w w' := by
  have HT := Lib.hid hT; have HA := Lib.hid hA; have HEB := Lib.hid (And.intro hE hB)
  clear hT hA hE hB
  go_enter Tryd.func23, Tryd.ntmps23
  go_wp2_with fail
  go_loopw [6, 8] (fun vv vi wr => ∃ i : Nat, i ≤ n ∧ vi = .int .i64 i ∧ vv = .int .i64 (tkv (body l) p i) ∧ Hid (TakeAt l A c bA bE bB wr (p + i)) ∧ Hid (Typ bA w wr)) (fun _ vi _ => n - (intOf vi).toNat)
  case atStart => exact ⟨0, by omega, rfl, rfl, HT, Lib.hid (Typ.refl _ _)⟩
  case round =>
    obtain ⟨i, hi, rfl, rfl, HK, HO⟩ := hrel
    by_cases hlt : i < n
    · have hx := tkv_small (body l) p (n := i) (by omega)
      have c1 := HK.out.pa; have z1 := HK.out.fr; have c2 := HK.out.pe; have c3 := HK.out.pb
      by_cases hin : p + i < 8 * (l.length - 4)
      · have hd : decide (((p + i : Nat) : Int) < ((8 * (l.length - 4) : Nat) : Int)) = true := decide_eq_true (by omega)
        obtain ⟨ba, oa, rfl, x0⟩ := HK.out.mem.at_ (k := (p + i) / 8) (by omega)
        have HY : Hid ((l.getD ((p + i) / 8) 0).toNat / 2 ^ (7 - (p + i) % 8) % 2 = bitN (body l) (p + i)) := Lib.hid (bitN_body hin).symm
        have hy : (l.getD ((p + i) / 8) 0).toNat < 256 := (l.getD ((p + i) / 8) 0).toNat_lt
        generalize (l.getD ((p + i) / 8) 0).toNat = y at *
        generalize hX' : tkv (body l) p i = x at *
        generalize hP' : p + i = P at *
        have HXE := Lib.hid hX'; have HPE := Lib.hid hP'
        have hPb : (P : Int) ≤ 1000000000016 := by omega
        generalize he : 8 * (l.length - 4) = E at *
        go_wp2_with fail
        obtain ⟨q, hq⟩ : ∃ q, q = P / 8 := ⟨_, rfl⟩
        obtain ⟨m, hm⟩ : ∃ m, m = P % 8 := ⟨_, rfl⟩
        obtain ⟨r, hr⟩ : ∃ r, r = 7 - m := ⟨_, rfl⟩
        rw [← hq] at x0
        rw [← hm, ← hr] at HY
        have e1 : IntKind.i64.wrap ((P : Int) / 8) = q := by rw [IntKind.wrap_i64]; omega
        have e2 : (P : Int).tmod 8 = m := by rw [Int.tmod_eq_emod_of_nonneg (by omega)]; omega
        have e3 : IntKind.i64.wrap (7 - (m : Int)) = r := by rw [IntKind.wrap_i64]; omega
        have hr7 : r ≤ 7 := by omega
        have hql : q < l.length := by omega
        clear hq hm hr he hX' hP'
        refine wp_region_z (fun w' => w'.cell? ⟨bA, 0, none⟩ = some (.int .i64 P) ∧ w'.cell? ⟨bB, 0, none⟩ = some (.slice (some ⟨ba, oa, none⟩) l.length c) ∧ w'.cell? ⟨ba, oa + q, none⟩ = some (.int .u8 y)) [0, 1, 2, 3, 4, 5, 6, 7, 8, 9, 10, 11, 12, 13] [] (by kernel_rfl) (by kernel_rfl) (by kernel_rfl) (by rfl) (fun _ _ _ _ e h => ⟨e.symm.trans h.1, h.2⟩) ⟨c1, c3, x0⟩ ?_
        iterate 14
          refine Heads.step (v := ?_) rfl (by first | (go_simp; done) | rfl) (fun W hW => ?_) ?_
          rotate_left
          · (obtain ⟨t0, t1, t2⟩ := hW; go_simp; try with_reducible rfl)
        refine AnyZ.done (by kernel_rfl) ?_
        go_simp
        have hEA : IntKind.i64.wrap (bits BinOp.and IntKind.u8 ((y : Int) / 2 ^ r) 1) = ((y / 2 ^ r % 2 : Nat) : Int) := by
          have h0 : (y : Int) / 2 ^ r = ((y / 2 ^ r : Nat) : Int) := by push_cast; rfl
          have hle : y / 2 ^ r ≤ y := Nat.div_le_self _ _
          rw [h0]
          generalize y / 2 ^ r = u at *
          have h1 := bits_mask .u8 8 (by decide) wraps_u8 1 (by decide) (u : Int) (by omega) (by omega)
          rw [show (2 : Int) ^ 1 - 1 = 1 from rfl] at h1
          rw [h1, IntKind.wrap_i64]
          omega
        rw [hEA, HY.out]
        have hb1 := bitN_le (body l) P
        have hor : bits BinOp.or IntKind.i64 ((x : Int) * 2) ((bitN (body l) P : Nat) : Int) = ((2 * x + bitN (body l) P : Nat) : Int) := by
          have := or_bit x (bitN (body l) P) hx (by omega)
          rw [← this]; congr 1; omega
        rw [hor]
        have HXN : Hid (2 * x + bitN (body l) P = tkv (body l) p (i + 1)) := Lib.hid (by rw [← HXE.out, ← HPE.out]; rfl)
        clear hEA hor e1 e2 e3 x0 c2 c3
        generalize 2 * x + bitN (body l) P = x1 at *
        go_wp2_with fail
        have HT1 : Hid (TakeAt l (some ⟨ba, oa, none⟩) c bA bE bB ((wr.setCell ⟨bA, 0, none⟩ (.int .i64 ((P : Int) + 1))).drew) (p + (i + 1))) := Lib.hid (by
          rw [show p + (i + 1) = P + 1 by rw [← HPE.out]; omega]
          exact (HK.out.step HEB.out.1 HEB.out.2 HA.out).heap rfl)
        go_roundw
        case rel => exact ⟨i + 1, by omega, by go_num, by rw [HXN.out], HT1, Lib.hid ((HO.out.setCell 0 _).drew)⟩
        case measure => simp [intOf]; omega
      · have hd : decide (((p + i : Nat) : Int) < ((8 * (l.length - 4) : Nat) : Int)) = false := decide_eq_false (by omega)
        have HXN : Hid (2 * tkv (body l) p i = tkv (body l) p (i + 1)) := Lib.hid (by simp only [tkv]; rw [bitN_far (by rw [body_len]; omega), Nat.add_zero])
        generalize hP' : p + i = P at *
        have HPE := Lib.hid hP'
        have hPb : (P : Int) ≤ 1000000000016 := by omega
        generalize he : 8 * (l.length - 4) = E at *
        generalize tkv (body l) p i = x at *
        clear hP' he
        have e1 : (x : Int) * 2 = ((2 * x : Nat) : Int) := by push_cast; omega
        go_wp2_with fail
        have HT1 : Hid (TakeAt l A c bA bE bB (wr.setCell ⟨bA, 0, none⟩ (.int .i64 ((P : Int) + 1))) (p + (i + 1))) := Lib.hid (by
          rw [show p + (i + 1) = P + 1 by rw [← HPE.out]; omega]
          exact (HK.out.step HEB.out.1 HEB.out.2 HA.out).heap rfl)
        go_roundw
        case rel => exact ⟨i + 1, by omega, by go_num, by rw [← HXN.out]; go_num, HT1, Lib.hid (HO.out.setCell 0 _)⟩
        case measure => simp [intOf]; omega
    · obtain rfl : i = n := by omega
      go_wp2_with fail
      go_ret
      exact ⟨rfl, HK.out, HO.out⟩
end Go.Proofs.YtbnjbclkmjjkhaaDoor
