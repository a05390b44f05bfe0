/- aiger.seven and the reference's seven, walked. Condition: the slice is nil or the call's own. -/
import Derived.Test.YthmjbenofpbmbaaDoorSvP
import Derived.Test.YthmjbenofpbmbaaDoorMrk
namespace Go.Proofs.YthmjbenofpbmbaaDoor
open Go.RowKit

/-- a slice of bytes of the call's own -/
def Byt (base : Nat) (w : World) (A : Option Addr) (c : Nat) (l : List UInt8) : Prop := OwnB base w A l.length c (Lib.byteCells l)
theorem Byt.nil (base : Nat) (w : World) : Byt base w none 0 [] := OwnB.nil _ _
theorem Byt.alloc {base : Nat} {w : World} {A : Option Addr} {c : Nat} {l : List UInt8} (h : Byt base w A c l) (o : Obj) : Byt base (w.alloc o) A c l := OwnB.alloc h o
theorem Byt.below {base : Nat} {w w1 : World} {A : Option Addr} {c : Nat} {l : List UInt8} (h : Byt base w A c l) (k : Below w.heap.size w w1) : Byt base w1 A c l := OwnB.below h k

theorem Byt.snoc {base : Nat} {w : World} {A : Option Addr} {c : Nat} {l : List UInt8} {x : UInt8} (h : OwnB base w A (l.length + 1) c (Lib.byteCells l ++ [.int .u8 (x.toNat : Int)])) : Byt base w A c (l ++ [x]) := by
  unfold Byt
  rw [Lib.byteCells_append, List.length_append]; exact h
theorem Byt.far {A A1 A' : Option Addr} {w wr : World} {o : Obj} (h : ∀ k, blockOf A1 k → blockOf A k ∨ w.heap.size ≤ k) (h' : ∀ k, blockOf A' k → blockOf A1 k ∨ k = (wr.alloc o).heap.size) (hs : w.heap.size ≤ wr.heap.size) : ∀ k, blockOf A' k → blockOf A k ∨ w.heap.size ≤ k := fun k hk => by
  rcases h' k hk with h1 | h1
  · exact h k h1
  · right; rw [h1]; simp; omega

/-- what a writer of bytes leaves: these bytes; but for the slice's own block, what was there stands -/
def Bytes (base : Nat) (A : Option Addr) (w : World) (l : List UInt8) (e : Ending) (w' : World) : Prop :=
  ∃ A' c', e = .returned (.slice A' l.length c') ∧ Byt base w' A' c' l ∧ Only (blockOf A) w w' ∧ ∀ k, blockOf A' k → blockOf A k ∨ w.heap.size ≤ k

set_option maxHeartbeats 1000000 in
theorem seven_any (base : Nat) (A : Option Addr) (c : Nat) (l : List UInt8) (n : Nat) (w : World) (h : Byt base w A c l) (hn : n < 1000000000) (hl : l.length ≤ 1000000000) (hb : base ≤ w.heap.size) :
    Calls Tryd.prog 32 #[.slice A l.length c, .int .i64 n] w (Bytes base A w (l ++ sevenB n)) := by
  have H := Lib.hid h; clear h
  go_enter Tryd.func32, Tryd.ntmps32
  go_wp2_with fail
  go_loopw [0, 1] (fun b v wr => ∃ (m : Nat) (A1 : Option Addr) (c1 : Nat) (l1 : List UInt8), v = .int .i64 m ∧ b = .slice A1 l1.length c1 ∧ m ≤ n ∧ Hid (Byt base wr A1 c1 l1 ∧ l1 ++ sevenB m = l ++ sevenB n ∧ Only (blockOf A) w wr ∧ ∀ k, blockOf A1 k → blockOf A k ∨ w.heap.size ≤ k)) (fun _ v _ => (intOf v).toNat)
  case atStart => exact ⟨n, A, c, l, rfl, rfl, Nat.le_refl _, Lib.hid ⟨H.out, rfl, Only.refl _ _, fun k hk => .inl hk⟩⟩
  case round =>
    obtain ⟨m, A1, c1, l1, rfl, rfl, hm, HR⟩ := hrel
    have HW := Lib.hid HR.out.1
    have hsz : base ≤ wr.heap.size := Nat.le_trans hb HR.out.2.2.1.size
    have hll : l1.length ≤ 1000000010 := by
      have h1 := congrArg List.length HR.out.2.1
      have h2 := seven_len5 (n := n) (by omega)
      simp only [List.length_append] at h1; omega
    by_cases h127 : 127 < m
    · have hbits : bits BinOp.or .u8 ((m : Int) % 256) 128 = ((UInt8.ofNat (m % 128 + 128)).toNat : Int) := by
        have h1 := or128 ⟨m % 256, by omega⟩
        simp only at h1
        rw [u8_of (by omega), show (m : Int) % 256 = ((m % 256 : Nat) : Int) by omega, h1, show m % 256 % 128 = m % 128 by omega]
      have HE := Lib.hid (seven_more h127)
      generalize UInt8.ofNat (m % 128 + 128) = x at *
      go_wp2_with (at_builtin; refine wp_append_b rfl (.tmp 9) (.tmp 13) rfl base A1 l1.length c1 _ rfl (OwnB.alloc HW.out _) _ 1 1 _ rfl (src_new _ _ _ rfl) (by omega) (sz_alloc hsz) ?_; intro A' c' w' ho hk hb2)
      have HN : Hid (Byt base w' A' c' (l1 ++ [x]) ∧ (l1 ++ [x]) ++ sevenB (m / 128) = l ++ sevenB n ∧ Only (blockOf A) w w' ∧ ∀ k, blockOf A' k → blockOf A k ∨ w.heap.size ≤ k) := by
        refine Lib.hid ⟨Byt.snoc ho, ?_, (HR.out.2.2.1.alloc _).then_ hk (fun i hi c => (HR.out.2.2.2 i c).resolve_right (by omega)), Byt.far HR.out.2.2.2 hb2 HR.out.2.2.1.size⟩
        rw [← HR.out.2.1, HE.out, List.append_assoc]; rfl
      clear ho hk hb2
      go_wp2_with fail
      go_roundw
      case rel => exact ⟨m / 128, A', c', l1 ++ [x], by simp, by simp, by omega, HN⟩
      case measure => simp [intOf]; omega
    · have HE := Lib.hid (seven_last h127)
      have hm8 : ((m : Int)) = ((UInt8.ofNat m).toNat : Int) := (u8_of (by omega)).symm
      have HM8 := Lib.hid hm8; clear hm8
      go_wp2_with (at_builtin; refine wp_append_b rfl (.tmp 15) (.tmp 18) rfl base A1 l1.length c1 _ rfl (OwnB.alloc HW.out _) _ 1 1 _ rfl (src_new _ _ _ rfl) (by omega) (sz_alloc hsz) ?_; intro A' c' w' ho hk hb2)
      rw [HM8.out] at ho hk
      have HN : Hid (Byt base w' A' c' (l ++ sevenB n) ∧ Only (blockOf A) w w' ∧ ∀ k, blockOf A' k → blockOf A k ∨ w.heap.size ≤ k) := by
        have he : l ++ sevenB n = l1 ++ [UInt8.ofNat m] := by rw [← HR.out.2.1, HE.out]
        rw [he]
        exact Lib.hid ⟨Byt.snoc ho, (HR.out.2.2.1.alloc _).then_ hk (fun i hi c => (HR.out.2.2.2 i c).resolve_right (by omega)), Byt.far HR.out.2.2.2 hb2 HR.out.2.2.1.size⟩
      have hle : l1.length + 1 = (l ++ sevenB n).length := by rw [← HR.out.2.1, HE.out]; simp
      have HLE := Lib.hid hle; clear hle
      clear ho hk hb2
      go_wp2_with fail
      go_ret
      exact ⟨A', c', by rw [← HLE.out]; rfl, HN.out⟩

theorem seven_int (base : Nat) (A : Option Addr) (c : Nat) (l : List UInt8) (n : Int) (w : World) (h : OwnB base w A l.length c (Lib.byteCells l)) (h0 : 0 ≤ n) (hn : n < 1000000000) (hl : l.length ≤ 1000000000) (hb : base ≤ w.heap.size) :
    Calls Tryd.prog 32 #[.slice A l.length c, .int .i64 n] w (Bytes base A w (l ++ sevenB n.toNat)) := by
  obtain ⟨m, rfl⟩ := Int.eq_ofNat_of_zero_le h0
  exact seven_any base A c l m w h (by omega) hl hb
theorem Bytes.below {base : Nat} {A : Option Addr} {w w' : World} {n c : Nat} {xs : List Value} (h : OwnB base w A n c xs) (k : Only (blockOf A) w w') (hb : base ≤ w.heap.size) : Below base w w' := k.below (fun j _ hs => (h.base j hs).1) hb

set_option maxHeartbeats 1000000 in
theorem refSeven_any (n : Nat) (w : World) (hn : n < 1000000000) :
    Calls Tryd.prog 34 #[.int .i64 n] w (Bytes w.heap.size none w (sevenB n)) := by
  go_enter Tryd.func34, Tryd.ntmps34
  go_wp2_with fail
  go_loopw [0, 3] (fun v b wr => ∃ (m : Nat) (A1 : Option Addr) (c1 : Nat) (l1 : List UInt8), v = .int .i64 m ∧ b = .slice A1 l1.length c1 ∧ m ≤ n ∧ Hid (Byt w.heap.size wr A1 c1 l1 ∧ l1 ++ sevenB m = sevenB n ∧ Only (blockOf none) w wr ∧ ∀ k, blockOf A1 k → blockOf none k ∨ w.heap.size ≤ k)) (fun v _ _ => (intOf v).toNat)
  case atStart => exact ⟨n, none, 0, [], rfl, rfl, Nat.le_refl _, Lib.hid ⟨Byt.nil _ _, rfl, Only.refl _ _, fun k hk => .inl hk⟩⟩
  case round =>
    obtain ⟨m, A1, c1, l1, rfl, rfl, hm, HR⟩ := hrel
    have HW := Lib.hid HR.out.1
    have hsz : w.heap.size ≤ wr.heap.size := HR.out.2.2.1.size
    have hll : l1.length ≤ 10 := by
      have h1 := congrArg List.length HR.out.2.1
      have h2 := seven_len5 (n := n) (by omega)
      simp only [List.length_append] at h1; omega
    by_cases h127 : 127 < m
    · have hbits : ((m : Int) % 128 + 128) = ((UInt8.ofNat (m % 128 + 128)).toNat : Int) := by rw [u8_of (by omega)]; omega
      have HB := Lib.hid hbits; clear hbits
      have HE := Lib.hid (seven_more h127)
      generalize UInt8.ofNat (m % 128 + 128) = x at *
      go_wp2_with (at_builtin; refine wp_append_b rfl (.tmp 6) (.tmp 11) rfl w.heap.size A1 l1.length c1 _ rfl (OwnB.alloc HW.out _) _ 1 1 _ rfl (src_new _ _ _ rfl) (by omega) (sz_alloc hsz) ?_; intro A' c' w' ho hk hb2)
      rw [HB.out] at ho hk
      have HN : Hid (Byt w.heap.size w' A' c' (l1 ++ [x]) ∧ (l1 ++ [x]) ++ sevenB (m / 128) = sevenB n ∧ Only (blockOf none) w w' ∧ ∀ k, blockOf A' k → blockOf none k ∨ w.heap.size ≤ k) := by
        refine Lib.hid ⟨Byt.snoc ho, ?_, (HR.out.2.2.1.alloc _).then_ hk (fun i hi c => (HR.out.2.2.2 i c).resolve_right (by omega)), Byt.far HR.out.2.2.2 hb2 HR.out.2.2.1.size⟩
        rw [← HR.out.2.1, HE.out, List.append_assoc]; rfl
      clear ho hk hb2
      go_wp2_with fail
      go_roundw
      case rel => exact ⟨m / 128, A', c', l1 ++ [x], by simp, by simp, by omega, HN⟩
      case measure => simp [intOf]; omega
    · have HE := Lib.hid (seven_last h127)
      have hm8 : ((m : Int)) = ((UInt8.ofNat m).toNat : Int) := (u8_of (by omega)).symm
      have HM8 := Lib.hid hm8; clear hm8
      go_wp2_with (at_builtin; refine wp_append_b rfl (.tmp 15) (.tmp 18) rfl w.heap.size A1 l1.length c1 _ rfl (OwnB.alloc HW.out _) _ 1 1 _ rfl (src_new _ _ _ rfl) (by omega) (sz_alloc hsz) ?_; intro A' c' w' ho hk hb2)
      rw [HM8.out] at ho hk
      have HN : Hid (Byt w.heap.size w' A' c' (sevenB n) ∧ Only (blockOf none) w w' ∧ ∀ k, blockOf A' k → blockOf none k ∨ w.heap.size ≤ k) := by
        have he : sevenB n = l1 ++ [UInt8.ofNat m] := by rw [← HR.out.2.1, HE.out]
        rw [he]
        exact Lib.hid ⟨Byt.snoc ho, (HR.out.2.2.1.alloc _).then_ hk (fun i hi c => (HR.out.2.2.2 i c).resolve_right (by omega)), Byt.far HR.out.2.2.2 hb2 HR.out.2.2.1.size⟩
      have hle : l1.length + 1 = (sevenB n).length := by rw [← HR.out.2.1, HE.out]; simp
      have HLE := Lib.hid hle; clear hle
      clear ho hk hb2
      go_wp2_with fail
      go_ret
      exact ⟨A', c', by rw [← HLE.out]; rfl, HN.out⟩

theorem refSeven_int (n : Int) (w : World) (h0 : 0 ≤ n) (hn : n < 1000000000) :
    Calls Tryd.prog 34 #[.int .i64 n] w (Bytes w.heap.size none w (sevenB n.toNat)) := by
  obtain ⟨m, rfl⟩ := Int.eq_ofNat_of_zero_le h0
  exact refSeven_any m w (by omega)
theorem Bytes.call {w w' : World} (k : Only (blockOf none) w w') : Below w.heap.size w w' := k.all (fun k _ h => by obtain ⟨a, e, _⟩ := h; cases e)
theorem Byt.join {base : Nat} {w : World} {A : Option Addr} {c : Nat} {l s L : List UInt8} (h : OwnB base w A (l.length + s.length) c (Lib.byteCells l ++ Lib.byteCells s)) (e : L = l ++ s) : OwnB base w A L.length c (Lib.byteCells L) := by
  subst e
  rw [Lib.byteCells_append, List.length_append]; exact h

theorem most_any (a b : Int) (w : World) : Calls Tryd.prog 33 #[.int .i64 a, .int .i64 b] w fun e w' => e = .returned (.int .i64 (max a b)) ∧ w' = w := by
  by_cases h : a < b
  · go_enter Tryd.func33, Tryd.ntmps33
    go_wp2
    go_ret
    exact ⟨ret_int (by omega), rfl⟩
  · go_enter Tryd.func33, Tryd.ntmps33
    go_wp2
    go_ret
    exact ⟨ret_int (by omega), rfl⟩
end Go.Proofs.YthmjbenofpbmbaaDoor
