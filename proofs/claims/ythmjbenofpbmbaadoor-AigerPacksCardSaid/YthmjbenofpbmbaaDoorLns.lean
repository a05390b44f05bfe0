/- aiger.lines and what a builder keeps: numbers, a blank between two, and the line's end. Conditions: the builder is the call's own, the table of powers of ten reads as the program's text lays it, the text takes at most 2^46 bytes. -/
import Derived.Test.YthmjbenofpbmbaaDoorBld
namespace Go.Proofs.YthmjbenofpbmbaaDoor
open Go.RowKit

theorem Wrote.refl {B b : Nat} {l : List UInt8} {w : World} (h : Lib.IsBuilderF 37 5 B b (Lib.byteCells l) w) : Wrote B b l w w := ⟨h, Below.refl _ _, Lib.OthersKept.refl _ _ _⟩
theorem Wrote.trans {B b : Nat} {l l' : List UInt8} {w w1 w2 : World} (h : Wrote B b l w w1) (k : Wrote B b l' w1 w2) : Wrote B b l' w w2 := ⟨k.1, h.2.1.trans k.2.1, h.2.2.trans k.2.2⟩
theorem others_of_below {e : TypeId} {b : Option Nat} {w w1 : World} (h : Below w.heap.size w w1) : Lib.OthersKept e b w w1 := fun k o hk _ _ => by
  rw [h.block k (Array.getElem?_eq_some_iff.1 hk).1]; exact hk
theorem builder_kept {T e : TypeId} {B b : Nat} {bs : List Value} {w w1 : World} (h : Lib.IsBuilderF T e B b bs w) (k : Below w.heap.size w w1) : Lib.IsBuilderF T e B b bs w1 := by
  have hg : w.grownBy w1 none := ⟨k.os, k.tape, k.output, k.size, fun i hi _ => k.block i hi⟩
  have one : ∀ p, Lib.BuilderAtF T e B b p bs w → Lib.BuilderAtF T e B b p bs w1 := fun p ⟨hB, v, hb, ho, hne⟩ =>
    ⟨hB, v, by rw [k.block b (Array.getElem?_eq_some_iff.1 hb).1]; exact hb, ho.kept hg (by cases v.ownBlock <;> simp), hne⟩
  exact h.imp (one _) (one _)
theorem builder_lt {T e : TypeId} {B b : Nat} {bs : List Value} {w : World} (h : Lib.IsBuilderF T e B b bs w) : b < w.heap.size := h.elim (·.lt) (·.lt)
theorem Wrote.call {B b : Nat} {l : List UInt8} {w w1 w2 : World} (h : Wrote B b l w w1) (k : Below w1.heap.size w1 w2) (hB : B ≤ w1.heap.size) : Wrote B b l w w2 :=
  ⟨builder_kept h.1 k, h.2.1.trans (k.mono hB), h.2.2.trans (others_of_below k)⟩
theorem Wrote.alloc {B b : Nat} {l : List UInt8} {w w1 : World} (h : Wrote B b l w w1) (hB : B ≤ w1.heap.size) (o : Obj) : Wrote B b l w (w1.alloc o) := h.call ((Below.refl _ _).alloc (Nat.le_refl _) o) hB
theorem Wrote.drew {B b : Nat} {l : List UInt8} {w w1 : World} (h : Wrote B b l w w1) (hB : B ≤ w1.heap.size) : Wrote B b l w w1.drew := h.call (Below.refl _ _).drew hB
theorem Wrote.text {B b : Nat} {l l' : List UInt8} {w w1 : World} (h : Wrote B b l w w1) (e : l = l') : Wrote B b l' w w1 := e ▸ h

/-- the table of powers of ten reads as laid, in this world and in each that keeps what lies below S -/
def Tab (S : Nat) (w : World) : Prop := ∀ w', Below S w w' → Lib.TabIs Tryd.prog w' "internal/strconv.uint64pow10" .u64 Lib.pow10Tab
theorem Tab.here {S : Nat} {w : World} (h : Tab S w) : Lib.TabIs Tryd.prog w "internal/strconv.uint64pow10" .u64 Lib.pow10Tab := h w (Below.refl _ _)
theorem Tab.next {S B : Nat} {w w1 : World} (h : Tab S w) (k : Below B w w1) (hS : S ≤ B) : Tab S w1 := fun w' hb => h w' ((k.mono hS).trans hb)

theorem itoa_any (n : Int) (w : World) (h0 : -9223372036854775808 ≤ n) (h1 : n ≤ 9223372036854775807) (ht : Lib.TabIs Tryd.prog w "internal/strconv.uint64pow10" .u64 Lib.pow10Tab) :
    Calls Tryd.prog 13 #[.int .i64 n] w fun e w' => e = .returned (.string (str (Lib.itoa n))) ∧ Below w.heap.size w w' := by
  refine (Tryd.strconv_Itoa n h0 h1 w ht).mono ?_
  rintro e w' ⟨rfl, k, os, rfl⟩
  refine ⟨rfl, ?_⟩
  exact ⟨rfl, rfl, rfl, by simp [Sort.grow, World.drewN], fun i hi => by
    show (w.heap ++ os)[i]? = w.heap[i]?
    rw [Array.getElem?_append_left hi]⟩

/-- block k holds just these cells, of type T -/
def BoxT (w : World) (k : Nat) (T : TypeId) (cs : List Value) : Prop := w.heap[k]? = some (.cells cs.toArray T (0, 0))
theorem BoxT.new (w : World) (cs : List Value) (T : TypeId) : BoxT (w.alloc (.cells cs.toArray T)) w.heap.size T cs := by
  show (w.heap.push _)[w.heap.size]? = _; simp
theorem BoxT.lt {w : World} {k : Nat} {T : TypeId} {cs : List Value} (h : BoxT w k T cs) : k < w.heap.size := (Array.getElem?_eq_some_iff.1 h).1
theorem BoxT.below {w w1 : World} {k : Nat} {T : TypeId} {cs : List Value} (h : BoxT w k T cs) (hb : Below w.heap.size w w1) : BoxT w1 k T cs := (hb.block k h.lt).trans h
theorem BoxT.wrote {B b : Nat} {l : List UInt8} {w w1 : World} {k : Nat} {T : TypeId} {cs : List Value} (h : BoxT w k T cs) (hw : Wrote B b l w w1) (hk : k ≠ b) (hT : T ≠ 5) : BoxT w1 k T cs :=
  hw.2.2 k _ h (by simpa using hk) (fun c fz he => by injection he with _ e _; exact hT e)
theorem BoxT.at_ {w : World} {k : Nat} {T : TypeId} {cs : List Value} (h : BoxT w k T cs) : BoxAt w k cs := fun j v e => by
  simpa [World.cell?, show w.heap[k]? = _ from h] using e

/-- these numbers stand in block nb -/
def Nums (w : World) (nb n : Nat) (X : Nat → Int) : Prop := ∃ cs T fr, w.heap[nb]? = some (.cells cs T fr) ∧ T ≠ 5 ∧ ∀ k, k < n → cs[k]? = some (.int .i64 (X k))
theorem Nums.kept {w w1 : World} {nb n b : Nat} {X : Nat → Int} (h : Nums w nb n X) (k : Lib.OthersKept 5 (some b) w w1) (hne : nb ≠ b) : Nums w1 nb n X := by
  obtain ⟨cs, T, fr, hb, hT, hc⟩ := h
  exact ⟨cs, T, fr, k nb _ hb (by simpa using hne) (fun c fz he => by injection he with _ e _; exact hT e), hT, hc⟩
theorem Nums.cell {w : World} {nb n : Nat} {X : Nat → Int} (h : Nums w nb n X) {k : Nat} (hk : k < n) : w.cell? ⟨nb, k, none⟩ = some (.int .i64 (X k)) := by
  obtain ⟨cs, T, fr, hb, hT, hc⟩ := h
  simpa [World.cell?, hb] using hc k hk

set_option maxHeartbeats 1000000 in
theorem lines_any (S B b nb : Nat) (l : List UInt8) (n c : Nat) (X : Nat → Int) (w : World) (h : Lib.IsBuilderF 37 5 B b (Lib.byteCells l) w) (hN : Nums w nb n X) (hnb : nb ≠ b)
    (hX : ∀ k, k < n → -9223372036854775808 ≤ X k ∧ X k ≤ 9223372036854775807) (ht : Tab S w) (hS : S ≤ B) (hn : n ≤ 1000000) (hlen : l.length ≤ 70368744177664) (hBw : B ≤ w.heap.size) :
    Calls Tryd.prog 28 #[.pointer (some ⟨b, 0, none⟩), .slice (some ⟨nb, 0, none⟩) n c] w fun e w' => e = .returned (.tuple #[]) ∧ Wrote B b (l ++ upTo X n ++ [10]) w w' := by
  have HB := Lib.hid h; have HN := Lib.hid hN; have HX := Lib.hid hX; have HT := Lib.hid ht
  clear h hN hX ht
  go_enter Tryd.func28, Tryd.ntmps28
  go_wp2_with fail
  go_loopw [8] (fun i wr => ∃ k : Nat, k ≤ n ∧ i = .int .i64 k ∧ Hid (Wrote B b (l ++ upTo X k) w wr)) (fun i _ => n - (intOf i).toNat)
  case atStart => exact ⟨0, by omega, rfl, (Wrote.refl HB.out).text (by simp [upTo])⟩
  case round =>
    obtain ⟨k, hk, rfl, HW⟩ := hrel
    have hsz : B ≤ wr.heap.size := Nat.le_trans hBw HW.out.2.1.size
    by_cases hlt : k < n
    · have hc := (HN.out.kept HW.out.2.2 hnb).cell hlt
      have hx1 := (HX.out k hlt).1; have hx2 := (HX.out k hlt).2
      have hu := upTo_len (X := X) k (fun j hj => HX.out j (by omega))
      by_cases h0 : 0 < k
      · have HE := Lib.hid (show l ++ upTo X (k + 1) = l ++ upTo X k ++ [32] ++ Lib.itoa (X k) by simp [upTo, h0])
        go_wp2_with fail
        refine (writeByte_any B b _ 32 _ HW.out.1 (by simp; omega) hsz).mono ?_
        rintro e w1 ⟨rfl, k1⟩
        have HW1 := Lib.hid (HW.out.trans k1)
        have hs1 : B ≤ w1.heap.size := Nat.le_trans hBw HW1.out.2.1.size
        clear k1 hc
        go_wp2_with fail
        refine (itoa_any (X k) _ hx1 hx2 (HT.out.next HW1.out.2.1 hS).here).mono ?_
        rintro e w2 ⟨rfl, k2⟩
        have HW2 := Lib.hid (HW1.out.call k2 hs1)
        have hs2 : B ≤ w2.heap.size := Nat.le_trans hBw HW2.out.2.1.size
        have hi := itoa_len _ hx1 hx2
        clear k2
        go_wp2_with fail
        refine (writeString_any B b _ _ _ HW2.out.1 (by simp; omega) hs2).mono ?_
        rintro e w3 ⟨rfl, k3⟩
        have HW3 := Lib.hid ((HW2.out.trans k3).text HE.out.symm)
        clear k3 hi hu
        go_wp2_with fail
        go_roundw
        case rel => exact ⟨k + 1, by omega, by go_num, HW3⟩
        case measure => simp [intOf]; omega
      · obtain rfl : k = 0 := by omega
        have HE := Lib.hid (show l ++ upTo X (0 + 1) = l ++ upTo X 0 ++ Lib.itoa (X 0) by simp [upTo])
        go_wp2_with fail
        refine (itoa_any (X 0) _ hx1 hx2 (HT.out.next HW.out.2.1 hS).here).mono ?_
        rintro e w2 ⟨rfl, k2⟩
        have HW2 := Lib.hid (HW.out.call k2 hsz)
        have hs2 : B ≤ w2.heap.size := Nat.le_trans hBw HW2.out.2.1.size
        have hi := itoa_len _ hx1 hx2
        clear k2
        go_wp2_with fail
        refine (writeString_any B b _ _ _ HW2.out.1 (by simp; omega) hs2).mono ?_
        rintro e w3 ⟨rfl, k3⟩
        have HW3 := Lib.hid ((HW2.out.trans k3).text HE.out.symm)
        clear k3 hi hu
        go_wp2_with fail
        go_roundw
        case rel => exact ⟨0 + 1, by omega, by go_num, HW3⟩
        case measure => simp [intOf]; omega
    · obtain rfl : k = n := by omega
      have hu := upTo_len (X := X) k (fun j hj => HX.out j (by omega))
      go_wp2_with fail
      refine (writeByte_any B b _ 10 _ HW.out.1 (by simp; omega) hsz).mono ?_
      rintro e w1 ⟨rfl, k1⟩
      have HW1 := Lib.hid (HW.out.trans k1)
      clear k1 hu
      go_wp2_with fail
      go_end0
      exact ⟨rfl, HW1.out⟩
end Go.Proofs.YthmjbenofpbmbaaDoor
