/- The reference's SameClauses, walked: equal lists of clauses are the same. Conditions: both lie in memory and are the same. -/
import Derived.Test.YtkkbmeobkcjpbaaJfM
import Derived.Test.YtkkbmeobkcjpbaaSameGJ
import Derived.Deep.QuietTactic
import Derived.BigQuiet
namespace Go.Proofs.Ytkkbmeobkcjpbaa
open Go.RowKit

/-- a slice of rows of ints -/
def MatI (w : World) (A : Option Addr) (n : Nat) (len : Nat → Nat) (R : Nat → Nat → Int) : Prop :=
  ∃ (RA : Nat → Option Addr) (RC : Nat → Nat), Row1 w A n (fun i => .slice (RA i) (len i) (RC i)) ∧ ∀ i, i < n → Row1 w (RA i) (len i) (fun j => .int .i64 (R i j))
theorem drawnN_bel (w : World) (q : Nat) : Below w.heap.size w (w.drewN q) := ⟨rfl, rfl, rfl, Nat.le_refl _, fun _ _ => rfl⟩
theorem below_drewN {B : Nat} {w w1 : World} (h : Below B w w1) (n : Nat) : Below B w (w1.drewN n) := ⟨h.os, h.tape, h.output, h.size, h.block⟩
/-- a list of clauses reads as its rows -/
theorem Cl.mat {w : World} {base c : Nat} {A : Option Addr} {L : List (List Int)} {vs : List (Option Addr × Nat)} (h : Cl w base A c L vs) : MatI w A L.length (fun i => (L.getD i []).length) (fun i j => (L.getD i []).getD j 0) := by
  refine ⟨fun i => (vs.getD i (none, 0)).1, fun i => (vs.getD i (none, 0)).2, fun hn => ?_, fun i hi => ?_⟩
  · obtain ⟨b, off, e, hc⟩ := own_row1 h.own hn
    refine ⟨b, off, e, fun k hk => ?_⟩
    rw [hc k hk]
    have hv : k < vs.length := by rw [h.len]; exact hk
    simp [List.getD_eq_getElem?_getD, List.getElem?_zipWith, List.getElem?_eq_getElem hv, List.getElem?_eq_getElem hk, clauseV]
  · have hv : i < vs.length := by rw [h.len]; exact hi
    have h1 := h.rows i (vs.getD i (none, 0)) (L.getD i []) (by simp [List.getD_eq_getElem?_getD, List.getElem?_eq_getElem hv]) (by simp [List.getD_eq_getElem?_getD, List.getElem?_eq_getElem hi])
    exact h1.row

set_option maxHeartbeats 2000000 in
theorem sameClauses_any (A B : Option Addr) (n c d : Nat) (len : Nat → Nat) (R : Nat → Nat → Int) (w : World) (ha : MatI w A n len R) (hb : MatI w B n len R) (hn : n ≤ 1000000000000000) (hl : ∀ k, k < n → len k ≤ 1000000000000000) :
    Calls Try.prog 13 #[.slice A n c, .slice B n d] w fun e w' => e = .returned (.bool true) ∧ Below w.heap.size w w' := by
  obtain ⟨RA, RC, ha1, ha2⟩ := ha
  obtain ⟨RB, RD, hb1, hb2⟩ := hb
  have HA2 := Lib.hid ha2; have HB2 := Lib.hid hb2; clear ha2 hb2
  go_enter Try.func13, Try.ntmps13
  have hq : ((n : Int) != (n : Int)) = false := by simp
  have HLN := Lib.hid hl; clear hl
  go_wp2_with fail
  go_loopw [5] (fun i wr => ∃ k : Nat, k ≤ n ∧ i = .int .i64 k ∧ Below w.heap.size w wr) (fun i _ => n - (intOf i).toNat)
  case atStart => exact ⟨0, by omega, rfl, Below.refl _ _⟩
  case round =>
    obtain ⟨k, hk, rfl, HD⟩ := hrel
    have HDH := Lib.hid HD
    have hkp := Lib.hid (Keeps.of_below HD)
    clear HD
    by_cases hlt : k < n
    · have hki : (k : Int) < n := by omega
      obtain ⟨ln, hln⟩ : ∃ ln, ln = len k := ⟨_, rfl⟩
      have hl := HLN.out k hlt
      rw [← hln] at hl
      have hq2 : ((ln : Int) != (ln : Int)) = false := by simp
      have hr1 := Row1.keeps (HA2.out k hlt) hkp.out
      have hr2 := Row1.keeps (HB2.out k hlt) hkp.out
      rw [← hln] at hr1 hr2
      have HR1 := Lib.hid hr1
      have HR2 := Lib.hid hr2
      clear hr1 hr2
      obtain ⟨b1, o1, hAe, x0⟩ := (ha1.keeps hkp.out).at_ hlt
      obtain ⟨b2, o2, hBe, y0⟩ := (hb1.keeps hkp.out).at_ hlt
      rw [← hln] at x0 y0
      clear hln
      subst hAe; subst hBe
      generalize hRAe : RA k = RAk at *
      generalize hRBe : RB k = RBk at *
      clear hRAe hRBe
      go_wp2_with fail
      go_quiet (fail)
      go_wp2_with fail
      have hkw := Lib.hid (Keeps.of_below (drawnN_bel wr nq))
      have hz0 := hkw.out _ _ x0
      have hz1 := hkw.out _ _ y0
      have HR1' := Lib.hid (Row1.keeps HR1.out hkw.out)
      have HR2' := Lib.hid (Row1.keeps HR2.out hkw.out)
      have HDW := Lib.hid (below_drewN HDH.out nq)
      generalize wr.drewN nq = wa at *
      clear x0 y0 hkw hkp HR1 HR2 HDH
      go_loopw [6] (fun i wi => ∃ m : Nat, m ≤ ln ∧ i = .int .i64 m ∧ Below wa.heap.size wa wi) (fun i _ => ln - (intOf i).toNat)
      case atStart => exact ⟨0, by omega, rfl, Below.refl _ _⟩
      case round =>
        obtain ⟨m, hm, rfl, HE⟩ := hrel
        have HEH := Lib.hid HE
        have hke := Lib.hid (Keeps.of_below HE)
        clear HE
        have x1 := hke.out _ _ hz0
        have y1 := hke.out _ _ hz1
        by_cases hlm : m < ln
        · have hmi : (m : Int) < ln := by omega
          obtain ⟨b3, o3, hAe, x2⟩ := Row1.at_ (Row1.keeps HR1'.out hke.out) hlm
          obtain ⟨b4, o4, hBe, y2⟩ := Row1.at_ (Row1.keeps HR2'.out hke.out) hlm
          rw [hAe] at x1
          rw [hBe] at y1
          clear hAe hBe
          have hq3 : (R k m != R k m) = false := by simp
          go_wp2_with fail
          go_quiet (fail)
          have hbd := below_drewN HEH.out nq
          go_wp2_with fail
          go_roundw
          case rel => exact ⟨m + 1, by omega, by go_num, hbd⟩
          case measure => simp [intOf]; omega
        · obtain rfl : m = ln := by omega
          have hbd := HDW.out.trans (HEH.out.mono HDW.out.size)
          go_wp2_with fail
          go_roundw
          case rel => exact ⟨k + 1, by omega, by go_num, hbd⟩
          case measure => simp [intOf]; omega
    · obtain rfl : k = n := by omega
      go_wp2_with fail
      go_ret
      exact ⟨rfl, HDH.out⟩
end Go.Proofs.Ytkkbmeobkcjpbaa
