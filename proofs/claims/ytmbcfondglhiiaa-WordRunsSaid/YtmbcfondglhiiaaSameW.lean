/- The law's own comparison of rows of words, walked: equal rows are the same. Conditions: both lie in memory and are the same. -/
import Derived.Test.YtmbcfondglhiiaaWMem
import Derived.Test.YtmbcfondglhiiaaOperate
import Derived.Deep.QuietTactic
import Derived.BigQuiet
namespace Go.Proofs.Ytmbcfondglhiiaa
open Go.RowKit

set_option maxHeartbeats 2000000 in
theorem sameWords_any (A B : Option Addr) (n c d len : Nat) (R : Nat → Nat → Int) (w : World) (ha : MatW w A n (fun _ => len) R) (hb : MatW w B n (fun _ => len) R) (hn : n ≤ 1000000000000000) (hl : len ≤ 1000000000000000) :
    Calls Try.prog 17 #[.slice A n c, .slice B n d] w fun e w' => e = .returned (.bool true) ∧ Below w.heap.size w w' := by
  obtain ⟨RA, RC, ha1, ha2⟩ := ha
  obtain ⟨RB, RD, hb1, hb2⟩ := hb
  have HA2 := Lib.hid ha2; have HB2 := Lib.hid hb2; clear ha2 hb2
  go_enter Try.func17, Try.ntmps17
  have hq : ((n : Int) != (n : Int)) = false := by simp
  have hq2 : ((len : Int) != (len : Int)) = false := by simp
  go_wp2_with fail
  go_loopw [5] (fun i wr => ∃ k : Nat, k ≤ n ∧ i = .int .i64 k ∧ Below w.heap.size w wr) (fun i _ => n - (intOf i).toNat)
  case atStart => exact ⟨0, by omega, rfl, Below.refl _ _⟩
  case round =>
    obtain ⟨k, hk, rfl, HD⟩ := hrel
    have HDH := Lib.hid HD
    have hkp := Lib.hid (Keeps.of_below HD)
    clear HD
    by_cases hlt : k < n
    · have hki : (k : Int) < n := by omega
      have HR1 := Lib.hid (Row1.keeps (HA2.out k hlt) hkp.out)
      have HR2 := Lib.hid (Row1.keeps (HB2.out k hlt) hkp.out)
      obtain ⟨b1, o1, hAe, x0⟩ := (ha1.keeps hkp.out).at_ hlt
      obtain ⟨b2, o2, hBe, y0⟩ := (hb1.keeps hkp.out).at_ hlt
      subst hAe; subst hBe
      generalize hRAe : RA k = RAk at *
      generalize hRBe : RB k = RBk at *
      clear hRAe hRBe
      go_wp2_with fail
      go_quiet (fail)
      go_wp2_with fail
      have hkw := Lib.hid (Keeps.of_below (drawnN_bel wr nq))
      have hz0 := hkw.out _ _ x0
      have hz1 := hkw.out _ _ y0
      have HR1' := Lib.hid (Row1.keeps HR1.out hkw.out)
      have HR2' := Lib.hid (Row1.keeps HR2.out hkw.out)
      have HDW := Lib.hid (below_drewN HDH.out nq)
      generalize wr.drewN nq = wa at *
      clear x0 y0 hkw hkp HR1 HR2 HDH
      go_loopw [6] (fun i wi => ∃ m : Nat, m ≤ len ∧ i = .int .i64 m ∧ Below wa.heap.size wa wi) (fun i _ => len - (intOf i).toNat)
      case atStart => exact ⟨0, by omega, rfl, Below.refl _ _⟩
      case round =>
        obtain ⟨m, hm, rfl, HE⟩ := hrel
        have HEH := Lib.hid HE
        have hke := Lib.hid (Keeps.of_below HE)
        clear HE
        have x1 := hke.out _ _ hz0
        have y1 := hke.out _ _ hz1
        by_cases hlm : m < len
        · have hmi : (m : Int) < len := by omega
          obtain ⟨b3, o3, hAe, x2⟩ := Row1.at_ (Row1.keeps HR1'.out hke.out) hlm
          obtain ⟨b4, o4, hBe, y2⟩ := Row1.at_ (Row1.keeps HR2'.out hke.out) hlm
          rw [hAe] at x1
          rw [hBe] at y1
          clear hAe hBe
          have hq3 : (R k m != R k m) = false := by simp
          go_wp2_with fail
          go_quiet (fail)
          have hbd := below_drewN HEH.out nq
          go_wp2_with fail
          go_roundw
          case rel => exact ⟨m + 1, by omega, by go_num, hbd⟩
          case measure => simp [intOf]; omega
        · obtain rfl : m = len := by omega
          have hbd := HDW.out.trans (HEH.out.mono HDW.out.size)
          go_wp2_with fail
          go_roundw
          case rel => exact ⟨k + 1, by omega, by go_num, hbd⟩
          case measure => simp [intOf]; omega
    · obtain rfl : k = n := by omega
      go_wp2_with fail
      go_ret
      exact ⟨rfl, HDH.out⟩
end Go.Proofs.Ytmbcfondglhiiaa
