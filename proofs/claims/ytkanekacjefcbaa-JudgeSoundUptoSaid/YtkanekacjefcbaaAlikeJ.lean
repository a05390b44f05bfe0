/- The reference's Alike, walked. Conditions: both graphs lie in memory and are within reach. -/
import Derived.Test.YtkanekacjefcbaaMovedJ
import Derived.Deep.DeepCutAuto
namespace Go.Proofs.Ytkanekacjefcbaa
open Go.RowKit

def AlikeP (a b : G) : Prop := a.Valid ∧ b.Valid ∧ a.ins = b.ins ∧ a.n3 = b.n3

set_option maxHeartbeats 2000000 in
theorem alike_any (a b : G) (A1 A2 A3 B1 B2 B3 : Option Addr) (c1 c2 c3 d1 d2 d3 : Nat) (w : World) (ha : a.At w A1 A2 A3) (hb : b.At w B1 B2 B3) (hfa : a.Fits) (hfb : b.Fits) :
    Calls Try.prog 20 #[.agg #[.int .i64 a.ins, .slice A1 a.n1 c1, .slice A2 a.n2 c2, .slice A3 a.n3 c3], .agg #[.int .i64 b.ins, .slice B1 b.n1 d1, .slice B2 b.n2 d2, .slice B3 b.n3 d3]] w fun e w' => e = .returned (.bool (tf (AlikeP a b))) ∧ Below w.heap.size w w' := by
  go_enter Try.func20, Try.ntmps20
  go_upto_region 1 with (fail)
  have hal : Below w.heap.size w ((w.alloc (.cells #[.int .i64 a.ins, .slice A1 a.n1 c1, .slice A2 a.n2 c2, .slice A3 a.n3 c3] 30)).alloc (.cells #[.int .i64 b.ins, .slice B1 b.n1 d1, .slice B2 b.n2 d2, .slice B3 b.n3 d3] 30)) := ((Below.refl _ _).alloc (Nat.le_refl _) _).alloc (by simp) _
  have qa := (BoxAt.new w [.int .i64 a.ins, .slice A1 a.n1 c1, .slice A2 a.n2 c2, .slice A3 a.n3 c3] 30).keeps (Keeps.alloc _ (.cells #[.int .i64 b.ins, .slice B1 b.n1 d1, .slice B2 b.n2 d2, .slice B3 b.n3 d3] 30))
  have qb := BoxAt.new (w.alloc (.cells #[.int .i64 a.ins, .slice A1 a.n1 c1, .slice A2 a.n2 c2, .slice A3 a.n3 c3] 30)) [.int .i64 b.ins, .slice B1 b.n1 d1, .slice B2 b.n2 d2, .slice B3 b.n3 d3] 30
  rw [show (w.alloc (.cells #[.int .i64 a.ins, .slice A1 a.n1 c1, .slice A2 a.n2 c2, .slice A3 a.n3 c3] 30)).heap.size = w.heap.size + 1 from (by simp)] at qb
  generalize (w.alloc (.cells #[.int .i64 a.ins, .slice A1 a.n1 c1, .slice A2 a.n2 c2, .slice A3 a.n3 c3] 30)).alloc (.cells #[.int .i64 b.ins, .slice B1 b.n1 d1, .slice B2 b.n2 d2, .slice B3 b.n3 d3] 30) = w1 at *
  have HB1 := Lib.hid hal
  have hs1 := hal.size
  obtain ⟨g0, g1, g2, g3⟩ := qa.four
  clear hal
  go_wp2_with fail
  refine (refValid_any a A1 A2 A3 c1 c2 c3 _ (ha.keeps (Keeps.of_below HB1.out)) hfa).mono ?_
  rintro e w2 ⟨rfl, hb2⟩
  have HB2 := Lib.hid (Below.then_call HB1.out hb2 hs1)
  have qa2 := qa.keeps (Keeps.of_below hb2)
  have qb2 := qb.keeps (Keeps.of_below hb2)
  have hs2 := hb2.size
  clear hb2 g0 g1 g2 g3 qa qb
  obtain ⟨g0, g1, g2, g3⟩ := qb2.four
  generalize hva : tf a.Valid = va
  have HVA := Lib.hid hva; clear hva
  go_wp2_with fail
  refine (refValid_any b B1 B2 B3 d1 d2 d3 _ (hb.keeps (Keeps.of_below HB2.out)) hfb).mono ?_
  rintro e w3 ⟨rfl, hb3⟩
  have HB3 := Lib.hid (Below.then_call HB2.out hb3 (by omega))
  have qa3 := qa2.keeps (Keeps.of_below hb3)
  have qb3 := qb2.keeps (Keeps.of_below hb3)
  clear hb3 g0 g1 g2 g3 qa2 qb2
  obtain ⟨g0, g1, g2, g3⟩ := qa3.four
  obtain ⟨h0, h1, h2, h3⟩ := qb3.four
  generalize hvb : tf b.Valid = vb
  have HVB := Lib.hid hvb; clear hvb
  cases va
  · have HR : Hid (tf (AlikeP a b) = false) := Lib.hid (tf_no (fun h => by have := HVA.out; rw [tf_yes h.1] at this; cases this))
    go_wp2_with fail
    go_ret
    exact ⟨congrArg (fun x => Ending.returned (Value.bool x)) HR.out.symm, HB3.out⟩
  cases vb
  · have HR : Hid (tf (AlikeP a b) = false) := Lib.hid (tf_no (fun h => by have := HVB.out; rw [tf_yes h.2.1] at this; cases this))
    go_wp2_with fail
    go_ret
    exact ⟨congrArg (fun x => Ending.returned (Value.bool x)) HR.out.symm, HB3.out⟩
  by_cases hi : a.ins = b.ins
  · by_cases ho : a.n3 = b.n3
    · have HR : Hid (tf (AlikeP a b) = true) := Lib.hid (tf_yes ⟨tf_eq_true.1 HVA.out, tf_eq_true.1 HVB.out, hi, ho⟩)
      have e1 : (a.ins == b.ins) = true := by simp [hi]
      have e2 : ((a.n3 : Int) == (b.n3 : Int)) = true := by simp [ho]
      clear hi ho
      go_wp2_with fail
      go_ret
      exact ⟨congrArg (fun x => Ending.returned (Value.bool x)) HR.out.symm, HB3.out⟩
    · have HR : Hid (tf (AlikeP a b) = false) := Lib.hid (tf_no (fun h => ho h.2.2.2))
      have e1 : (a.ins == b.ins) = true := by simp [hi]
      have e2 : ((a.n3 : Int) == (b.n3 : Int)) = false := by simp; omega
      clear hi ho
      go_wp2_with fail
      go_ret
      exact ⟨congrArg (fun x => Ending.returned (Value.bool x)) HR.out.symm, HB3.out⟩
  · have HR : Hid (tf (AlikeP a b) = false) := Lib.hid (tf_no (fun h => hi h.2.2.1))
    have e1 : (a.ins == b.ins) = false := by simp [hi]
    clear hi
    go_wp2_with fail
    go_ret
    exact ⟨congrArg (fun x => Ending.returned (Value.bool x)) HR.out.symm, HB3.out⟩
end Go.Proofs.Ytkanekacjefcbaa
