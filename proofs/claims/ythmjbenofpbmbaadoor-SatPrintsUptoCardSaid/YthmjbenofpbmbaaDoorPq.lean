/- The law SatPrints, walked: it returns true. Conditions: the formula lies in memory and is of the given bulk; the table of powers of ten reads as laid. -/
import Derived.Test.YthmjbenofpbmbaaDoorPs
namespace Go.Proofs.YthmjbenofpbmbaaDoor
open Go.RowKit

theorem one_form (v : World) (b1 b2 : Nat) (hb : b2 = b1 + 1) (hv : v.heap.size = b1) :
    MatC ((v.alloc (.cells #[.int .i64 1, .int .i64 (-1)] 3)).alloc (.cells #[.slice (some ⟨b1, 0, none⟩) 2 2] 26)) (some ⟨b2, 0, none⟩) [[1, -1]] [.slice (some ⟨b1, 0, none⟩) 2 2] := by
  subst hb; subst hv
  refine ⟨rfl, fun _ => ⟨_, 0, rfl, fun k hk => ?_⟩, fun i x l hx hl => ?_⟩
  · have hk' : k < 1 := hk
    obtain rfl : k = 0 := by omega
    simp [go_sem]
  · have hi : i < 1 := (List.getElem?_eq_some_iff.1 hl).1
    obtain rfl : i = 0 := by omega
    obtain rfl : _ = l := Option.some.inj hl
    obtain rfl : _ = x := Option.some.inj hx
    refine ⟨_, _, rfl, fun _ => ⟨_, 0, rfl, fun k hk => ?_⟩⟩
    have hk' : k < 2 := hk
    obtain rfl | rfl : k = 0 ∨ k = 1 := by omega
    all_goals simp [go_sem]

set_option maxHeartbeats 4000000 in
set_option maxRecDepth 100000 in
theorem satPrints_walk (vars : Int) (FA : Option Addr) (fc : Nat) (F : List (List Int)) (vf : List Value) (w : World) (hF : MatC w FA F vf) (b1 : F.length ≤ 1048576) (b3 : tot F ≤ 1048576) (ht : Tab w.heap.size w) :
    Calls Tryd.prog 3 #[.agg #[.int .i64 vars, .slice FA F.length fc]] w fun e w' => e = .returned (.bool true) ∧ Below w.heap.size w w' := by
  have HF := Lib.hid hF; have HT0 := Lib.hid ht
  have HC : Hid (∀ c, c ∈ F → c.length ≤ 2000000) := Lib.hid (fun c hc => by have := tot_mem hc; omega)
  clear hF ht
  have hone : str (cnfT 1 [[1, -1]] ([[1, -1]] : List (List Int)).length) = ⟨#[112, 32, 99, 110, 102, 32, 49, 32, 49, 10, 49, 32, 45, 49, 32, 48, 10]⟩ := by
    rw [show ([[1, -1]] : List (List Int)).length = 1 from rfl, cnf_one]; rfl
  have HONE := Lib.hid hone; clear hone
  go_enter Tryd.func3, Tryd.ntmps3
  go_upto_region 1 with (fail)
  have hq := BoxAt.new w [.int .i64 vars, .slice FA F.length fc] 24
  have HV := Lib.hid ((Below.refl w.heap.size w).alloc (Nat.le_refl _) (.cells #[.int .i64 vars, .slice FA F.length fc] 24))
  have hvz : (w.alloc (.cells #[.int .i64 vars, .slice FA F.length fc] 24)).heap.size = w.heap.size + 1 := by simp
  generalize w.alloc (.cells #[.int .i64 vars, .slice FA F.length fc] 24) = v at *
  have HVZ := Lib.hid hvz
  have hvz2 : w.heap.size < v.heap.size := by omega
  clear hvz
  have HT := Lib.hid (HT0.out.next HV.out (Nat.le_refl _))
  have hM := one_form v v.heap.size (v.heap.size + 1) rfl rfl
  have hb2 : Below v.heap.size v ((v.alloc (.cells #[.int .i64 1, .int .i64 (-1)] 3)).alloc (.cells #[.slice (some ⟨v.heap.size, 0, none⟩) 2 2] 26)) := ((Below.refl _ _).alloc (Nat.le_refl _) _).alloc (by simp) _
  have HM := Lib.hid hM; have HB2 := Lib.hid hb2
  clear hM hb2
  go_wp2_with fail
  generalize ((v.alloc (.cells #[.int .i64 1, .int .i64 (-1)] 3)).alloc (.cells #[.slice (some ⟨v.heap.size, 0, none⟩) 2 2] 26)) = v2 at *
  refine (satPrint_any w.heap.size 1 (some ⟨v.heap.size + 1, 0, none⟩) 1 [[1, -1]] _ v2 HM.out (by omega) (by omega) (fun c hc k hk => by
    simp at hc; subst hc
    have hk2 : k < 2 := hk
    obtain rfl | rfl : k = 0 ∨ k = 1 := by omega
    all_goals simp) (by simp) (by simp [tot]) (HT.out.next HB2.out (by omega)) (by have := HB2.out.size; omega)).mono ?_
  rintro e w1 ⟨rfl, k1⟩
  rw [HONE.out]
  have HB3 := Lib.hid (HV.out.trans ((HB2.out.trans (k1.mono HB2.out.size)).mono (by omega)))
  replace hq := hq.keeps (Keeps.of_below (HB2.out.trans (k1.mono HB2.out.size)))
  have HT1 := Lib.hid (HT0.out.next HB3.out (Nat.le_refl _))
  clear k1 HM
  have p0 := hq 0 _ rfl
  have p1 := hq 1 _ rfl
  generalize (⟨#[112, 32, 99, 110, 102, 32, 49, 32, 49, 10, 49, 32, 45, 49, 32, 48, 10]⟩ : ByteArray) = kk at *
  have hs1 := HB3.out.size
  go_wp2_with fail
  refine (cnfValid_any vars FA fc F vf _ (HF.out.keeps (Keeps.of_below HB3.out)) (by omega) (fun c hc => by have := HC.out c hc; omega)).mono ?_
  rintro e w2 ⟨rfl, k1⟩
  have HB4 := Lib.hid (Below.then_call HB3.out k1 HB3.out.size)
  have HT2 := Lib.hid (HT1.out.next k1 hs1)
  replace hq := hq.keeps (Keeps.of_below k1)
  clear k1 p0 p1 hs1
  have p0 := hq 0 _ rfl
  have p1 := hq 1 _ rfl
  have hs2 := HB4.out.size
  obtain ⟨r, hr⟩ : ∃ r, r = tf (CnfOk vars F) := ⟨_, rfl⟩
  rw [← hr]
  have HR := Lib.hid hr; clear hr
  cases r with
  | false =>
    go_wp2_with fail
    go_ret
    exact ⟨by simp, HB4.out⟩
  | true =>
    obtain ⟨v0, v1, hl⟩ := tf_eq_true.1 HR.out.symm
    have HL : Hid (∀ c, c ∈ F → Lits c) := Lib.hid (fun c hc => lits_of (litsOk_up (hl c hc) v1))
    clear hl
    go_wp2_with fail
    refine (satPrint_any w.heap.size vars FA fc F vf _ (HF.out.keeps (Keeps.of_below HB4.out)) v0 v1 HL.out (by omega) (by omega) HT2.out hs2).mono ?_
    rintro e w3 ⟨rfl, k1⟩
    have HB5 := Lib.hid (Below.then_call HB4.out k1 HB4.out.size)
    replace hq := hq.keeps (Keeps.of_below k1)
    clear k1 p0 p1
    have p0 := hq 0 _ rfl
    have p1 := hq 1 _ rfl
    go_wp2_with fail
    refine (cnfPrint_any vars FA fc F vf _ (HF.out.keeps (Keeps.of_below HB5.out)) v0 v1 HL.out (by omega) (by omega)).mono ?_
    rintro e w4 ⟨rfl, k1⟩
    have HB6 := Lib.hid (Below.then_call HB5.out k1 HB5.out.size)
    clear k1
    generalize str (cnfT vars F F.length) = tx at *
    go_wp2_with fail
    go_ret
    exact ⟨by simp, HB6.out⟩
end Go.Proofs.YthmjbenofpbmbaaDoor
