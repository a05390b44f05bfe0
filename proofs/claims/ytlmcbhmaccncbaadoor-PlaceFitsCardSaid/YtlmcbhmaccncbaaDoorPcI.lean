/- The law's state and heads, walked: the first m bits of each row of a trace. Condition: the trace lies in memory. -/
import Derived.Test.YtlmcbhmaccncbaaDoorRunD
namespace Go.Proofs.YtlmcbhmaccncbaaDoor
open Go.RowKit

def RetBits (w : World) (n : Nat) (V : Nat → Bool) (e : Ending) (w' : World) : Prop := ∃ A c, e = .returned (.slice A n c) ∧ OwnBits w' w.heap.size A n c V ∧ Below w.heap.size w w'
def cutRow (n : Nat) (V : Nat → Bool) (from_ i : Nat) : Bool := decide (from_ + i < n) && V (from_ + i)

set_option maxHeartbeats 1000000 in
theorem state_any (A : Option Addr) (n c f m : Nat) (V : Nat → Bool) (w : World) (h : Bits w A n V) (hf : f ≤ 1000000) (hm : m ≤ 1000000) :
    Calls Tryd.prog 25 #[.slice A n c, .int .i64 f, .int .i64 m] w (RetBits w m (cutRow n V f)) := by
  go_enter Tryd.func25, Tryd.ntmps25
  go_wp2_with fail
  go_loopw [7, 8] (fun v i wr => ∃ (k : Nat) (B : Option Addr) (d : Nat), k ≤ m ∧ i = .int .i64 k ∧ v = .slice B k d ∧ GrowB w B k d (cutRow n V f) wr) (fun _ i _ => m - (intOf i).toNat)
  case atStart => exact ⟨0, _, _, by omega, rfl, rfl, GrowB.start _ _⟩
  case round =>
    obtain ⟨k, B, d, hk, rfl, rfl, H⟩ := hrel
    have hkp := Lib.hid (Grow.keeps H)
    have hsz := H.size
    by_cases hlt : k < m
    · have e1 : IntKind.i64.wrap ((f : Int) + k) = ((f + k : Nat) : Int) := by rw [IntWalk.i64_in _ (by omega)]; omega
      by_cases hin : f + k < n
      · obtain ⟨b1, o1, rfl, x0⟩ := (Row1.keeps h hkp.out).at_ hin
        have hx : V (f + k) = cutRow n V f k := by simp [cutRow, hin]
        rw [hx] at x0
        obtain ⟨x, hxe⟩ : ∃ x, x = cutRow n V f k := ⟨_, rfl⟩
        have HX := Lib.hid hxe.symm
        rw [← hxe] at x0
        clear hx hxe
        have hin2 : ((f + k : Nat) : Int) < n := by omega
        have hin3 : (0 : Int) ≤ ((f + k : Nat) : Int) := by omega
        go_wp2_with (at_builtin; refine wp_append rfl (.tmp 14) (.tmp 29) _ rfl elBool w.heap.size B k d _ rfl (Grow.alloc H _).own _ 1 1 [.bool x] rfl (src_new _ _ _ rfl) (by omega) (sz_alloc H.size) ?_; intro B' d' w1 ho hk' hb')
        go_roundw
        case rel => exact ⟨k + 1, B', d', by omega, by go_num, rfl, GrowB.push (Grow.alloc H _) ho hk' (fun _ _ => rfl) HX.out⟩
        case measure => simp [intOf]; omega
      · have hx : cutRow n V f k = false := by simp [cutRow, hin]
        have HX := Lib.hid hx; clear hx
        have hin2 : ¬ ((f + k : Nat) : Int) < n := by omega
        go_wp2_with (at_builtin; refine wp_append rfl (.tmp 14) (.tmp 29) _ rfl elBool w.heap.size B k d _ rfl (Grow.alloc H _).own _ 1 1 [.bool false] rfl (src_new _ _ _ rfl) (by omega) (sz_alloc H.size) ?_; intro B' d' w1 ho hk' hb')
        go_roundw
        case rel => exact ⟨k + 1, B', d', by omega, by go_num, rfl, GrowB.push (Grow.alloc H _) ho hk' (fun _ _ => rfl) HX.out⟩
        case measure => simp [intOf]; omega
    · obtain rfl : k = m := by omega
      go_wp2_with fail
      go_ret
      exact ⟨_, _, rfl, H.own, H.bel⟩


theorem state0 (A : Option Addr) (n c m : Nat) (V : Nat → Bool) (w : World) (h : Bits w A n V) (hm : m ≤ 1000000) :
    Calls Tryd.prog 25 #[.slice A n c, .int .i64 0, .int .i64 m] w (RetBits w m (cutRow n V 0)) := state_any A n c 0 m V w h (by omega) hm

set_option maxHeartbeats 1000000 in
theorem heads_any (A : Option Addr) (n c m : Nat) (len : Nat → Nat) (T : Nat → Nat → Bool) (w : World) (h : Mat w A n len T) (hn : n * 24 ≤ 140737488355328) (hm : m ≤ 1000000) :
    Calls Tryd.prog 11 #[.slice A n c, .int .i64 m] w (RetMat w n m (fun t => cutRow (len t) (T t) 0)) := by
  obtain ⟨TA, TC, hT1, hT2⟩ := h
  have HT1 := Lib.hid hT1; have HT2 := Lib.hid hT2
  clear hT1 hT2
  go_enter Tryd.func11, Tryd.ntmps11
  go_wp2_with fail
  go_loopw [5, 6] (fun va vi wr => ∃ (i : Nat) (B : Option Addr) (cB : Nat) (RA : Nat → Option Addr) (RC : Nat → Nat), i ≤ n ∧ vi = .int .i64 i ∧ va = .slice B i cB ∧ Hid (OwnMat wr w.heap.size B i cB m (fun t => cutRow (len t) (T t) 0) RA RC) ∧ Hid (Below w.heap.size w wr)) (fun _ vi _ => n - (intOf vi).toNat)
  case atStart => exact ⟨0, none, 0, fun _ => none, fun _ => 0, by omega, rfl, rfl, Lib.hid ⟨World.ownsRow_nil _ _ _ _, fun i hi => by omega⟩, Lib.hid (Below.refl _ _)⟩
  case round =>
    obtain ⟨i, B, cB, RA, RC, hi, rfl, rfl, HM, HB⟩ := hrel
    obtain ⟨wo, hwo⟩ : ∃ x, x = wr := ⟨_, rfl⟩
    subst hwo
    by_cases hlt : i < n
    · obtain ⟨bT, oT, rfl, x0⟩ := (HT1.out.keeps (Keeps.of_below HB.out)).at_ hlt
      have ht := (HT2.out i hlt).keeps (Keeps.of_below HB.out)
      obtain ⟨Ai, hAi⟩ : ∃ Ai, Ai = TA i := ⟨_, rfl⟩
      rw [← hAi] at x0 ht
      have HT := Lib.hid ht
      clear ht hAi
      go_wp2_with fail
      refine (state0 Ai (len i) (TC i) m (T i) wo HT.out hm).mono ?_
      rintro e w1 ⟨A1, d1, rfl, hown, hb1⟩
      have hM1 := HM.out.below hb1
      have hz0 := HB.out.size
      have hz1 : w.heap.size ≤ w1.heap.size := by have := hb1.size; omega
      have hrw := ((rowT_of_bits hown).mono (p' := fun b => w.heap.size ≤ b) (fun b _ hb => by omega)).below ((Below.refl _ w1).alloc (Nat.le_refl _) (.cells #[.slice A1 m d1] 22))
      have HM1 := Lib.hid (hM1.alloc (.cells #[.slice A1 m d1] 22)); have HRW := Lib.hid hrw
      have HB1 := Lib.hid (HB.out.trans (hb1.mono hz0))
      clear hM1 hrw hown hb1 x0
      go_wp2_with (at_builtin; refine wp_append rfl (.tmp 13) (.tmp 20) _ rfl elBoolRow w.heap.size B i cB _ rfl HM1.out.own _ 1 1 [.slice A1 m d1] rfl (src_new _ _ _ rfl) (by omega) (sz_alloc hz1) ?_; intro A' c' w8 ho hk' hb')
      have hM8 := HM1.out.push ho hk' HRW.out
      have hba := fun b => own_base HM1.out.own b
      have hbl7 : Below w1.heap.size w1 (w1.alloc (.cells #[.slice A1 m d1] 22)) := (Below.refl _ _).alloc (Nat.le_refl _) _
      have hB8 := (HB1.out.trans (hbl7.mono HB1.out.size)).trans (hk'.below (B := w.heap.size) (fun b _ h => by have := hba b h; omega) (by simp; omega))
      clear ho hk' hb' hba hbl7
      go_roundw
      case rel => exact ⟨i + 1, A', c', _, _, by omega, by go_num, rfl, Lib.hid hM8, Lib.hid hB8⟩
      case measure => simp [intOf]; omega
    · obtain rfl : n = i := by omega
      go_wp2_with fail
      go_ret
      exact ⟨B, cB, RA, RC, rfl, HM.out, HB.out⟩
end Go.Proofs.YtlmcbhmaccncbaaDoor
