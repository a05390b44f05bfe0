/- The law RefuteChecks, walked: it returns true. Conditions: the formula and the steps lie in memory and are of the given bulk. -/
import Derived.Test.YtkanekacjefcbaaRfK
import Derived.Test.YtkanekacjefcbaaRfU
import Derived.Test.YtkanekacjefcbaaRfZ
namespace Go.Proofs.Ytkanekacjefcbaa
open Go.RowKit

theorem bot_follows : FollowsP [[1], [-1]] [] := by
  refine follows_clash (d := [-1]) (Reach.step (c := [1]) (x := 1) Reach.start (by simp) (by simp) (by simp [neg0]) (fun l hl => .inr (by simpa using hl))) (by simp) (fun l hl => ?_)
  obtain rfl : l = -1 := by simpa using hl
  simp [put1]
theorem bot_check : CheckP 1 [[1], [-1]] [[]] := by
  refine ⟨by omega, by omega, by simp, by simp, fun c hc => ?_, fun i c hc => ?_⟩
  · have hc' : c = [1] ∨ c = [-1] := by simpa using hc
    rcases hc' with rfl | rfl
    · exact fun l hl => by
        obtain rfl : l = 1 := by simpa using hl
        omega
    · exact fun l hl => by
        obtain rfl : l = -1 := by simpa using hl
        omega
  · have hi : i = 0 := by have := (List.getElem?_eq_some_iff.1 hc).1; simpa using this
    subst hi
    obtain rfl : c = [] := by simpa using hc.symm
    exact ⟨fun l hl => (by simp at hl), by simpa using bot_follows⟩
def botF (z : Nat) : List Value := [.slice (some ⟨z, 0, none⟩) 1 1, .slice (some ⟨z + 1, 0, none⟩) 1 1]
def botW (w : World) (z : Nat) : World := (((w.alloc (Obj.cells #[.int .i64 1] 3)).alloc (Obj.cells #[.int .i64 (-1)] 3)).alloc (Obj.cells #[.slice (some ⟨z, 0, none⟩) 1 1, .slice (some ⟨z + 1, 0, none⟩) 1 1] 26)).alloc (Obj.cells #[.slice none 0 0] 26)
theorem bot_mat (w : World) (z : Nat) (hz : w.heap.size = z) : MatC (botW w z) (some ⟨z + 1 + 1, 0, none⟩) [[1], [-1]] (botF z) ∧ MatC (botW w z) (some ⟨z + 1 + 1 + 1, 0, none⟩) [[]] [.slice none 0 0] ∧ Below z w (botW w z) := by
  subst hz
  unfold botW
  have h0 := Arr.new w #[.int .i64 1] 3
  have b0 : Below w.heap.size w (w.alloc (.cells #[.int .i64 1] 3)) := (Below.refl _ _).alloc (Nat.le_refl _) _
  have s0 : (w.alloc (.cells #[.int .i64 1] 3)).heap.size = w.heap.size + 1 := by simp
  generalize w.alloc (.cells #[.int .i64 1] 3) = v1 at *
  have h1 := Arr.new v1 #[.int .i64 (-1)] 3
  rw [s0] at h1
  replace h0 := Arr.alloc h0 (.cells #[.int .i64 (-1)] 3)
  replace b0 := b0.alloc (by omega) (.cells #[.int .i64 (-1)] 3)
  have s1 : (v1.alloc (.cells #[.int .i64 (-1)] 3)).heap.size = w.heap.size + 1 + 1 := by simp [s0]
  generalize v1.alloc (.cells #[.int .i64 (-1)] 3) = v2 at *
  have h2 := Arr.new v2 #[.slice (some ⟨w.heap.size, 0, none⟩) 1 1, .slice (some ⟨w.heap.size + 1, 0, none⟩) 1 1] 26
  rw [s1] at h2
  replace h0 := Arr.alloc h0 (.cells #[.slice (some ⟨w.heap.size, 0, none⟩) 1 1, .slice (some ⟨w.heap.size + 1, 0, none⟩) 1 1] 26)
  replace h1 := Arr.alloc h1 (.cells #[.slice (some ⟨w.heap.size, 0, none⟩) 1 1, .slice (some ⟨w.heap.size + 1, 0, none⟩) 1 1] 26)
  replace b0 := b0.alloc (by omega) (.cells #[.slice (some ⟨w.heap.size, 0, none⟩) 1 1, .slice (some ⟨w.heap.size + 1, 0, none⟩) 1 1] 26)
  have s2 : (v2.alloc (.cells #[.slice (some ⟨w.heap.size, 0, none⟩) 1 1, .slice (some ⟨w.heap.size + 1, 0, none⟩) 1 1] 26)).heap.size = w.heap.size + 1 + 1 + 1 := by simp [s1]
  generalize v2.alloc (.cells #[.slice (some ⟨w.heap.size, 0, none⟩) 1 1, .slice (some ⟨w.heap.size + 1, 0, none⟩) 1 1] 26) = v3 at *
  have h3 := Arr.new v3 #[.slice none 0 0] 26
  rw [s2] at h3
  replace h0 := Arr.alloc h0 (.cells #[.slice none 0 0] 26)
  replace h1 := Arr.alloc h1 (.cells #[.slice none 0 0] 26)
  replace h2 := Arr.alloc h2 (.cells #[.slice none 0 0] 26)
  replace b0 := b0.alloc (by omega) (.cells #[.slice none 0 0] 26)
  generalize v3.alloc (.cells #[.slice none 0 0] 26) = v4 at *
  refine ⟨⟨rfl, ?_, fun i v l hv hl => ?_⟩, ⟨rfl, ?_, fun i v l hv hl => ?_⟩, b0⟩
  · exact fun _ => ⟨_, 0, rfl, fun k hk => by
      rw [Nat.zero_add]
      refine (h2.cell hk).trans ?_
      have hk' : k < 2 := hk
      obtain rfl | rfl : k = 0 ∨ k = 1 := by omega
      · rfl
      · rfl⟩
  · have hi : i < 2 := (List.getElem?_eq_some_iff.1 hl).1
    obtain rfl | rfl : i = 0 ∨ i = 1 := by omega
    · obtain rfl : _ = l := Option.some.inj hl
      obtain rfl : _ = v := Option.some.inj hv
      refine ⟨_, _, rfl, fun _ => ⟨_, 0, rfl, fun k hk => ?_⟩⟩
      have hk' : k < 1 := hk
      obtain rfl : k = 0 := by omega
      exact h0.cell (k := 0) (by simp)
    · obtain rfl : _ = l := Option.some.inj hl
      obtain rfl : _ = v := Option.some.inj hv
      refine ⟨_, _, rfl, fun _ => ⟨_, 0, rfl, fun k hk => ?_⟩⟩
      have hk' : k < 1 := hk
      obtain rfl : k = 0 := by omega
      exact h1.cell (k := 0) (by simp)
  · exact fun _ => ⟨_, 0, rfl, fun k hk => by
      have hk' : k < 1 := hk
      obtain rfl : k = 0 := by omega
      exact h3.cell (k := 0) (by simp)⟩
  · have hi : i < 1 := (List.getElem?_eq_some_iff.1 hl).1
    obtain rfl : i = 0 := by omega
    obtain rfl : _ = l := Option.some.inj hl
    obtain rfl : _ = v := Option.some.inj hv
    exact ⟨_, _, rfl, fun h => absurd h (by simp)⟩
set_option maxHeartbeats 8000000 in
set_option maxRecDepth 100000 in
theorem refuteChecks_walk (vars : Int) (FA : Option Addr) (fc : Nat) (F : List (List Int)) (vf : List Value) (SA : Option Addr) (sc : Nat) (St : List (List Int)) (vst : List Value) (w : World) (hF : MatC w FA F vf) (b1 : F.length ≤ 1048576) (b3 : tot F ≤ 1048576) (hS : MatC w SA St vst) (b2 : St.length ≤ 1048576) (b4 : tot St ≤ 1048576) :
    Calls Try.prog 3 #[.agg #[.int .i64 vars, .slice FA F.length fc], .slice SA St.length sc] w fun e w' => e = .returned (.bool true) ∧ Below w.heap.size w w' := by
  have HFM := Lib.hid hF; have HSM := Lib.hid hS; clear hF hS
  go_enter Try.func3, Try.ntmps3
  go_upto_region 1 with (fail)
  have qf := BoxAt.new w [.int .i64 vars, .slice FA F.length fc] 24
  have hbl : Below w.heap.size w (w.alloc (.cells #[.int .i64 vars, .slice FA F.length fc] 24)) := (Below.refl _ _).alloc (Nat.le_refl _) _
  have hsz : (w.alloc (.cells #[.int .i64 vars, .slice FA F.length fc] 24)).heap.size = w.heap.size + 1 := by simp
  generalize w.alloc (.cells #[.int .i64 vars, .slice FA F.length fc] 24) = w1 at *
  have hbm := bot_mat w1 (w.heap.size + 1) hsz
  generalize hz : w.heap.size = z at *
  have HZ := Lib.hid hz; clear hz
  have HBL := Lib.hid hbl; clear hbl
  have HBM := Lib.hid hbm; clear hbm
  have hs1 : z + 1 ≤ w1.heap.size := by omega
  go_wp2_with fail
  refine (check_any 1 _ _ _ _ [[1], [-1]] [[]] (botF (z + 1)) [.slice none 0 0] _ HBM.out.1 HBM.out.2.1 (by simp) (by simp) (by simp [tot]) (by simp [tot])).mono ?_
  rintro e w3 ⟨rfl, hb3⟩
  have HB3 : Hid (Below z w w3) := Lib.hid ((HBL.out.trans (HBM.out.2.2.mono (by omega))).trans (hb3.mono (by have := HBM.out.2.2.size; omega)))
  have qf3 := (qf.keeps (Keeps.of_below (by rw [hsz]; exact HBM.out.2.2))).keeps (Keeps.of_below hb3)
  clear hb3 qf HBM HBL hs1
  rw [tf_yes bot_check]
  have p0 := qf3 0 _ rfl
  have p1 := qf3 1 _ rfl
  have hs3 := HB3.out.size
  go_wp2_with fail
  refine (check_any vars FA SA fc sc F St vf vst _ (HFM.out.keeps (Keeps.of_below (by rw [HZ.out]; exact HB3.out))) (HSM.out.keeps (Keeps.of_below (by rw [HZ.out]; exact HB3.out))) b1 b2 b3 b4).mono ?_
  rintro e w4 ⟨rfl, hb4⟩
  have HB4 := Lib.hid (HB3.out.trans (hb4.mono (by have := HZ.out; omega)))
  replace qf3 := qf3.keeps (Keeps.of_below hb4)
  replace p0 := qf3 0 _ rfl
  replace p1 := qf3 1 _ rfl
  clear hb4
  go_wp2_with fail
  refine (refuted_any vars FA SA fc sc F St vf vst _ (HFM.out.keeps (Keeps.of_below (by rw [HZ.out]; exact HB4.out))) (HSM.out.keeps (Keeps.of_below (by rw [HZ.out]; exact HB4.out))) b1 b2 b3 b4).mono ?_
  rintro e w5 ⟨rfl, hb5⟩
  have HB5 := Lib.hid (HB4.out.trans (hb5.mono (by have := HZ.out; have := HB4.out.size; omega)))
  clear hb5
  go_wp2_with fail
  go_ret
  exact ⟨ret_bool (by simp), by have := HB5.out; rwa [HZ.out]⟩
end Go.Proofs.Ytkanekacjefcbaa
