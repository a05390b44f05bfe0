/- The reference's outlets, walked: the pairs of outputs, as a new slice. Conditions: the graph lies in memory and has twice as many outputs. -/
import Derived.Test.YtkanekacjefcbaaJfM
import Derived.Test.YtkanekacjefcbaaStep
import Derived.Test.YtkanekacjefcbaaDrawn2
namespace Go.Proofs.Ytkanekacjefcbaa
open Go.RowKit

theorem elPairJ : Elem Try.prog 28 49 2 16 := elem_mk Try.underlying28 (z := .agg #[.int .i64 0, .int .i64 0]) (by kernel_rfl) rfl (by omega) (by omega)
/-- the pair of output k and its like -/
def outP (g : G) (m : Nat) (k : Nat) : Nat → Value := two (.int .i64 (g.O k)) (.int .i64 (g.O (m + k)))

set_option maxHeartbeats 4000000 in
set_option maxRecDepth 100000 in
theorem outlets_any (g : G) (m : Nat) (A1 A2 A3 : Option Addr) (c1 c2 c3 : Nat) (w : World) (hg : g.At w A1 A2 A3) (hm : g.n3 = 2 * m) (hb : m ≤ 1000000) :
    Calls Try.prog 50 #[.agg #[.int .i64 g.ins, .slice A1 g.n1 c1, .slice A2 g.n2 c2, .slice A3 g.n3 c3]] w fun e w' => ∃ A c, e = .returned (.slice A m c) ∧ w'.ownsRow w.heap.size 49 2 (.slice A m c) m (flat2 (outP g m) m) ∧ Below w.heap.size w w' := by
  have hdiv : (g.n3 : Int) / 2 = m := by omega
  have HM := Lib.hid hm; clear hm
  have hmb : (m : Int) + m ≤ g.n3 := by have := HM.out; omega
  have hmb2 : 2 * m ≤ g.n3 := by have := HM.out; omega
  go_enter Try.func50, Try.ntmps50
  go_upto_region 1 with (fail)
  have hal : Below w.heap.size w (w.alloc (.cells #[.int .i64 g.ins, .slice A1 g.n1 c1, .slice A2 g.n2 c2, .slice A3 g.n3 c3] 30)) := (Below.refl _ _).alloc (Nat.le_refl _) _
  have qa := BoxAt.new w [.int .i64 g.ins, .slice A1 g.n1 c1, .slice A2 g.n2 c2, .slice A3 g.n3 c3] 30
  generalize w.alloc (.cells #[.int .i64 g.ins, .slice A1 g.n1 c1, .slice A2 g.n2 c2, .slice A3 g.n3 c3] 30) = w1 at *
  have HB1 := Lib.hid hal
  have hs1 := hal.size
  have hg1 := hg.keeps (Keeps.of_below hal)
  obtain ⟨g0, g1, g2, g3⟩ := qa.four
  clear hal
  go_wp2_with fail
  clear g0 g1 g2 g3 hdiv
  go_loopw [3, 5] (fun v ix wr => ∃ (k : Nat) (A : Option Addr) (c : Nat), k ≤ m ∧ ix = .int .i64 k ∧ v = .slice A k c ∧ Grow w1 49 2 A k c (flat2 (outP g m) k) wr) (fun _ ix _ => m - (intOf ix).toNat)
  case atStart => exact ⟨0, none, 0, by omega, rfl, rfl, Grow.start _ _ _⟩
  case round =>
    obtain ⟨k, A, c, hk, rfl, rfl, H⟩ := hrel
    have hkp := Lib.hid (Grow.keeps H)
    have hsz := Grow.size H
    by_cases hlt : k < m
    · have hki : (k : Int) < m := by omega
      have hk3 : (k : Int) < g.n3 := by omega
      have hk4 : (m : Int) + k < g.n3 := by omega
      obtain ⟨bo, oo, hA, x0⟩ := (hg1.keeps hkp.out).outs.at_ (k := k) (by omega)
      obtain ⟨bo2, oo2, hA2, x1⟩ := (hg1.keeps hkp.out).outs.at_ (k := m + k) (by omega)
      rw [hA] at hA2
      obtain ⟨rfl, rfl⟩ : bo = bo2 ∧ oo = oo2 := by simpa using hA2
      obtain ⟨g0, g1, g2, g3⟩ := (qa.keeps hkp.out).four
      rw [hA] at g3
      clear hA hA2
      have e1 : IntKind.i64.wrap ((m : Int) + k) = (m : Int) + k := IntWalk.i64_in _ (by omega)
      have e2 : ((m : Int) + k).toNat = m + k := by omega
      have e3 : (0 : Int) ≤ (m : Int) + k := by omega
      go_wp2_with fail
      refine wp_region_z (fun w' => w'.cell? ⟨w.heap.size, 3, none⟩ = some (.slice (some ⟨bo, oo, none⟩) g.n3 c3) ∧ w'.cell? ⟨bo, oo + k, none⟩ = some (.int .i64 (g.O k)) ∧ w'.cell? ⟨bo, oo + (m + k), none⟩ = some (.int .i64 (g.O (m + k)))) [0, 1, 2, 3, 4, 5, 6, 7, 8, 9, 10, 11, 12, 13] [15, 16] (by kernel_rfl) (by kernel_rfl) (by kernel_rfl) (by rfl) (fun _ _ _ _ e h => ⟨e.symm.trans h.1, h.2⟩) ⟨g3, x0, x1⟩ ?_
      iterate 14
        refine Heads.step (v := ?_) rfl (by rfl) (fun W hW => ?_) ?_
        rotate_left
        · (obtain ⟨s0, s1, s2⟩ := hW; go_simp; try with_reducible rfl)
      refine AnyZ.one (i := 14) (by kernel_rfl) rfl (fun K hK => ?_)
      go_simp
      refine hK _ _ (fun _ => ⟨Keeps.alloc _ _ _ _ g3, Keeps.alloc _ _ _ _ x0, Keeps.alloc _ _ _ _ x1⟩) ?_
      clear hK
      refine AnyZ.one (i := 15) (by kernel_rfl) rfl (fun K hK => ?_)
      refine step_append (by rfl) (.tmp 15) (.tmp 29) _ (by rfl) elPairJ w1.heap.size A k c _ (by rfl) ((World.ownsRow.alloc H.own _).drew) _ 1 1 [.int .i64 (g.O k), .int .i64 (g.O (m + k))] (by rfl) (Src.drew (src_news wr #[.int .i64 (g.O k), .int .i64 (g.O (m + k))] 49 2 1 rfl (by simp [Value.oneCell']))) (by omega) (by simp; omega) ?_
      intro A' c' w8 ho hk' hb'
      have hG := Grow.push (Grow.alloc H (.cells #[.int .i64 (g.O k), .int .i64 (g.O (m + k))] 49)) (xs' := flat2 (outP g m) (k + 1)) ho (show Only (blockOf A) (wr.alloc _) w8 from ⟨hk'.os, hk'.tape, hk'.output, hk'.size, hk'.block⟩)
      refine hK _ _ (fun h => by cases h) ?_
      clear hK ho hk' hb'
      refine AnyZ.one (i := 16) (by kernel_rfl) rfl (fun K hK => ?_)
      go_simp
      refine hK _ _ (fun h => by cases h) (AnyZ.done (by kernel_rfl) ?_)
      clear hK
      go_wp2_with fail
      go_roundw
      case rel => exact ⟨k + 1, A', c', by omega, by go_num, rfl, hG⟩
      case measure => simp [intOf]; omega
    · obtain rfl : k = m := by omega
      go_wp2_with fail
      go_ret
      exact ⟨A, c, rfl, own_mono H.own hs1, Below.then_call HB1.out H.bel hs1⟩
end Go.Proofs.Ytkanekacjefcbaa
