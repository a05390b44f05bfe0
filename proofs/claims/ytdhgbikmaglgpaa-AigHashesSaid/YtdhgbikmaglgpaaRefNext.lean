/- The reference's GraphNext, walked: the latches behind a cycle and the outputs in it, as new slices. Conditions: the graph is valid and lies in memory, the row and the state lie in memory. -/
import Derived.Test.YtdhgbikmaglgpaaRefCyc
namespace Go.Proofs.Ytdhgbikmaglgpaa
open Go.RowKit

/-- two new slices of bools -/
def RetBits2 (w : World) (n m : Nat) (V U : Nat → Bool) (e : Ending) (w' : World) : Prop :=
  ∃ A c B d, e = .returned (.tuple #[.slice A n c, .slice B m d]) ∧ OwnBits w' w.heap.size A n c V ∧ OwnBits w' w.heap.size B m d U ∧ Below w.heap.size w w'

set_option maxHeartbeats 1000000 in
theorem next_any (g : G) (A1 A2 A3 : Option Addr) (c1 c2 c3 : Nat) (Ai As : Option Addr) (ni ci cs : Nat) (I S : Nat → Bool) (w : World) (hg : g.At w A1 A2 A3) (hv : g.Valid)
    (hi : Bits w Ai ni I) (hni : ni ≤ 140737488351232) (hs : Bits w As g.n1 S) :
    Calls Try.prog 90 #[.agg #[.int .i64 g.ins, .slice A1 g.n1 c1, .slice A2 g.n2 c2, .slice A3 g.n3 c3], .slice Ai ni ci, .slice As g.n1 cs] w
      (RetBits2 w g.n1 g.n3 (fun i => litF (g.vals (fun i => decide (i < ni) && I i) S) (g.L i)) (fun i => litF (g.vals (fun i => decide (i < ni) && I i) S) (g.O i))) := by
  have v1 := hv.i0; have v2 := hv.i1; have v3 := hv.n; have v4 := hv.n1; have v5 := hv.n3
  have hfirst : g.first + g.n2 ≤ 60000 := by unfold G.first; omega
  go_enter Try.func90, Try.ntmps90
  go_wp2_with fail
  refine (cycle_any g A1 A2 A3 c1 c2 c3 Ai As ni ci cs I S _ (hg.keeps (Keeps.alloc _ _)) hv (hi.keeps (Keeps.alloc _ _)) hni (hs.keeps (Keeps.alloc _ _))).mono ?_
  rintro e w1 ⟨Av, cv, rfl, hown, hb1⟩
  generalize hV : g.vals (fun i => decide (i < ni) && I i) S = V at hown ⊢
  have HV := Lib.hid hV; clear hV
  have HB1 := Lib.hid (Below.alloc_then hb1)
  have hbox := (BoxAt.new w [.int .i64 g.ins, .slice A1 g.n1 c1, .slice A2 g.n2 c2, .slice A3 g.n3 c3] 26).keeps (Keeps.of_below hb1)
  have hg1 := hg.keeps (Keeps.below_alloc hb1)
  have hvb := hown.bits
  have hs1 := hb1.size
  simp at hs1
  clear hb1 hown
  go_wp2_with fail
  go_loopw [9, 11] (fun v i wr => ∃ (k : Nat) (A : Option Addr) (c : Nat), k ≤ g.n1 ∧ i = .int .i64 k ∧ v = .slice A k c ∧ GrowB w1 A k c (fun i => litF V (g.L i)) wr) (fun _ i _ => g.n1 - (intOf i).toNat)
  case atStart => exact ⟨0, _, _, by omega, rfl, rfl, GrowB.start _ _⟩
  case round =>
    obtain ⟨k, A, c, hk, rfl, rfl, H⟩ := hrel
    have hkp := Lib.hid (Grow.keeps H)
    have hsz := H.size
    obtain ⟨g0, g1, g2, g3⟩ := (hbox.keeps hkp.out).four
    by_cases hlt : k < g.n1
    · obtain ⟨b1, o1, rfl, x0, _⟩ := (hg1.keeps hkp.out).lat.at2 hlt
      simp only [two] at x0
      have hok := hv.lat k hlt
      unfold G.LitOk at hok
      go_wp2_with fail
      refine (lit_any _ _ _ _ _ _ (hvb.keeps hkp.out) (by omega) (by unfold G.first; omega) (by omega)).mono ?_
      rintro e w' ⟨rfl, rfl⟩
      go_wp2_with (at_builtin; refine wp_append rfl (.tmp 24) (.tmp 33) _ rfl elBool w1.heap.size A k c _ rfl (Grow.alloc H _).own _ 1 1 [.bool (litF V (g.L k))] rfl (src_new _ _ _ rfl) (by omega) (sz_alloc H.size) ?_; intro A' c' w1 ho hk' hb')
      go_roundw
      case rel => exact ⟨k + 1, A', c', by omega, by go_num, rfl, GrowB.push (Grow.alloc H _) ho hk' (fun _ _ => rfl) rfl⟩
      case measure => simp [intOf]; omega
    · obtain rfl : k = g.n1 := by omega
      have HBr := Lib.hid (Below.then_call HB1.out H.bel (by omega))
      have hboxr := hbox.keeps hkp.out
      have hgr := hg1.keeps hkp.out
      have hvr := hvb.keeps hkp.out
      have hnx := own_mono H.own (base' := w.heap.size) (by omega)
      clear H hkp
      go_wp2_with fail
      clear g0 g1 g2 g3
      obtain ⟨w2, rfl⟩ : ∃ w2 : World, w2 = wr := ⟨_, rfl⟩
      go_loopw [10, 12] (fun v i wr => ∃ (k : Nat) (A : Option Addr) (c : Nat), k ≤ g.n3 ∧ i = .int .i64 k ∧ v = .slice A k c ∧ GrowB w2 A k c (fun i => litF V (g.O i)) wr) (fun _ i _ => g.n3 - (intOf i).toNat)
      case atStart => exact ⟨0, _, _, by omega, rfl, rfl, GrowB.start _ _⟩
      case round =>
        obtain ⟨k, Ao, co, hk, rfl, rfl, H⟩ := hrel
        have hkp := Lib.hid (Grow.keeps H)
        have hsz := H.size
        obtain ⟨g0, g1, g2, g3⟩ := (hboxr.keeps hkp.out).four
        by_cases hlt : k < g.n3
        · obtain ⟨b3, o3, rfl, x0⟩ := (hgr.keeps hkp.out).outs.at_ hlt
          have hok := hv.outs k hlt
          unfold G.LitOk at hok
          go_wp2_with fail
          refine (lit_any _ _ _ _ _ _ (hvr.keeps hkp.out) (by omega) (by unfold G.first; omega) (by omega)).mono ?_
          rintro e w' ⟨rfl, rfl⟩
          go_wp2_with (at_builtin; refine wp_append rfl (.tmp 42) (.tmp 50) _ rfl elBool w2.heap.size Ao k co _ rfl (Grow.alloc H _).own _ 1 1 [.bool (litF V (g.O k))] rfl (src_new _ _ _ rfl) (by omega) (sz_alloc H.size) ?_; intro A' c' w1 ho hk' hb')
          go_roundw
          case rel => exact ⟨k + 1, A', c', by omega, by go_num, rfl, GrowB.push (Grow.alloc H _) ho hk' (fun _ _ => rfl) rfl⟩
          case measure => simp [intOf]; omega
        · obtain rfl : k = g.n3 := by omega
          have HBz := Lib.hid (Below.then_call HBr.out H.bel (by have := HBr.out.size; omega))
          have hsz := HBr.out.size
          go_wp2_with fail
          go_ret2
          have hV := HV.out; subst hV
          exact ⟨_, _, _, _, rfl, own_below hnx H.bel, own_mono H.own hsz, HBz.out⟩
end Go.Proofs.Ytdhgbikmaglgpaa
