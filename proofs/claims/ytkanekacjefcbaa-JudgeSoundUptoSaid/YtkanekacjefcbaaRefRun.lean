/- The reference's GraphCycle, walked: a new slice of the values of all variables. Conditions: the graph is valid and lies in memory, the row and the state lie in memory. The reference's GraphNext, walked: the latches behind a cycle and the outputs in it, as new slices. Conditions: the graph is valid and lies in memory, the row and the state lie in memory. The reference's States, SameBools and SameRows, walked. Conditions: what they are handed lies in memory. The reference's GraphRun, walked: the outputs, cycle by cycle, as a new slice of new rows. Conditions: the graph is valid and lies in memory, the trace lies in memory. How an argument that is a slice of rows of bools is opened. No condition. -/
import Derived.Test.YtkanekacjefcbaaValidJ
import Derived.Test.YtkanekacjefcbaaGPure
import Derived.Test.YtkanekacjefcbaaOwn
import Derived.Deep.DeepMust
import Derived.Test.YtkanekacjefcbaaDrawnQ
import Derived.Deep.QuietTactic
import Derived.BigQuiet
import Derived.StillTailTactics
import Derived.Deep.RegionHeld3
namespace Go.Proofs.Ytkanekacjefcbaa
open Go.RowKit

/-- a slice of bools -/
def Bits (w : World) (A : Option Addr) (n : Nat) (V : Nat → Bool) : Prop := Row1 w A n (fun k => .bool (V k))
theorem Bits.keeps {w w1 : World} {A : Option Addr} {n : Nat} {V : Nat → Bool} (h : Bits w A n V) (k : Keeps w w1) : Bits w1 A n V := Row1.keeps h k

def OwnBits (w : World) (base : Nat) (A : Option Addr) (n c : Nat) (V : Nat → Bool) : Prop := w.ownsRow base 4 1 (.slice A n c) n ((List.range n).map fun k => .bool (V k))
theorem OwnBits.bits {w : World} {base : Nat} {A : Option Addr} {n c : Nat} {V : Nat → Bool} (h : OwnBits w base A n c V) : Bits w A n V := fun hn => by
  obtain ⟨b, off, e, hc⟩ := own_row1 h hn
  refine ⟨b, off, e, fun k hk => ?_⟩
  rw [hc k hk]
  simp [hk]
theorem OwnBits.push {w : World} {base : Nat} {A : Option Addr} {n c : Nat} {V V' : Nat → Bool} {x : Bool} (h : w.ownsRow base 4 1 (.slice A (n + 1) c) (n + 1) (((List.range n).map fun k => .bool (V k)) ++ [.bool x]))
    (hV : ∀ k, k < n → V' k = V k) (hx : V' n = x) : OwnBits w base A (n + 1) c V' := by
  unfold OwnBits
  rw [List.range_succ, List.map_append, List.map_congr_left (g := fun k => .bool (V k)) (fun k hk => by rw [hV k (by simpa using hk)])]
  simpa [hx] using h
/-- .. of bools that grows -/
def GrowB (wb : World) (A : Option Addr) (n c : Nat) (V : Nat → Bool) (wr : World) : Prop := Grow wb 4 1 A n c ((List.range n).map fun k => .bool (V k)) wr
theorem GrowB.own {wb wr : World} {A : Option Addr} {n c : Nat} {V : Nat → Bool} (h : GrowB wb A n c V wr) : OwnBits wr wb.heap.size A n c V := Grow.own h
theorem GrowB.start (wb : World) (V : Nat → Bool) : GrowB wb none 0 0 V wb := Grow.start _ _ _
theorem GrowB.push {wb wr w1 : World} {A A' : Option Addr} {n c c' : Nat} {V V' : Nat → Bool} {x : Bool} (h : GrowB wb A n c V wr)
    (ho : w1.ownsRow wb.heap.size 4 1 (.slice A' (n + 1) c') (n + 1) (((List.range n).map fun k => .bool (V k)) ++ [.bool x])) (hk : Only (blockOf A) wr w1)
    (hV : ∀ k, k < n → V' k = V k) (hx : V' n = x) : GrowB wb A' (n + 1) c' V' w1 := Grow.push h (OwnBits.push ho hV hx) hk
theorem elBool : Elem Try.prog 56 4 1 1 := elem_mk Try.underlying56 (z := .bool false) (by kernel_rfl) rfl (by omega) (by omega)

set_option maxHeartbeats 400000 in
theorem litB_any (A : Option Addr) (n c : Nat) (V : Nat → Bool) (l : Int) (w : World) (hr : Bits w A n V) (h0 : 0 ≤ l) (h1 : l < 2 * n) (hn : n ≤ 1000000000) :
    Calls Try.prog 52 #[.slice A n c, .int .i64 l] w fun e w' => e = .returned (.bool (litF V l)) ∧ w = w' := by
  obtain ⟨b, off, rfl, hc⟩ := hr.at_ (k := (l / 2).toNat) (by omega)
  go_enter Try.func52, Try.ntmps52
  go_wp2
  go_ret
  refine ⟨ret_bool ?_, rfl⟩
  unfold litF
  rw [show (l / 2).toNat = l.toNat / 2 by omega]
  rfl

/-- a function's result: a new slice of bools -/
def RetBits (w : World) (n : Nat) (V : Nat → Bool) (e : Ending) (w' : World) : Prop := ∃ A c, e = .returned (.slice A n c) ∧ OwnBits w' w.heap.size A n c V ∧ Below w.heap.size w w'

/-- where GraphCycle's slice stands -/
structure CycAt (g : G) (w : World) (cs : List Value) (n : Nat) (V : Nat → Bool) (A : Option Addr) (c : Nat) (wr : World) : Prop where
  own : OwnBits wr (w.heap.size + 1) A n c V
  box : BoxAt wr w.heap.size cs
  bel : Below w.heap.size w wr
  size : w.heap.size + 1 ≤ wr.heap.size

theorem CycAt.alloc {g : G} {w : World} {cs : List Value} {n : Nat} {V : Nat → Bool} {A : Option Addr} {c : Nat} {wr : World} (h : CycAt g w cs n V A c wr) (o : Obj) : CycAt g w cs n V A c (wr.alloc o) :=
  ⟨h.own.alloc o, h.box.keeps (Keeps.alloc _ _), h.bel.alloc h.bel.size o, by have := h.size; simp; omega⟩

theorem CycAt.app {g : G} {w : World} {cs : List Value} {n m : Nat} {V V' S : Nat → Bool} {A A' : Option Addr} {c c' : Nat} {wr w1 : World} (h : CycAt g w cs n V A c wr)
    (ho : w1.ownsRow (w.heap.size + 1) 4 1 (.slice A' (n + m) c') (n + m) (((List.range n).map fun k => .bool (V k)) ++ (List.range m).map fun k => .bool (S k))) (hk : Only (blockOf A) wr w1)
    (hV : ∀ k, k < n → V' k = V k) (hx : ∀ k, k < m → V' (n + k) = S k) : CycAt g w cs (n + m) V' A' c' w1 := by
  have hA : ∀ k, blockOf A k → w.heap.size + 1 ≤ k := own_base h.own
  have h1 := h.size
  refine ⟨?_, hk.box h.box (fun c => by have := hA _ c; omega), h.bel.trans (hk.below (fun k _ c => by have := hA k c; omega) (by omega)), by have := hk.size; omega⟩
  unfold OwnBits
  rw [List.range_add, List.map_append, List.map_map, List.map_congr_left (g := fun k => .bool (V k)) (fun k hk => by rw [hV k (by simpa using hk)]),
    List.map_congr_left (l := List.range m) (g := fun k => .bool (S k)) (fun k hk => by simp only [Function.comp]; rw [hx k (by simpa using hk)])]
  exact ho

theorem CycAt.push {g : G} {w : World} {cs : List Value} {n : Nat} {V V' : Nat → Bool} {A A' : Option Addr} {c c' : Nat} {wr w1 : World} {x : Bool} (h : CycAt g w cs n V A c wr)
    (ho : w1.ownsRow (w.heap.size + 1) 4 1 (.slice A' (n + 1) c') (n + 1) (((List.range n).map fun k => .bool (V k)) ++ [.bool x])) (hk : Only (blockOf A) wr w1)
    (hV : ∀ k, k < n → V' k = V k) (hx : V' n = x) : CycAt g w cs (n + 1) V' A' c' w1 := by
  have hA : ∀ k, blockOf A k → w.heap.size + 1 ≤ k := own_base h.own
  have h1 := h.size
  exact ⟨OwnBits.push ho hV hx, hk.box h.box (fun c => by have := hA _ c; omega), h.bel.trans (hk.below (fun k _ c => by have := hA k c; omega) (by omega)), by have := hk.size; omega⟩

set_option maxHeartbeats 1000000 in
theorem cycle_any (g : G) (A1 A2 A3 : Option Addr) (c1 c2 c3 : Nat) (Ai As : Option Addr) (ni ci cs : Nat) (I S : Nat → Bool) (w : World) (hg : g.At w A1 A2 A3) (hv : g.Valid)
    (hi : Bits w Ai ni I) (hni : ni ≤ 140737488351232) (hs : Bits w As g.n1 S) :
    Calls Try.prog 51 #[.agg #[.int .i64 g.ins, .slice A1 g.n1 c1, .slice A2 g.n2 c2, .slice A3 g.n3 c3], .slice Ai ni ci, .slice As g.n1 cs] w
      (RetBits w (g.first + g.n2) (g.vals (fun i => decide (i < ni) && I i) S)) := by
  have v1 := hv.i0; have v2 := hv.i1; have v3 := hv.n; have v4 := hv.n1
  go_enter Try.func51, Try.ntmps51
  go_wp2_with fail
  go_loopw [7, 8] (fun v i wr => ∃ (k : Nat) (A : Option Addr) (c : Nat), k ≤ g.ins.toNat ∧ i = .int .i64 k ∧ v = .slice A (k + 1) c ∧
    CycAt g w [.int .i64 g.ins, .slice A1 g.n1 c1, .slice A2 g.n2 c2, .slice A3 g.n3 c3] (k + 1) (g.head (fun i => decide (i < ni) && I i) S) A c wr) (fun _ i _ => g.ins.toNat - (intOf i).toNat)
  case atStart =>
    refine ⟨0, _, _, by omega, rfl, rfl, ⟨?_, ?_, ?_, ?_⟩⟩
    · exact ⟨rfl, .inr ⟨_, 1, #[.bool false], rfl, by omega, by rw [show w.heap.size + 1 = (w.alloc (.cells #[.int .i64 g.ins, .slice A1 g.n1 c1, .slice A2 g.n2 c2, .slice A3 g.n3 c3] 30)).heap.size by simp]; exact heap_alloc_new _ _, by omega, by simp [maxLen], rfl, by simp [G.head]⟩⟩
    · exact (BoxAt.new w _ _).keeps (Keeps.alloc _ _)
    · exact ((Below.refl _ _).alloc (Nat.le_refl _) _).alloc (by simp) _
    · simp
  case round =>
    obtain ⟨k, A, c, hk, rfl, rfl, H⟩ := hrel
    obtain ⟨g0, g1, g2, g3⟩ := H.box.four
    have hir := hi.keeps (Keeps.of_below H.bel)
    have hsr := H.size
    by_cases hlt : k < g.ins.toNat
    · by_cases hin : k < ni
      · obtain ⟨bi, oi, rfl, x0⟩ := hir.at_ hin
        have hd : decide ((k : Int) < (ni : Int)) = true := by simp; omega
        go_wp2_with (at_builtin; refine wp_append rfl (.tmp 17) (.tmp 28) _ rfl elBool (w.heap.size + 1) A (k + 1) c _ rfl (H.alloc _).own _ 1 1 [.bool (I k)] rfl (src_new _ _ _ rfl) (by omega) (sz_alloc H.size) ?_; intro A' c' w1 ho hk' hb')
        go_roundw
        case rel => exact ⟨k + 1, A', c', by omega, by go_num, rfl, (H.alloc _).push ho hk' (fun _ _ => rfl) (by rw [G.head_in _ _ _ hlt]; simp [hin])⟩
        case measure => simp [intOf]; omega
      · have hd : decide ((k : Int) < (ni : Int)) = false := by simp; omega
        go_wp2_with (at_builtin; refine wp_append rfl (.tmp 17) (.tmp 28) _ rfl elBool (w.heap.size + 1) A (k + 1) c _ rfl (H.alloc _).own _ 1 1 [.bool false] rfl (src_new _ _ _ rfl) (by omega) (sz_alloc H.size) ?_; intro A' c' w1 ho hk' hb')
        go_roundw
        case rel => exact ⟨k + 1, A', c', by omega, by go_num, rfl, (H.alloc _).push ho hk' (fun _ _ => rfl) (by rw [G.head_in _ _ _ hlt]; simp [hin])⟩
        case measure => simp [intOf]; omega
    · obtain rfl : k = g.ins.toNat := by omega
      have hsr2 := hs.keeps (Keeps.of_below H.bel)
      have hsrc := src_row1 hsr2 (fun _ _ => rfl)
      go_wp2_with (at_builtin; refine wp_append rfl (.tmp 30) (.tmp 31) _ rfl elBool (w.heap.size + 1) A (g.ins.toNat + 1) c _ rfl H.own _ g.n1 cs _ rfl hsrc (by omega) H.size ?_; intro A' c' w1 ho hk' hb')
      have H1 := H.app (V' := g.head (fun i => decide (i < ni) && I i) S) ho hk' (fun _ _ => rfl) (fun k hk => G.head_st _ _ _ hk)
      clear ho hk' hb' hsrc hsr2 hsr hir g0 g1 g2 g3
      rw [show g.ins.toNat + 1 + g.n1 = g.first by unfold G.first; omega] at H1 ⊢
      go_wp2_with fail
      go_loopw [7, 9] (fun v i wr => ∃ (k : Nat) (A : Option Addr) (c : Nat), k ≤ g.n2 ∧ i = .int .i64 k ∧ v = .slice A (g.first + k) c ∧
        CycAt g w [.int .i64 g.ins, .slice A1 g.n1 c1, .slice A2 g.n2 c2, .slice A3 g.n3 c3] (g.first + k) (g.cyc (fun i => decide (i < ni) && I i) S k) A c wr) (fun _ i _ => g.n2 - (intOf i).toNat)
      case atStart => exact ⟨0, A', c', by omega, rfl, rfl, H1⟩
      case round =>
        clear H1 H
        obtain ⟨k, A, c, hk, rfl, rfl, H⟩ := hrel
        obtain ⟨g0, g1, g2, g3⟩ := H.box.four
        have hgr := hg.keeps (Keeps.of_below H.bel)
        have hsr := H.size
        have hfirst : g.first + k ≤ 60000 := by unfold G.first; omega
        by_cases hlt : k < g.n2
        · obtain ⟨b2, o2, rfl, x0, y0⟩ := hgr.ands.at2 hlt
          simp only [two] at x0 y0
          have hok := hv.ands k hlt
          unfold G.AndOk at hok
          go_wp2_with fail
          refine (litB_any _ _ _ _ _ _ H.own.bits (by omega) (by unfold G.first; omega) (by omega)).mono ?_
          rintro e w' ⟨rfl, rfl⟩
          cases hb : litF (g.cyc (fun i => decide (i < ni) && I i) S k) (g.X k)
          · have HB := Lib.hid hb; clear hb
            go_wp2_with (at_builtin; refine wp_append rfl (.tmp 40) (.tmp 59) _ rfl elBool (w.heap.size + 1) A (g.first + k) c _ rfl (H.alloc _).own _ 1 1 [.bool false] rfl (src_new _ _ _ rfl) (by omega) (sz_alloc H.size) ?_; intro A' c' w1 ho hk' hb')
            go_roundw
            case rel => exact ⟨k + 1, A', c', by omega, by go_num, rfl, (H.alloc _).push ho hk' (fun j hj => G.cyc_lo _ _ _ _ _ hj) (by rw [G.cyc_at, HB.out]; rfl)⟩
            case measure => simp [intOf]; omega
          · have HB := Lib.hid hb; clear hb
            go_wp2_with fail
            refine (litB_any _ _ _ _ _ _ H.own.bits (by omega) (by unfold G.first; omega) (by omega)).mono ?_
            rintro e w' ⟨rfl, rfl⟩
            go_wp2_with (at_builtin; refine wp_append rfl (.tmp 40) (.tmp 59) _ rfl elBool (w.heap.size + 1) A (g.first + k) c _ rfl (H.alloc _).own _ 1 1 [.bool (litF (g.cyc (fun i => decide (i < ni) && I i) S k) (g.Y k))] rfl (src_new _ _ _ rfl) (by omega) (sz_alloc H.size) ?_; intro A' c' w1 ho hk' hb')
            go_roundw
            case rel => exact ⟨k + 1, A', c', by omega, by go_num, rfl, (H.alloc _).push ho hk' (fun j hj => G.cyc_lo _ _ _ _ _ hj) (by rw [G.cyc_at, HB.out]; rfl)⟩
            case measure => simp [intOf]; omega
        · obtain rfl : k = g.n2 := by omega
          go_wp2_with fail
          go_ret
          exact ⟨A, c, rfl, own_mono H.own (by omega), H.bel⟩
end Go.Proofs.Ytkanekacjefcbaa
namespace Go.Proofs.Ytkanekacjefcbaa
open Go.RowKit

/-- two new slices of bools -/
def RetBits2 (w : World) (n m : Nat) (V U : Nat → Bool) (e : Ending) (w' : World) : Prop :=
  ∃ A c B d, e = .returned (.tuple #[.slice A n c, .slice B m d]) ∧ OwnBits w' w.heap.size A n c V ∧ OwnBits w' w.heap.size B m d U ∧ Below w.heap.size w w'

set_option maxHeartbeats 1000000 in
theorem next_any (g : G) (A1 A2 A3 : Option Addr) (c1 c2 c3 : Nat) (Ai As : Option Addr) (ni ci cs : Nat) (I S : Nat → Bool) (w : World) (hg : g.At w A1 A2 A3) (hv : g.Valid)
    (hi : Bits w Ai ni I) (hni : ni ≤ 140737488351232) (hs : Bits w As g.n1 S) :
    Calls Try.prog 26 #[.agg #[.int .i64 g.ins, .slice A1 g.n1 c1, .slice A2 g.n2 c2, .slice A3 g.n3 c3], .slice Ai ni ci, .slice As g.n1 cs] w
      (RetBits2 w g.n1 g.n3 (fun i => litF (g.vals (fun i => decide (i < ni) && I i) S) (g.L i)) (fun i => litF (g.vals (fun i => decide (i < ni) && I i) S) (g.O i))) := by
  have v1 := hv.i0; have v2 := hv.i1; have v3 := hv.n; have v4 := hv.n1; have v5 := hv.n3
  have hfirst : g.first + g.n2 ≤ 60000 := by unfold G.first; omega
  go_enter Try.func26, Try.ntmps26
  go_wp2_with fail
  refine (cycle_any g A1 A2 A3 c1 c2 c3 Ai As ni ci cs I S _ (hg.keeps (Keeps.alloc _ _)) hv (hi.keeps (Keeps.alloc _ _)) hni (hs.keeps (Keeps.alloc _ _))).mono ?_
  rintro e w1 ⟨Av, cv, rfl, hown, hb1⟩
  generalize hV : g.vals (fun i => decide (i < ni) && I i) S = V at hown ⊢
  have HV := Lib.hid hV; clear hV
  have HB1 := Lib.hid (Below.alloc_then hb1)
  have hbox := (BoxAt.new w [.int .i64 g.ins, .slice A1 g.n1 c1, .slice A2 g.n2 c2, .slice A3 g.n3 c3] 30).keeps (Keeps.of_below hb1)
  have hg1 := hg.keeps (Keeps.below_alloc hb1)
  have hvb := hown.bits
  have hs1 := hb1.size
  simp at hs1
  clear hb1 hown
  go_wp2_with fail
  go_loopw [9, 11] (fun v i wr => ∃ (k : Nat) (A : Option Addr) (c : Nat), k ≤ g.n1 ∧ i = .int .i64 k ∧ v = .slice A k c ∧ GrowB w1 A k c (fun i => litF V (g.L i)) wr) (fun _ i _ => g.n1 - (intOf i).toNat)
  case atStart => exact ⟨0, _, _, by omega, rfl, rfl, GrowB.start _ _⟩
  case round =>
    obtain ⟨k, A, c, hk, rfl, rfl, H⟩ := hrel
    have hkp := Lib.hid (Grow.keeps H)
    have hsz := H.size
    obtain ⟨g0, g1, g2, g3⟩ := (hbox.keeps hkp.out).four
    by_cases hlt : k < g.n1
    · obtain ⟨b1, o1, rfl, x0, _⟩ := (hg1.keeps hkp.out).lat.at2 hlt
      simp only [two] at x0
      have hok := hv.lat k hlt
      unfold G.LitOk at hok
      go_wp2_with fail
      refine (litB_any _ _ _ _ _ _ (hvb.keeps hkp.out) (by omega) (by unfold G.first; omega) (by omega)).mono ?_
      rintro e w' ⟨rfl, rfl⟩
      go_wp2_with (at_builtin; refine wp_append rfl (.tmp 24) (.tmp 33) _ rfl elBool w1.heap.size A k c _ rfl (Grow.alloc H _).own _ 1 1 [.bool (litF V (g.L k))] rfl (src_new _ _ _ rfl) (by omega) (sz_alloc H.size) ?_; intro A' c' w1 ho hk' hb')
      go_roundw
      case rel => exact ⟨k + 1, A', c', by omega, by go_num, rfl, GrowB.push (Grow.alloc H _) ho hk' (fun _ _ => rfl) rfl⟩
      case measure => simp [intOf]; omega
    · obtain rfl : k = g.n1 := by omega
      have HBr := Lib.hid (Below.then_call HB1.out H.bel (by omega))
      have hboxr := hbox.keeps hkp.out
      have hgr := hg1.keeps hkp.out
      have hvr := hvb.keeps hkp.out
      have hnx := own_mono H.own (base' := w.heap.size) (by omega)
      clear H hkp
      go_wp2_with fail
      clear g0 g1 g2 g3
      obtain ⟨w2, rfl⟩ : ∃ w2 : World, w2 = wr := ⟨_, rfl⟩
      go_loopw [10, 12] (fun v i wr => ∃ (k : Nat) (A : Option Addr) (c : Nat), k ≤ g.n3 ∧ i = .int .i64 k ∧ v = .slice A k c ∧ GrowB w2 A k c (fun i => litF V (g.O i)) wr) (fun _ i _ => g.n3 - (intOf i).toNat)
      case atStart => exact ⟨0, _, _, by omega, rfl, rfl, GrowB.start _ _⟩
      case round =>
        obtain ⟨k, Ao, co, hk, rfl, rfl, H⟩ := hrel
        have hkp := Lib.hid (Grow.keeps H)
        have hsz := H.size
        obtain ⟨g0, g1, g2, g3⟩ := (hboxr.keeps hkp.out).four
        by_cases hlt : k < g.n3
        · obtain ⟨b3, o3, rfl, x0⟩ := (hgr.keeps hkp.out).outs.at_ hlt
          have hok := hv.outs k hlt
          unfold G.LitOk at hok
          go_wp2_with fail
          refine (litB_any _ _ _ _ _ _ (hvr.keeps hkp.out) (by omega) (by unfold G.first; omega) (by omega)).mono ?_
          rintro e w' ⟨rfl, rfl⟩
          go_wp2_with (at_builtin; refine wp_append rfl (.tmp 42) (.tmp 50) _ rfl elBool w2.heap.size Ao k co _ rfl (Grow.alloc H _).own _ 1 1 [.bool (litF V (g.O k))] rfl (src_new _ _ _ rfl) (by omega) (sz_alloc H.size) ?_; intro A' c' w1 ho hk' hb')
          go_roundw
          case rel => exact ⟨k + 1, A', c', by omega, by go_num, rfl, GrowB.push (Grow.alloc H _) ho hk' (fun _ _ => rfl) rfl⟩
          case measure => simp [intOf]; omega
        · obtain rfl : k = g.n3 := by omega
          have HBz := Lib.hid (Below.then_call HBr.out H.bel (by have := HBr.out.size; omega))
          have hsz := HBr.out.size
          go_wp2_with fail
          go_ret2
          have hV := HV.out; subst hV
          exact ⟨_, _, _, _, rfl, own_below hnx H.bel, own_mono H.own hsz, HBz.out⟩
end Go.Proofs.Ytkanekacjefcbaa
namespace Go.Proofs.Ytkanekacjefcbaa
open Go.RowKit

set_option maxHeartbeats 400000 in
theorem states_any (g : G) (A1 A2 A3 : Option Addr) (c1 c2 c3 : Nat) (w : World) (hg : g.At w A1 A2 A3) (hn : g.n1 ≤ 6000) :
    Calls Try.prog 25 #[.agg #[.int .i64 g.ins, .slice A1 g.n1 c1, .slice A2 g.n2 c2, .slice A3 g.n3 c3]] w (RetBits w g.n1 g.I) := by
  go_enter Try.func25, Try.ntmps25
  go_wp2_with fail
  have hbox := BoxAt.new w [.int .i64 g.ins, .slice A1 g.n1 c1, .slice A2 g.n2 c2, .slice A3 g.n3 c3] 30
  have hg1 := hg.keeps (Keeps.alloc w (.cells #[.int .i64 g.ins, .slice A1 g.n1 c1, .slice A2 g.n2 c2, .slice A3 g.n3 c3] 30))
  have hb1 := (Below.refl w.heap.size w).alloc (Nat.le_refl _) (.cells #[.int .i64 g.ins, .slice A1 g.n1 c1, .slice A2 g.n2 c2, .slice A3 g.n3 c3] 30)
  generalize w.alloc (.cells #[.int .i64 g.ins, .slice A1 g.n1 c1, .slice A2 g.n2 c2, .slice A3 g.n3 c3] 30) = w1 at *
  go_loopw [3, 4] (fun v i wr => ∃ (k : Nat) (A : Option Addr) (c : Nat), k ≤ g.n1 ∧ i = .int .i64 k ∧ v = .slice A k c ∧ GrowB w1 A k c g.I wr) (fun _ i _ => g.n1 - (intOf i).toNat)
  case atStart => exact ⟨0, _, _, by omega, rfl, rfl, GrowB.start _ _⟩
  case round =>
    obtain ⟨k, A, c, hk, rfl, rfl, H⟩ := hrel
    have hkp := Lib.hid (Grow.keeps H)
    have hsz := H.size
    obtain ⟨g0, g1, g2, g3⟩ := (hbox.keeps hkp.out).four
    by_cases hlt : k < g.n1
    · obtain ⟨b1, o1, rfl, _, x0⟩ := (hg1.keeps hkp.out).lat.at2 hlt
      simp only [two] at x0
      go_wp2_with (at_builtin; refine wp_append rfl (.tmp 12) (.tmp 19) _ rfl elBool w1.heap.size A k c _ rfl (Grow.alloc H _).own _ 1 1 [.bool (g.I k)] rfl (src_new _ _ _ rfl) (by omega) (sz_alloc H.size) ?_; intro A' c' w1 ho hk' hb')
      go_roundw
      case rel => exact ⟨k + 1, A', c', by omega, by go_num, rfl, GrowB.push (Grow.alloc H _) ho hk' (fun _ _ => rfl) rfl⟩
      case measure => simp [intOf]; omega
    · obtain rfl : k = g.n1 := by omega
      go_wp2_with fail
      go_ret
      exact ⟨_, _, rfl, own_mono H.own (by have := hb1.size; omega), Below.then_call hb1 H.bel hb1.size⟩

/-- are two rows the same? -/
def RowsEq (n m : Nat) (V U : Nat → Bool) : Prop := n = m ∧ ∀ j, j < n → V j = U j

set_option maxHeartbeats 400000 in
theorem sameBools_any (A B : Option Addr) (n m c d : Nat) (V U : Nat → Bool) (w : World) (ha : Bits w A n V) (hb : Bits w B m U) (hn : n ≤ 1000000000000000) :
    Calls Try.prog 24 #[.slice A n c, .slice B m d] w (RetQ (tf (RowsEq n m V U)) w) := by
  by_cases hnm : n = m
  · subst hnm
    go_enter Try.func24, Try.ntmps24
    have hq : ((n : Int) != (n : Int)) = false := by simp
    go_wp2_with fail
    go_loopw [5] (fun i wr => ∃ k : Nat, k ≤ n ∧ i = .int .i64 k ∧ Drawn w wr ∧ Hid (∀ j, j < k → V j = U j)) (fun i _ => n - (intOf i).toNat)
    case atStart => exact ⟨0, by omega, rfl, ⟨0, rfl⟩, fun j hj => by omega⟩
    case round =>
      obtain ⟨k, hk, rfl, HD, HA⟩ := hrel
      by_cases hlt : k < n
      · obtain ⟨b1, o1, rfl, x0⟩ := (ha.keeps HD.keeps).at_ hlt
        obtain ⟨b2, o2, rfl, y0⟩ := (hb.keeps HD.keeps).at_ hlt
        by_cases hvu : V k = U k
        · have hx : (!(V k == U k)) = false := by simp [hvu]
          go_wp2_with fail
          go_quiet (fail)
          go_wp2_with fail
          exact ⟨⟨k + 1, by omega, by go_num, HD.more _, fun j hj => if e : j = k then e ▸ hvu else HA.out j (by omega)⟩, by simp [intOf]; omega⟩
        · have hx : (!(V k == U k)) = true := by simp [hvu]
          go_wp2_with fail
          go_quiet (fail)
          go_wp2_with fail
          go_ret
          exact ⟨by rw [tf_no (fun h => hvu (h.2 k hlt))]; rfl, HD.more _⟩
      · go_wp2_with fail
        go_ret
        obtain rfl : k = n := by omega
        exact ⟨by rw [tf_yes ⟨rfl, HA.out⟩]; rfl, HD⟩
  · go_enter Try.func24, Try.ntmps24
    have hq : ((n : Int) != (m : Int)) = true := by rw [bne_iff_ne]; omega
    go_wp2_with fail
    go_ret
    exact ⟨by rw [tf_no (fun h => hnm h.1)]; rfl, 0, rfl⟩

/-- a slice of n rows of bools -/
def Mat (w : World) (A : Option Addr) (n : Nat) (len : Nat → Nat) (R : Nat → Nat → Bool) : Prop :=
  ∃ (RA : Nat → Option Addr) (RC : Nat → Nat), Row1 w A n (fun i => .slice (RA i) (len i) (RC i)) ∧ ∀ i, i < n → Bits w (RA i) (len i) (R i)
theorem Mat.keeps {w w1 : World} {A : Option Addr} {n : Nat} {len : Nat → Nat} {R : Nat → Nat → Bool} (h : Mat w A n len R) (k : Keeps w w1) : Mat w1 A n len R := by
  obtain ⟨RA, RC, h1, h2⟩ := h
  exact ⟨RA, RC, h1.keeps k, fun i hi => (h2 i hi).keeps k⟩
def MatEq (n m : Nat) (ln lm : Nat → Nat) (R R' : Nat → Nat → Bool) : Prop := n = m ∧ ∀ i, i < n → RowsEq (ln i) (lm i) (R i) (R' i)

set_option maxHeartbeats 400000 in
theorem sameRows_any (A B : Option Addr) (n m c d : Nat) (ln lm : Nat → Nat) (R R' : Nat → Nat → Bool) (w : World) (ha : Mat w A n ln R) (hb : Mat w B m lm R') (hn : n ≤ 1000000000000000)
    (hl : ∀ i, i < n → ln i ≤ 1000000000000000) :
    Calls Try.prog 10 #[.slice A n c, .slice B m d] w (RetQ (tf (MatEq n m ln lm R R')) w) := by
  by_cases hnm : n = m
  · subst hnm
    go_enter Try.func10, Try.ntmps10
    have hq : ((n : Int) != (n : Int)) = false := by simp
    have HL := Lib.hid hl; clear hl
    obtain ⟨RA, RC, ha1, ha2⟩ := ha
    obtain ⟨RB, RD, hb1, hb2⟩ := hb
    have HA2 := Lib.hid ha2; have HB2 := Lib.hid hb2; clear ha2 hb2
    go_wp2_with fail
    go_loopw [5] (fun i wr => ∃ k : Nat, k ≤ n ∧ i = .int .i64 k ∧ Drawn w wr ∧ Hid (∀ j, j < k → RowsEq (ln j) (lm j) (R j) (R' j))) (fun i _ => n - (intOf i).toNat)
    case atStart => exact ⟨0, by omega, rfl, ⟨0, rfl⟩, fun j hj => by omega⟩
    case round =>
      obtain ⟨k, hk, rfl, HD, HA⟩ := hrel
      by_cases hlt : k < n
      · obtain ⟨b1, o1, rfl, x0⟩ := (ha1.keeps HD.keeps).at_ hlt
        obtain ⟨b2, o2, rfl, y0⟩ := (hb1.keeps HD.keeps).at_ hlt
        have hc := fun W (hW : Keeps w W) => sameBools_any _ _ _ _ (RC k) (RD k) _ _ W ((HA2.out k hlt).keeps hW) ((HB2.out k hlt).keeps hW) (HL.out k hlt)
        have HC := Lib.hid hc; clear hc
        by_cases hvu : RowsEq (ln k) (lm k) (R k) (R' k)
        · have hx : tf (RowsEq (ln k) (lm k) (R k) (R' k)) = true := tf_yes hvu
          have HV := Lib.hid hvu; clear hvu
          go_wp2_with fail
          go_quiet ((go_at_call 24; refine (HC.out _ (HD.more _).keeps).mono ?_; rintro e w' ⟨rfl, n', rfl⟩; exact ⟨rfl, _, World.drewN_drewN _ _ _⟩))
          go_wp2_with fail
          exact ⟨⟨k + 1, by omega, by go_num, HD.more _, fun j hj => if e : j = k then e ▸ HV.out else HA.out j (by omega)⟩, by simp [intOf]; omega⟩
        · have hx : tf (RowsEq (ln k) (lm k) (R k) (R' k)) = false := tf_no hvu
          have HV := Lib.hid hvu; clear hvu
          go_wp2_with fail
          go_quiet ((go_at_call 24; refine (HC.out _ (HD.more _).keeps).mono ?_; rintro e w' ⟨rfl, n', rfl⟩; exact ⟨rfl, _, World.drewN_drewN _ _ _⟩))
          go_wp2_with fail
          go_ret
          exact ⟨by rw [tf_no (p := MatEq n n ln lm R R') (fun h => HV.out (h.2 k hlt))]; rfl, HD.more _⟩
      · go_wp2_with fail
        go_ret
        obtain rfl : k = n := by omega
        exact ⟨by rw [tf_yes (p := MatEq _ _ ln lm R R') ⟨rfl, HA.out⟩]; rfl, HD⟩
  · go_enter Try.func10, Try.ntmps10
    have hq : ((n : Int) != (m : Int)) = true := by rw [bne_iff_ne]; omega
    go_wp2_with fail
    go_ret
    exact ⟨by rw [tf_no (fun h => hnm h.1)]; rfl, 0, rfl⟩

end Go.Proofs.Ytkanekacjefcbaa
namespace Go.Proofs.Ytkanekacjefcbaa
open Go.RowKit

/-- a new slice of rows of bools: the rows lie in blocks from base on, of bools -/
structure OwnMat (w : World) (base : Nat) (A : Option Addr) (n c : Nat) (len : Nat) (R : Nat → Nat → Bool) (RA : Nat → Option Addr) (RC : Nat → Nat) : Prop where
  own : w.ownsRow base 56 1 (.slice A n c) n ((List.range n).map fun i => .slice (RA i) len (RC i))
  rows : ∀ i, i < n → RowT (fun b => base ≤ b) w 4 1 (RA i) len (fun j _ => .bool (R i j))

theorem bits_of_rowT {p : Nat → Prop} {w : World} {A : Option Addr} {n : Nat} {V : Nat → Bool} (h : RowT p w 4 1 A n (fun j _ => .bool (V j))) : Bits w A n V := h.row.one
theorem rowT_of_bits {w : World} {base : Nat} {A : Option Addr} {n c : Nat} {V : Nat → Bool} (h : OwnBits w base A n c V) : RowT (fun b => base ≤ b) w 4 1 A n (fun j _ => .bool (V j)) := fun hn => by
  obtain ⟨b, off, cur, e, hp, hh, hc⟩ := own_rowT h hn
  refine ⟨b, off, cur, e, hp.1, hh, fun k hk j hj => ?_⟩
  rw [hc k hk j hj]
  obtain rfl : j = 0 := by omega
  simp [hk]

theorem OwnMat.mat {w : World} {base : Nat} {A : Option Addr} {n c len : Nat} {R : Nat → Nat → Bool} {RA : Nat → Option Addr} {RC : Nat → Nat} (h : OwnMat w base A n c len R RA RC) : Mat w A n (fun _ => len) R := by
  refine ⟨RA, RC, fun hn => ?_, fun i hi => bits_of_rowT (h.rows i hi)⟩
  obtain ⟨b, off, e, hc⟩ := own_row1 h.own hn
  refine ⟨b, off, e, fun k hk => ?_⟩
  rw [hc k hk]
  simp [hk]
theorem OwnMat.below {w w1 : World} {base : Nat} {A : Option Addr} {n c len : Nat} {R : Nat → Nat → Bool} {RA : Nat → Option Addr} {RC : Nat → Nat} (h : OwnMat w base A n c len R RA RC) (hb : Below w.heap.size w w1) : OwnMat w1 base A n c len R RA RC :=
  ⟨own_below h.own hb, fun i hi => (h.rows i hi).below hb⟩
theorem OwnMat.only {w w1 : World} {base : Nat} {A : Option Addr} {n c len : Nat} {R : Nat → Nat → Bool} {RA : Nat → Option Addr} {RC : Nat → Nat} {S : Nat → Prop} (h : OwnMat w base A n c len R RA RC) (hk : Only S w w1) (hS : ∀ k, base ≤ k → ¬ S k) : OwnMat w1 base A n c len R RA RC :=
  ⟨own_only h.own hk (fun k hb => hS k (own_base h.own k hb)), fun i hi => (h.rows i hi).only hk (fun b _ hb _ => hS b hb)⟩
theorem OwnMat.alloc {w : World} {base : Nat} {A : Option Addr} {n c len : Nat} {R : Nat → Nat → Bool} {RA : Nat → Option Addr} {RC : Nat → Nat} (h : OwnMat w base A n c len R RA RC) (o : Obj) : OwnMat (w.alloc o) base A n c len R RA RC :=
  h.below ((Below.refl _ _).alloc (Nat.le_refl _) o)
/-- the address or capacity of the last one laid on -/
def lastly {α : Type} (n : Nat) (x : α) (f : Nat → α) (i : Nat) : α := if i = n then x else f i
theorem OwnMat.push {w w1 : World} {base : Nat} {A A' B : Option Addr} {n c c' d len : Nat} {R : Nat → Nat → Bool} {RA : Nat → Option Addr} {RC : Nat → Nat} (h : OwnMat w base A n c len R RA RC)
    (ho : w1.ownsRow base 56 1 (.slice A' (n + 1) c') (n + 1) (((List.range n).map fun i => .slice (RA i) len (RC i)) ++ [.slice B len d])) (hk : Only (blockOf A) w w1)
    (hB : RowT (fun b => base ≤ b) w 4 1 B len (fun j _ => .bool (R n j))) : OwnMat w1 base A' (n + 1) c' len R (lastly n B RA) (lastly n d RC) := by
  have hty := own_type (e' := 4) h.own (by decide)
  refine ⟨?_, fun i hi => ?_⟩
  · rw [List.range_succ, List.map_append, List.map_congr_left (g := fun i => .slice (RA i) len (RC i)) (fun i hi => by
      have : i ≠ n := by have := List.mem_range.1 hi; omega
      simp [lastly, this])]
    simpa [lastly] using ho
  · unfold lastly
    by_cases e : i = n
    · rw [if_pos e, e]; exact hB.only hk (fun b cur _ hb => hty b cur hb)
    · rw [if_neg e]; exact (h.rows i (by omega)).only hk (fun b cur _ hb => hty b cur hb)
theorem elBoolRow : Elem Try.prog 34 56 1 24 := elem_mk Try.underlying34 (z := .slice none 0 0) (by kernel_rfl) rfl (by omega) (by omega)

/-- a new matrix -/
def RetMat (w : World) (n len : Nat) (R : Nat → Nat → Bool) (e : Ending) (w' : World) : Prop :=
  ∃ A c RA RC, e = .returned (.slice A n c) ∧ OwnMat w' w.heap.size A n c len R RA RC ∧ Below w.heap.size w w'

set_option maxHeartbeats 1000000 in
set_option maxRecDepth 100000 in
theorem refRun_any (g : G) (A1 A2 A3 : Option Addr) (c1 c2 c3 : Nat) (At : Option Addr) (nt ct : Nat) (TL : Nat → Nat) (T : Nat → Nat → Bool) (w : World) (hg : g.At w A1 A2 A3) (hv : g.Valid)
    (ht : Mat w At nt TL T) (hnt : nt * 24 ≤ 140737488351232) (htl : ∀ i, i < nt → TL i ≤ 140737488351232) :
    Calls Try.prog 11 #[.agg #[.int .i64 g.ins, .slice A1 g.n1 c1, .slice A2 g.n2 c2, .slice A3 g.n3 c3], .slice At nt ct] w (RetMat w nt g.n3 (g.row (fun c i => decide (i < TL c) && T c i))) := by
  have v4 := hv.n1
  go_enter Try.func11, Try.ntmps11
  go_wp2_with fail
  refine (states_any g A1 A2 A3 c1 c2 c3 _ (hg.keeps (Keeps.alloc _ _)) v4).mono ?_
  rintro e w1 ⟨As, cs, rfl, hown, hb1⟩
  have HB1 := Lib.hid (Below.alloc_then hb1)
  have hbox := (BoxAt.new w [.int .i64 g.ins, .slice A1 g.n1 c1, .slice A2 g.n2 c2, .slice A3 g.n3 c3] 30).keeps (Keeps.of_below hb1)
  have hg1 := hg.keeps (Keeps.below_alloc hb1)
  have ht1 := ht.keeps (Keeps.below_alloc hb1)
  have hst := hown.bits
  have hs1 := hb1.size
  simp at hs1
  clear hb1 hown
  have HTL := Lib.hid htl; clear htl
  go_wp2_with fail
  go_loopw [5, 6, 7] (fun s v i wr => ∃ (k : Nat) (A B : Option Addr) (c d : Nat) (RA : Nat → Option Addr) (RC : Nat → Nat), k ≤ nt ∧ i = .int .i64 k ∧ s = .slice B g.n1 d ∧ v = .slice A k c ∧
    Bits wr B g.n1 (g.state (fun c i => decide (i < TL c) && T c i) k) ∧ OwnMat wr w1.heap.size A k c g.n3 (g.row (fun c i => decide (i < TL c) && T c i)) RA RC ∧ Below w1.heap.size w1 wr) (fun _ _ i _ => nt - (intOf i).toNat)
  case atStart => exact ⟨0, none, As, 0, cs, fun _ => none, fun _ => 0, by omega, rfl, rfl, rfl, hst, ⟨World.ownsRow_nil _ _ _ _, fun i hi => by omega⟩, Below.refl _ _⟩
  case round =>
    obtain ⟨k, A, B, c, d, RA, RC, hk, rfl, rfl, rfl, hS, hM, hbr⟩ := hrel
    obtain ⟨g0, g1, g2, g3⟩ := (hbox.keeps (Keeps.of_below hbr)).four
    have hsz := hbr.size
    by_cases hlt : k < nt
    · obtain ⟨TA, TC, t1, t2⟩ := ht1.keeps (Keeps.of_below hbr)
      have HT2 := Lib.hid (t2 k hlt); clear t2
      obtain ⟨bt, ot, rfl, x0⟩ := t1.at_ hlt
      have hgr := hg1.keeps (Keeps.of_below hbr)
      go_wp2_with fail
      have hnx := fun W (hW : Keeps wr W) => next_any g A1 A2 A3 c1 c2 c3 (TA k) B (TL k) (TC k) d (T k) (g.state (fun c i => decide (i < TL c) && T c i) k) W (hgr.keeps hW) hv (HT2.out.keeps hW) (HTL.out k hlt) (hS.keeps hW)
      have HN := Lib.hid hnx; clear hnx
      go_region_held3 (fun w' => w'.cell? ⟨w.heap.size, 0, none⟩ = some (.int .i64 g.ins) ∧ w'.cell? ⟨w.heap.size, 1, none⟩ = some (.slice A1 g.n1 c1) ∧ w'.cell? ⟨w.heap.size, 2, none⟩ = some (.slice A2 g.n2 c2) ∧ w'.cell? ⟨w.heap.size, 3, none⟩ = some (.slice A3 g.n3 c3) ∧ w'.cell? ⟨bt, ot + k, none⟩ = some (.slice (TA k) (TL k) (TC k))) (first | exact ⟨g0, g1, g2, g3, x0⟩ | assumption)
        (first | (go_at_call 26; refine (HN.out _ ?_).mono ?_; exact (Keeps.drew _); rintro e w3 ⟨Bn, dn, Bo, dO, rfl, hn1, hn2, hb3⟩; have hs5 : w3.cell? ⟨w.heap.size, 0, none⟩ = some (.int .i64 g.ins) ∧ w3.cell? ⟨w.heap.size, 1, none⟩ = some (.slice A1 g.n1 c1) ∧ w3.cell? ⟨w.heap.size, 2, none⟩ = some (.slice A2 g.n2 c2) ∧ w3.cell? ⟨w.heap.size, 3, none⟩ = some (.slice A3 g.n3 c3) ∧ w3.cell? ⟨bt, ot + k, none⟩ = some (.slice (TA k) (TL k) (TC k)) := ⟨Keeps.of_below hb3 _ _ g0, Keeps.of_below hb3 _ _ g1, Keeps.of_below hb3 _ _ g2, Keeps.of_below hb3 _ _ g3, Keeps.of_below hb3 _ _ x0⟩))
      have HB3 := Lib.hid (show Below wr.heap.size wr w3 from ⟨hb3.os, hb3.tape, hb3.output, hb3.size, hb3.block⟩)
      have hsz3 : wr.heap.size ≤ w3.heap.size := HB3.out.size
      have H := hM.below HB3.out
      have hrow := rowT_of_bits hn2
      have hnxt := rowT_of_bits hn1
      clear hs5 hb3 hn1 hn2 g0 g1 g2 g3 x0
      go_wp2_with (at_builtin; refine wp_append rfl (.tmp 28) (.tmp 30) _ rfl elBoolRow w1.heap.size A k c _ rfl (H.alloc _).own _ 1 1 [.slice Bo g.n3 dO] rfl (src_new _ _ _ rfl) (by omega) (by simp; omega) ?_; intro A' c' w4 ho hk' hb')
      have hty := own_type (e' := 4) (H.alloc (.cells #[.slice Bo g.n3 dO] 56)).own (by decide)
      have hal := (Below.refl w3.heap.size w3).alloc (Nat.le_refl _) (.cells #[.slice Bo g.n3 dO] 56)
      refine ⟨⟨k + 1, A', Bn, c', dn, lastly k Bo RA, lastly k dO RC, by omega, by go_num, rfl, rfl, ?_, ?_, ?_⟩, by simp [intOf]; omega⟩
      · exact bits_of_rowT ((hnxt.below hal).only hk' (fun b cur _ hb => hty b cur hb))
      · exact (H.alloc _).push ho hk' ((hrow.mono (p' := fun b => w1.heap.size ≤ b) (fun b _ hb => Nat.le_trans hsz hb)).below hal)
      · exact (hbr.trans (HB3.out.mono hsz)).trans ((hal.mono (by omega)).trans (hk'.below (fun j _ c => own_base H.own j c) (by simp; omega)))
    · obtain rfl : k = nt := by omega
      go_wp2_with fail
      go_ret
      exact ⟨A, c, RA, RC, rfl, ⟨own_mono hM.own (by omega), fun i hi => (hM.rows i hi).mono (fun b _ hb => by omega)⟩, Below.then_call HB1.out hbr (by omega)⟩
end Go.Proofs.Ytkanekacjefcbaa
namespace Go.Proofs.Ytkanekacjefcbaa
open Go.RowKit Go.ChangeShapes Go.WideShapes Go.Deep

theorem Try.cellsSl31 : Try.prog.cellsOf 56 = 1 := by kernel_rfl
theorem Try.bytesBool : Try.prog.bytesOf 4 = 1 := by kernel_rfl
theorem Try.bytesSl31 : Try.prog.bytesOf 56 = 24 := by kernel_rfl

theorem open_bits {N : Nat} {H : Type} {enc : TypeId × Value → H} {w : World} {cs : List Value} (h : Good N enc Try.prog w 56 cs) :
    ∃ (A : Option Addr) (n c : Nat) (V : Nat → Bool), cs = [.slice A n c] ∧ n ≤ 140737488351232 ∧ Bits w A n V := by
  obtain ⟨A, n, c, f, rfl, hn, hb, _, hr, hg⟩ := good_slice 1 Try.cellsBool (by omega) Try.underlying56 h
  rw [Try.bytesBool] at hb
  unfold reachBytes at hb
  have hx : ∀ k, k < n → ∃ x : Bool, f k 0 = .bool x := fun k hk => by
    obtain ⟨x, e⟩ := good_bool Try.underlying4 (hg k hk)
    exact ⟨x, by simpa [List.range_succ] using e⟩
  obtain ⟨X, hX⟩ := choose_lt (α := Bool) hx
  refine ⟨A, n, c, X, rfl, by omega, fun h0 => ?_⟩
  obtain ⟨b, off, e, hc⟩ := hr.one h0
  exact ⟨b, off, e, fun k hk => (hc k hk).trans (congrArg some (hX k hk))⟩

theorem open_mat {N : Nat} {H : Type} {enc : TypeId × Value → H} {w : World} {cs : List Value} (h : Good N enc Try.prog w 34 cs) :
    ∃ (A : Option Addr) (n c : Nat) (len : Nat → Nat) (R : Nat → Nat → Bool), cs = [.slice A n c] ∧ n * 24 ≤ 140737488351232 ∧ Mat w A n len R ∧ ∀ i, i < n → len i ≤ 140737488351232 := by
  obtain ⟨A, n, c, f, rfl, hn, hb, _, hr, hg⟩ := good_slice 1 Try.cellsSl31 (by omega) Try.underlying34 h
  rw [Try.bytesSl31] at hb
  unfold reachBytes at hb
  have hx : ∀ k, k < n → ∃ x : Option Addr × Nat × Nat × (Nat → Bool), f k 0 = .slice x.1 x.2.1 x.2.2.1 ∧ x.2.1 ≤ 140737488351232 ∧ Bits w x.1 x.2.1 x.2.2.2 := fun k hk => by
    obtain ⟨A', n', c', V, e, hl, hV⟩ := open_bits (hg k hk)
    exact ⟨(A', n', c', V), by simpa [List.range_succ] using e, hl, hV⟩
  obtain ⟨X, hX⟩ := choose_lt (α := Option Addr × Nat × Nat × (Nat → Bool)) hx
  refine ⟨A, n, c, fun i => (X i).2.1, fun i => (X i).2.2.2, rfl, by omega, ⟨fun i => (X i).1, fun i => (X i).2.2.1, fun h0 => ?_, fun i hi => (hX i hi).2.2⟩, fun i hi => (hX i hi).2.1⟩
  obtain ⟨b, off, e, hc⟩ := hr.one h0
  exact ⟨b, off, e, fun k hk => (hc k hk).trans (congrArg some (hX k hk).1)⟩

end Go.Proofs.Ytkanekacjefcbaa
