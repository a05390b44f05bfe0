/- The reference's GraphCycle, walked: a new slice of the values of all variables. Conditions: the graph is valid and lies in memory, the row and the state lie in memory. -/
import Derived.Test.YtdhgbikmaglgpaaValid
import Derived.Test.YtdhgbikmaglgpaaGPure
import Derived.Test.YtdhgbikmaglgpaaOwn
import Derived.Deep.DeepMust
namespace Go.Proofs.Ytdhgbikmaglgpaa
open Go.RowKit

/-- a slice of bools -/
def Bits (w : World) (A : Option Addr) (n : Nat) (V : Nat → Bool) : Prop := Row1 w A n (fun k => .bool (V k))
theorem Bits.keeps {w w1 : World} {A : Option Addr} {n : Nat} {V : Nat → Bool} (h : Bits w A n V) (k : Keeps w w1) : Bits w1 A n V := Row1.keeps h k

def OwnBits (w : World) (base : Nat) (A : Option Addr) (n c : Nat) (V : Nat → Bool) : Prop := w.ownsRow base 4 1 (.slice A n c) n ((List.range n).map fun k => .bool (V k))
theorem OwnBits.bits {w : World} {base : Nat} {A : Option Addr} {n c : Nat} {V : Nat → Bool} (h : OwnBits w base A n c V) : Bits w A n V := fun hn => by
  obtain ⟨b, off, e, hc⟩ := own_row1 h hn
  refine ⟨b, off, e, fun k hk => ?_⟩
  rw [hc k hk]
  simp [hk]
theorem OwnBits.push {w : World} {base : Nat} {A : Option Addr} {n c : Nat} {V V' : Nat → Bool} {x : Bool} (h : w.ownsRow base 4 1 (.slice A (n + 1) c) (n + 1) (((List.range n).map fun k => .bool (V k)) ++ [.bool x]))
    (hV : ∀ k, k < n → V' k = V k) (hx : V' n = x) : OwnBits w base A (n + 1) c V' := by
  unfold OwnBits
  rw [List.range_succ, List.map_append, List.map_congr_left (g := fun k => .bool (V k)) (fun k hk => by rw [hV k (by simpa using hk)])]
  simpa [hx] using h
/-- .. of bools that grows -/
def GrowB (wb : World) (A : Option Addr) (n c : Nat) (V : Nat → Bool) (wr : World) : Prop := Grow wb 4 1 A n c ((List.range n).map fun k => .bool (V k)) wr
theorem GrowB.own {wb wr : World} {A : Option Addr} {n c : Nat} {V : Nat → Bool} (h : GrowB wb A n c V wr) : OwnBits wr wb.heap.size A n c V := Grow.own h
theorem GrowB.start (wb : World) (V : Nat → Bool) : GrowB wb none 0 0 V wb := Grow.start _ _ _
theorem GrowB.push {wb wr w1 : World} {A A' : Option Addr} {n c c' : Nat} {V V' : Nat → Bool} {x : Bool} (h : GrowB wb A n c V wr)
    (ho : w1.ownsRow wb.heap.size 4 1 (.slice A' (n + 1) c') (n + 1) (((List.range n).map fun k => .bool (V k)) ++ [.bool x])) (hk : Only (blockOf A) wr w1)
    (hV : ∀ k, k < n → V' k = V k) (hx : V' n = x) : GrowB wb A' (n + 1) c' V' w1 := Grow.push h (OwnBits.push ho hV hx) hk
theorem elBool : Elem Try.prog 31 4 1 1 := elem_mk Try.underlying31 (z := .bool false) (by kernel_rfl) rfl (by omega) (by omega)

set_option maxHeartbeats 400000 in
theorem lit_any (A : Option Addr) (n c : Nat) (V : Nat → Bool) (l : Int) (w : World) (hr : Bits w A n V) (h0 : 0 ≤ l) (h1 : l < 2 * n) (hn : n ≤ 1000000000) :
    Calls Try.prog 133 #[.slice A n c, .int .i64 l] w fun e w' => e = .returned (.bool (litF V l)) ∧ w = w' := by
  obtain ⟨b, off, rfl, hc⟩ := hr.at_ (k := (l / 2).toNat) (by omega)
  go_enter Try.func133, Try.ntmps133
  go_wp2
  go_ret
  refine ⟨ret_bool ?_, rfl⟩
  unfold litF
  rw [show (l / 2).toNat = l.toNat / 2 by omega]
  rfl

/-- a function's result: a new slice of bools -/
def RetBits (w : World) (n : Nat) (V : Nat → Bool) (e : Ending) (w' : World) : Prop := ∃ A c, e = .returned (.slice A n c) ∧ OwnBits w' w.heap.size A n c V ∧ Below w.heap.size w w'

/-- where GraphCycle's slice stands -/
structure CycAt (g : G) (w : World) (cs : List Value) (n : Nat) (V : Nat → Bool) (A : Option Addr) (c : Nat) (wr : World) : Prop where
  own : OwnBits wr (w.heap.size + 1) A n c V
  box : BoxAt wr w.heap.size cs
  bel : Below w.heap.size w wr
  size : w.heap.size + 1 ≤ wr.heap.size

theorem CycAt.alloc {g : G} {w : World} {cs : List Value} {n : Nat} {V : Nat → Bool} {A : Option Addr} {c : Nat} {wr : World} (h : CycAt g w cs n V A c wr) (o : Obj) : CycAt g w cs n V A c (wr.alloc o) :=
  ⟨h.own.alloc o, h.box.keeps (Keeps.alloc _ _), h.bel.alloc h.bel.size o, by have := h.size; simp; omega⟩

theorem CycAt.app {g : G} {w : World} {cs : List Value} {n m : Nat} {V V' S : Nat → Bool} {A A' : Option Addr} {c c' : Nat} {wr w1 : World} (h : CycAt g w cs n V A c wr)
    (ho : w1.ownsRow (w.heap.size + 1) 4 1 (.slice A' (n + m) c') (n + m) (((List.range n).map fun k => .bool (V k)) ++ (List.range m).map fun k => .bool (S k))) (hk : Only (blockOf A) wr w1)
    (hV : ∀ k, k < n → V' k = V k) (hx : ∀ k, k < m → V' (n + k) = S k) : CycAt g w cs (n + m) V' A' c' w1 := by
  have hA : ∀ k, blockOf A k → w.heap.size + 1 ≤ k := own_base h.own
  have h1 := h.size
  refine ⟨?_, hk.box h.box (fun c => by have := hA _ c; omega), h.bel.trans (hk.below (fun k _ c => by have := hA k c; omega) (by omega)), by have := hk.size; omega⟩
  unfold OwnBits
  rw [List.range_add, List.map_append, List.map_map, List.map_congr_left (g := fun k => .bool (V k)) (fun k hk => by rw [hV k (by simpa using hk)]),
    List.map_congr_left (l := List.range m) (g := fun k => .bool (S k)) (fun k hk => by simp only [Function.comp]; rw [hx k (by simpa using hk)])]
  exact ho

theorem CycAt.push {g : G} {w : World} {cs : List Value} {n : Nat} {V V' : Nat → Bool} {A A' : Option Addr} {c c' : Nat} {wr w1 : World} {x : Bool} (h : CycAt g w cs n V A c wr)
    (ho : w1.ownsRow (w.heap.size + 1) 4 1 (.slice A' (n + 1) c') (n + 1) (((List.range n).map fun k => .bool (V k)) ++ [.bool x])) (hk : Only (blockOf A) wr w1)
    (hV : ∀ k, k < n → V' k = V k) (hx : V' n = x) : CycAt g w cs (n + 1) V' A' c' w1 := by
  have hA : ∀ k, blockOf A k → w.heap.size + 1 ≤ k := own_base h.own
  have h1 := h.size
  exact ⟨OwnBits.push ho hV hx, hk.box h.box (fun c => by have := hA _ c; omega), h.bel.trans (hk.below (fun k _ c => by have := hA k c; omega) (by omega)), by have := hk.size; omega⟩

set_option maxHeartbeats 1000000 in
theorem cycle_any (g : G) (A1 A2 A3 : Option Addr) (c1 c2 c3 : Nat) (Ai As : Option Addr) (ni ci cs : Nat) (I S : Nat → Bool) (w : World) (hg : g.At w A1 A2 A3) (hv : g.Valid)
    (hi : Bits w Ai ni I) (hni : ni ≤ 140737488351232) (hs : Bits w As g.n1 S) :
    Calls Try.prog 132 #[.agg #[.int .i64 g.ins, .slice A1 g.n1 c1, .slice A2 g.n2 c2, .slice A3 g.n3 c3], .slice Ai ni ci, .slice As g.n1 cs] w
      (RetBits w (g.first + g.n2) (g.vals (fun i => decide (i < ni) && I i) S)) := by
  have v1 := hv.i0; have v2 := hv.i1; have v3 := hv.n; have v4 := hv.n1
  go_enter Try.func132, Try.ntmps132
  go_wp2_with fail
  go_loopw [7, 8] (fun v i wr => ∃ (k : Nat) (A : Option Addr) (c : Nat), k ≤ g.ins.toNat ∧ i = .int .i64 k ∧ v = .slice A (k + 1) c ∧
    CycAt g w [.int .i64 g.ins, .slice A1 g.n1 c1, .slice A2 g.n2 c2, .slice A3 g.n3 c3] (k + 1) (g.head (fun i => decide (i < ni) && I i) S) A c wr) (fun _ i _ => g.ins.toNat - (intOf i).toNat)
  case atStart =>
    refine ⟨0, _, _, by omega, rfl, rfl, ⟨?_, ?_, ?_, ?_⟩⟩
    · exact ⟨rfl, .inr ⟨_, 1, #[.bool false], rfl, by omega, by rw [show w.heap.size + 1 = (w.alloc (.cells #[.int .i64 g.ins, .slice A1 g.n1 c1, .slice A2 g.n2 c2, .slice A3 g.n3 c3] 26)).heap.size by simp]; exact heap_alloc_new _ _, by omega, by simp [maxLen], rfl, by simp [G.head]⟩⟩
    · exact (BoxAt.new w _ _).keeps (Keeps.alloc _ _)
    · exact ((Below.refl _ _).alloc (Nat.le_refl _) _).alloc (by simp) _
    · simp
  case round =>
    obtain ⟨k, A, c, hk, rfl, rfl, H⟩ := hrel
    obtain ⟨g0, g1, g2, g3⟩ := H.box.four
    have hir := hi.keeps (Keeps.of_below H.bel)
    have hsr := H.size
    by_cases hlt : k < g.ins.toNat
    · by_cases hin : k < ni
      · obtain ⟨bi, oi, rfl, x0⟩ := hir.at_ hin
        have hd : decide ((k : Int) < (ni : Int)) = true := by simp; omega
        go_wp2_with (at_builtin; refine wp_append rfl (.tmp 17) (.tmp 28) _ rfl elBool (w.heap.size + 1) A (k + 1) c _ rfl (H.alloc _).own _ 1 1 [.bool (I k)] rfl (src_new _ _ _ rfl) (by omega) (sz_alloc H.size) ?_; intro A' c' w1 ho hk' hb')
        go_roundw
        case rel => exact ⟨k + 1, A', c', by omega, by go_num, rfl, (H.alloc _).push ho hk' (fun _ _ => rfl) (by rw [G.head_in _ _ _ hlt]; simp [hin])⟩
        case measure => simp [intOf]; omega
      · have hd : decide ((k : Int) < (ni : Int)) = false := by simp; omega
        go_wp2_with (at_builtin; refine wp_append rfl (.tmp 17) (.tmp 28) _ rfl elBool (w.heap.size + 1) A (k + 1) c _ rfl (H.alloc _).own _ 1 1 [.bool false] rfl (src_new _ _ _ rfl) (by omega) (sz_alloc H.size) ?_; intro A' c' w1 ho hk' hb')
        go_roundw
        case rel => exact ⟨k + 1, A', c', by omega, by go_num, rfl, (H.alloc _).push ho hk' (fun _ _ => rfl) (by rw [G.head_in _ _ _ hlt]; simp [hin])⟩
        case measure => simp [intOf]; omega
    · obtain rfl : k = g.ins.toNat := by omega
      have hsr2 := hs.keeps (Keeps.of_below H.bel)
      have hsrc := src_row1 hsr2 (fun _ _ => rfl)
      go_wp2_with (at_builtin; refine wp_append rfl (.tmp 30) (.tmp 31) _ rfl elBool (w.heap.size + 1) A (g.ins.toNat + 1) c _ rfl H.own _ g.n1 cs _ rfl hsrc (by omega) H.size ?_; intro A' c' w1 ho hk' hb')
      have H1 := H.app (V' := g.head (fun i => decide (i < ni) && I i) S) ho hk' (fun _ _ => rfl) (fun k hk => G.head_st _ _ _ hk)
      clear ho hk' hb' hsrc hsr2 hsr hir g0 g1 g2 g3
      rw [show g.ins.toNat + 1 + g.n1 = g.first by unfold G.first; omega] at H1 ⊢
      go_wp2_with fail
      go_loopw [7, 9] (fun v i wr => ∃ (k : Nat) (A : Option Addr) (c : Nat), k ≤ g.n2 ∧ i = .int .i64 k ∧ v = .slice A (g.first + k) c ∧
        CycAt g w [.int .i64 g.ins, .slice A1 g.n1 c1, .slice A2 g.n2 c2, .slice A3 g.n3 c3] (g.first + k) (g.cyc (fun i => decide (i < ni) && I i) S k) A c wr) (fun _ i _ => g.n2 - (intOf i).toNat)
      case atStart => exact ⟨0, A', c', by omega, rfl, rfl, H1⟩
      case round =>
        clear H1 H
        obtain ⟨k, A, c, hk, rfl, rfl, H⟩ := hrel
        obtain ⟨g0, g1, g2, g3⟩ := H.box.four
        have hgr := hg.keeps (Keeps.of_below H.bel)
        have hsr := H.size
        have hfirst : g.first + k ≤ 60000 := by unfold G.first; omega
        by_cases hlt : k < g.n2
        · obtain ⟨b2, o2, rfl, x0, y0⟩ := hgr.ands.at2 hlt
          simp only [two] at x0 y0
          have hok := hv.ands k hlt
          unfold G.AndOk at hok
          go_wp2_with fail
          refine (lit_any _ _ _ _ _ _ H.own.bits (by omega) (by unfold G.first; omega) (by omega)).mono ?_
          rintro e w' ⟨rfl, rfl⟩
          cases hb : litF (g.cyc (fun i => decide (i < ni) && I i) S k) (g.X k)
          · have HB := Lib.hid hb; clear hb
            go_wp2_with (at_builtin; refine wp_append rfl (.tmp 40) (.tmp 59) _ rfl elBool (w.heap.size + 1) A (g.first + k) c _ rfl (H.alloc _).own _ 1 1 [.bool false] rfl (src_new _ _ _ rfl) (by omega) (sz_alloc H.size) ?_; intro A' c' w1 ho hk' hb')
            go_roundw
            case rel => exact ⟨k + 1, A', c', by omega, by go_num, rfl, (H.alloc _).push ho hk' (fun j hj => G.cyc_lo _ _ _ _ _ hj) (by rw [G.cyc_at, HB.out]; rfl)⟩
            case measure => simp [intOf]; omega
          · have HB := Lib.hid hb; clear hb
            go_wp2_with fail
            refine (lit_any _ _ _ _ _ _ H.own.bits (by omega) (by unfold G.first; omega) (by omega)).mono ?_
            rintro e w' ⟨rfl, rfl⟩
            go_wp2_with (at_builtin; refine wp_append rfl (.tmp 40) (.tmp 59) _ rfl elBool (w.heap.size + 1) A (g.first + k) c _ rfl (H.alloc _).own _ 1 1 [.bool (litF (g.cyc (fun i => decide (i < ni) && I i) S k) (g.Y k))] rfl (src_new _ _ _ rfl) (by omega) (sz_alloc H.size) ?_; intro A' c' w1 ho hk' hb')
            go_roundw
            case rel => exact ⟨k + 1, A', c', by omega, by go_num, rfl, (H.alloc _).push ho hk' (fun j hj => G.cyc_lo _ _ _ _ _ hj) (by rw [G.cyc_at, HB.out]; rfl)⟩
            case measure => simp [intOf]; omega
        · obtain rfl : k = g.n2 := by omega
          go_wp2_with fail
          go_ret
          exact ⟨A, c, rfl, own_mono H.own (by omega), H.bel⟩
end Go.Proofs.Ytdhgbikmaglgpaa
