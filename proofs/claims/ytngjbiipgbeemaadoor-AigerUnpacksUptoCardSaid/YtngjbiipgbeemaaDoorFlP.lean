/- faulty, walked: no fault, or a fault of whatever code at whatever place. Conditions: errors.errorType is as the program lays it; the fault lies in memory. -/
import Derived.Test.YtngjbiipgbeemaaDoorErB
import Derived.Test.YtngjbiipgbeemaaDoorStep
namespace Go.Proofs.YtngjbiipgbeemaaDoor
open Go.RowKit Go.Deep

set_option maxHeartbeats 4000000 in
theorem faulty_no (w : World) : Calls Tryd.prog 12 #[.nilIface, .agg #[.int .i64 0, .int .i64 0]] w fun e w' => e = .returned (.bool true) ∧ Below w.heap.size w w' := by
  go_enter Tryd.func12, Tryd.ntmps12
  go_wp2_with fail
  refine (code_nil _).mono ?_
  rintro e w1 ⟨rfl, e1⟩
  subst e1
  go_wp2_with fail
  go_ret
  exact ⟨rfl, (Below.refl _ _).alloc (Nat.le_refl _) _⟩
set_option maxHeartbeats 4000000 in
theorem faulty_at (b : Nat) (x y : Int) (w : World) (hg : ErrT w) (hx : w.heap[b]? = some (.cells #[.int .i64 x, .int .i64 y] 38)) : Calls Tryd.prog 12 #[.iface 59 (.pointer (some ⟨b, 0, none⟩)), .agg #[.int .i64 x, .int .i64 y]] w fun e w' => e = .returned (.bool true) ∧ Below w.heap.size w w' := by
  have hx0 : w.cell? ⟨b, 0, none⟩ = some (.int .i64 x) := by rw [cell_of_row w b 0 _ _ _ hx]; rfl
  have hy : w.cell? ⟨b, 1, none⟩ = some (.int .i64 y) := by rw [cell_of_row w b 1 _ _ _ hx]; rfl
  have HG := Lib.hid hg; have HX := Lib.hid hx0; have HY := Lib.hid hy
  clear hg hx hy hx0
  go_enter Tryd.func12, Tryd.ntmps12
  go_wp2_with fail
  have hk : Keeps w (w.alloc (.cells #[.int .i64 x, .int .i64 y] 38)) := Keeps.alloc _ _
  have hb0 : Below w.heap.size w (w.alloc (.cells #[.int .i64 x, .int .i64 y] 38)) := (Below.refl _ _).alloc (Nat.le_refl _) _
  have hn := heap_alloc_new w (.cells #[.int .i64 x, .int .i64 y] 38)
  refine (code_fault b 0 x y _ (HG.out.keeps hk) (hk _ _ HX.out) (hk _ _ HY.out)).mono ?_
  rintro e w1 ⟨rfl, h1⟩
  have hn1 := (h1.block _ (Array.getElem?_eq_some_iff.1 hn).1).trans hn
  have c0 : w1.cell? ⟨w.heap.size, 0, none⟩ = some (.int .i64 x) := by rw [cell_of_row w1 w.heap.size 0 _ _ _ hn1]; rfl
  have c1 : w1.cell? ⟨w.heap.size, 1, none⟩ = some (.int .i64 y) := by rw [cell_of_row w1 w.heap.size 1 _ _ _ hn1]; rfl
  have HB := Lib.hid (hb0.trans (h1.mono (by simp)))
  clear hn hn1 hk hb0 h1
  go_wp2_with fail
  go_ret
  exact ⟨rfl, HB.out⟩
theorem ErrT.below {w w1 : World} (h : ErrT w) (k : Below w.heap.size w w1) : ErrT w1 := h.keeps (Keeps.of_below k)
end Go.Proofs.YtngjbiipgbeemaaDoor
