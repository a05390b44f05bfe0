/- When a netlist is right, in plain Lean. No condition. -/
import Derived.Test.YtmbcfondglhiiaaNetDef
namespace Go.Proofs.Ytmbcfondglhiiaa
open Go.RowKit

/-- a write is right -/
structure Nl.WrOk (g : Nl) (k : Nat) : Prop where
  lo : 0 ≤ g.WM k
  hi : g.WM k < g.nm
  when : isB g (g.WN k) 1 = true
  addr : isB g (g.WA k) 0 = true
  data : isB g (g.WD k) (g.MW (g.WM k).toNat) = true
structure Nl.Ok (g : Nl) : Prop where
  inp : ∀ j, j < g.n0 → wideB (g.In j) = true
  regs : ∀ j, j < g.nr → wideB (g.RW j) = true ∧ g.RI j ≤ maskN (g.RW j)
  mems : ∀ j, j < g.nm → wideB (g.MW j) = true ∧ 1 ≤ g.MS j ∧ g.MS j ≤ 256
  nodes : ∀ j, j < g.nn → g.NodeOk j
  next : ∀ j, j < g.nr → isB g (g.RN j) (g.RW j) = true
  writes : ∀ j, j < g.nw → g.WrOk j
  outs : ∀ j, j < g.no → isB g (g.O j) 0 = true

theorem shr_zero (u m : Nat) : ((u : Int) / 2 ^ m == 0) = decide ((u : Int) ≤ 2 ^ ((m : Int).toNat) - 1) := by
  have hp : (0 : Int) < 2 ^ m := Int.pow_pos (by decide)
  have e : ((u : Int) / 2 ^ m = 0) ↔ (u : Int) ≤ 2 ^ m - 1 := ⟨fun h => by
    have h1 := Int.emod_lt_of_pos (u : Int) hp
    have h2 := Int.mul_ediv_add_emod (u : Int) (2 ^ m)
    rw [h] at h2
    simp only [Int.mul_zero, Int.zero_add] at h2
    omega, fun h => Int.ediv_eq_zero_of_lt (by omega) (by omega)⟩
  rw [Int.toNat_natCast, Bool.eq_iff_iff]; simpa using e
theorem isB_wide {g : Nl} {i wd : Int} (h : wideB wd = true) : isB g i wd = wnB g i wd := by
  simp only [wideB, Bool.and_eq_true, decide_eq_true_eq] at h
  have e : (wd == 0) = false := by simp; omega
  unfold isB wnB; rw [e, Bool.false_or]
theorem isB_one {g : Nl} {i : Int} : isB g i 1 = wnB g i 1 := isB_wide (by decide)
theorem isB_zero {g : Nl} {i : Int} : isB g i 0 = inB g i := by
  unfold isB; rw [show ((0 : Int) == 0) = true by decide, Bool.true_or, Bool.and_true]
end Go.Proofs.Ytmbcfondglhiiaa
