/- When a node of a netlist is right, in plain Lean; the mark of a slice of ints. No condition. -/
import Derived.Test.YtmbcfondglhiiaaNetSh
import Derived.Test.YtmbcfondglhiiaaDrawn2
import Derived.Test.YtmbcfondglhiiaaArr
namespace Go.Proofs.Ytmbcfondglhiiaa
open Go.RowKit

/-- has a node as many arguments as its kind wants? -/
def Nl.CountOk (g : Nl) (i : Nat) : Prop := wantN (g.K i) ≠ -2 ∧ (0 ≤ wantN (g.K i) → (g.al i : Int) = wantN (g.K i)) ∧ (wantN (g.K i) = -1 → 0 < g.al i)
def Nl.ArgsOk (g : Nl) (i : Nat) : Prop := ∀ j, j < g.al i → 0 ≤ g.a i j ∧ g.a i j < i
def Nl.aw (g : Nl) (i j : Nat) : Int := g.W (g.a i j).toNat
def tailB (g : Nl) (i : Nat) : Bool :=
  if g.K i = 30 then decide (g.U i < g.n0) && g.In (g.U i).toNat == g.W i
  else if g.K i = 31 then decide (g.U i < g.nr) && g.RW (g.U i).toNat == g.W i
  else if g.K i = 32 then decide (g.U i < g.nm) && g.MW (g.U i).toNat == g.W i
  else if g.K i = 1 ∨ g.K i = 5 then fitB (g.K i) (g.W i) (g.U i) (g.aw i) (g.al i)
  else g.U i == 0 && fitB (g.K i) (g.W i) (g.U i) (g.aw i) (g.al i)
/-- a node is right -/
structure Nl.NodeOk (g : Nl) (i : Nat) : Prop where
  wide : wideB (g.W i) = true
  count : g.CountOk i
  args : g.ArgsOk i
  tail : tailB g i = true

theorem tail_of {g : Nl} {i : Nat} (h1 : wideB (g.W i) = true) (h2 : g.CountOk i) (h3 : g.ArgsOk i) : tf (g.NodeOk i) = tailB g i := by
  cases h : tailB g i
  · exact tf_no (fun c => by rw [c.tail] at h; cases h)
  · exact tf_yes ⟨h1, h2, h3, h⟩

theorem elInt : Elem Try.prog 22 3 1 8 := elem_mk Try.underlying22 (z := .int .i64 0) (by kernel_rfl) rfl (by omega) (by omega)
end Go.Proofs.Ytmbcfondglhiiaa
