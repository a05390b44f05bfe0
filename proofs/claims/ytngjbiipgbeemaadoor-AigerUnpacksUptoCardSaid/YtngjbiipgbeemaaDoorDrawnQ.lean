/- A world in which nothing but draws has happened. No condition. -/
import Derived.Test.YtngjbiipgbeemaaDoorGraph
import Derived.Test.YtngjbiipgbeemaaDoorOwn
import Derived.Deep.QuietTactic
import Derived.BigQuiet
namespace Go.Proofs.YtngjbiipgbeemaaDoor
open Go.RowKit

theorem Keeps.drewN (w : World) (n : Nat) : Keeps w (w.drewN n) := fun _ _ h => h
/-- nothing but draws has happened -/
def Drawn (w wr : World) : Prop := ∃ q, wr = w.drewN q
theorem Drawn.keeps {w wr : World} (h : Drawn w wr) : Keeps w wr := by obtain ⟨q, rfl⟩ := h; exact Keeps.drewN _ _
theorem Drawn.more {w wr : World} (h : Drawn w wr) (n : Nat) : Drawn w (wr.drewN n) := by obtain ⟨q, rfl⟩ := h; exact ⟨q + n, World.drewN_drewN _ _ _⟩

/-- a bool, in a world in which nothing but draws has happened -/
def RetQ (b : Bool) (w : World) (e : Ending) (w' : World) : Prop := e = .returned (.bool b) ∧ ∃ n, w' = w.drewN n

end Go.Proofs.YtngjbiipgbeemaaDoor
