/- The reference's vars, walked; what a question comes to. Conditions: the graph's numbers are within the form's reach. -/
import Derived.Test.YtngjbiipgbeemaaDoorGraph
import Derived.Deep.LoopGhost
import Derived.Deep.QuietTactic
import Derived.BigQuiet
namespace Go.Proofs.YtngjbiipgbeemaaDoor
open Go.RowKit

set_option maxHeartbeats 400000 in
theorem vars_any (ins : Int) (A1 A2 A3 : Option Addr) (n1 n2 n3 c1 c2 c3 : Nat) (w : World) (h0 : 0 ≤ ins) (h1 : ins ≤ 60000) (hn1 : n1 ≤ 1000000000000000) (hn2 : n2 ≤ 1000000000000000) :
    Calls Tryd.prog 29 #[.agg #[.int .i64 ins, .slice A1 n1 c1, .slice A2 n2 c2, .slice A3 n3 c3]] w fun e w' => e = .returned (.int .i64 (1 + ins + n1 + n2)) ∧ Below w.heap.size w w' := by
  go_enter Tryd.func29, Tryd.ntmps29
  go_wp2
  go_ret
  exact ⟨rfl, (Below.refl _ _).alloc (Nat.le_refl _) _⟩

/-- what both come to -/
def SaysB (p : Prop) (w : World) (e : Ending) (w' : World) : Prop := e = .returned (.bool (tf p)) ∧ Below w.heap.size w w'
theorem says_no {p : Prop} {w w' : World} (h : ¬ p) (hb : Below w.heap.size w w') : SaysB p w (.returned (.bool false)) w' := ⟨by rw [tf_no h], hb⟩
theorem says_yes {p : Prop} {w w' : World} (h : p) (hb : Below w.heap.size w w') : SaysB p w (.returned (.bool true)) w' := ⟨by rw [tf_yes h], hb⟩

end Go.Proofs.YtngjbiipgbeemaaDoor
