/- The writer's latch: the literal of latch i, walked. Condition: the writer lies in memory. -/
import Derived.Test.YtkanekacjefcbaaJfM
namespace Go.Proofs.Ytkanekacjefcbaa
open Go.RowKit

set_option maxHeartbeats 1000000 in
theorem latch_any (b i : Nat) (ins : Int) (w : World) (hb : w.cell? ⟨b, 0, none⟩ = some (.int .i64 ins)) (h0 : 0 ≤ ins) (h1 : ins ≤ 1000000000000) (hi : i ≤ 1000000000000) :
    Calls Try.prog 38 #[.pointer (some ⟨b, 0, none⟩), .int .i64 i] w fun e w' => e = .returned (.int .i64 (2 * (1 + ins + i))) ∧ w = w' := by
  go_enter Try.func38, Try.ntmps38
  go_wp2
  go_ret
  exact ⟨rfl, rfl⟩
end Go.Proofs.Ytkanekacjefcbaa
