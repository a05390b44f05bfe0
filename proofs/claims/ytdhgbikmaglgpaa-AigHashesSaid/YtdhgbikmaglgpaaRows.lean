/-
  No cell of these rows narrows 'for every input' (looked for: loops, veiled, ifaces, maps, wideKeys, modest, calm, conditions, laid).
  DERIVED. THE GIVEN ROWS OF THIS SEAT. 12 by the template 'for every input the law returns true; each argument reads behind the call as it read before'; 0 by the template 'total and deterministic' (their statements: YtdhgbikmaglgpaaTotals.lean).
  GIVEN WITH THE SEED: the statements are not yours to turn. If you find one false, say at which input.
  Laid BY PROGRAM, IN A SANDBOX (cutbox-rows.mjs): the forced cells as the released guide's own fill.sh prints them over the translation 503fcecbb8c47203… (all of the seat's roots in one cut). By AI agents, Wed Nov 11 2026. No macro, syntax, notation, axiom, sorry.
-/
import Derived.Test.YtdhgbikmaglgpaaChecked
import GoSem.Claim
import GoSem.ClaimJoined
import GoSem.ClaimMapViews
import Derived.JoinedTies
import Derived.KernelRfl
namespace Go.Proofs.Ytdhgbikmaglgpaa
/- THE CELL 'sum', in the pinned program and in every row, IS THE sha256 OF THE DUMP (.gsa) THAT YtdhgbikmaglgpaaProg.lean LOADS. Nothing in Lean hashes anything: it is a label: what it is worth is what the hold of that sum in a sandbox is worth. -/
noncomputable def Try.pinned : Pinned := { name := "ytdhgbikmaglgpaa", sum := "503fcecbb8c472035853bee2617c598c0df42a8c6b6a21c397ffce9bcf664d5a", checked := Try.checked }
namespace Rows
def none {H : Type} : Left H := { results := [], args := [] }

/-- 'gatewrightlaw.AigValids': WHATEVER THE INPUT: true; the input reads as it did. -/
def aigValidsSpec : ChangeSpec := { name := "aigValids", fn := fun _ => fun
  | [d] => { results := [.lit (.bool true)], args := [d] }
  | _ => none }
def aigValidsRow : OpenClaim := { program := "ytdhgbikmaglgpaa", sum := "503fcecbb8c472035853bee2617c598c0df42a8c6b6a21c397ffce9bcf664d5a", func := "gatewright/gatewrightlaw.AigValids", spec := "aigValids", plainKeys := false, apart := false }
def AigValidsSaid : Prop := aigValidsRow.holds Try.pinned (OpenSpec.ofChange aigValidsSpec)

/-- ITS FALSE NEIGHBOUR: 'it returns false'. Refute it at one input. -/
def aigValidsWrong : ChangeSpec := { name := "aigValids", fn := fun _ => fun
  | [d] => { results := [.lit (.bool false)], args := [d] }
  | _ => none }
def AigValidsWrongFalsely : Prop := aigValidsRow.holds Try.pinned (OpenSpec.ofChange aigValidsWrong)

/-- 'gatewrightlaw.AigRuns': WHATEVER THE INPUT: true; the input reads as it did. -/
def aigRunsSpec : ChangeSpec := { name := "aigRuns", fn := fun _ => fun
  | [d1, d2] => { results := [.lit (.bool true)], args := [d1, d2] }
  | _ => none }
def aigRunsRow : OpenClaim := { program := "ytdhgbikmaglgpaa", sum := "503fcecbb8c472035853bee2617c598c0df42a8c6b6a21c397ffce9bcf664d5a", func := "gatewright/gatewrightlaw.AigRuns", spec := "aigRuns", unfollowed := true, recurses := true, plainKeys := false, apart := false }
def AigRunsSaid : Prop := aigRunsRow.holds Try.pinned (OpenSpec.ofChange aigRunsSpec)

/-- ITS FALSE NEIGHBOUR: 'it returns false'. Refute it at one input. -/
def aigRunsWrong : ChangeSpec := { name := "aigRuns", fn := fun _ => fun
  | [d1, d2] => { results := [.lit (.bool false)], args := [d1, d2] }
  | _ => none }
def AigRunsWrongFalsely : Prop := aigRunsRow.holds Try.pinned (OpenSpec.ofChange aigRunsWrong)

/-- 'gatewrightlaw.AigCleans': WHATEVER THE INPUT: true; the input reads as it did. -/
def aigCleansSpec : ChangeSpec := { name := "aigCleans", fn := fun _ => fun
  | [d] => { results := [.lit (.bool true)], args := [d] }
  | _ => none }
def aigCleansRow : OpenClaim := { program := "ytdhgbikmaglgpaa", sum := "503fcecbb8c472035853bee2617c598c0df42a8c6b6a21c397ffce9bcf664d5a", func := "gatewright/gatewrightlaw.AigCleans", spec := "aigCleans", unfollowed := true, recurses := true, plainKeys := false, apart := false }
def AigCleansSaid : Prop := aigCleansRow.holds Try.pinned (OpenSpec.ofChange aigCleansSpec)

/-- ITS FALSE NEIGHBOUR: 'it returns false'. Refute it at one input. -/
def aigCleansWrong : ChangeSpec := { name := "aigCleans", fn := fun _ => fun
  | [d] => { results := [.lit (.bool false)], args := [d] }
  | _ => none }
def AigCleansWrongFalsely : Prop := aigCleansRow.holds Try.pinned (OpenSpec.ofChange aigCleansWrong)

/-- 'gatewrightlaw.AigHashes': WHATEVER THE INPUT: true; the input reads as it did. -/
def aigHashesSpec : ChangeSpec := { name := "aigHashes", fn := fun _ => fun
  | [d1, d2] => { results := [.lit (.bool true)], args := [d1, d2] }
  | _ => none }
def aigHashesRow : OpenClaim := { program := "ytdhgbikmaglgpaa", sum := "503fcecbb8c472035853bee2617c598c0df42a8c6b6a21c397ffce9bcf664d5a", func := "gatewright/gatewrightlaw.AigHashes", spec := "aigHashes", unfollowed := true, recurses := true, plainKeys := false, apart := false }
def AigHashesSaid : Prop := aigHashesRow.holds Try.pinned (OpenSpec.ofChange aigHashesSpec)

/-- ITS FALSE NEIGHBOUR: 'it returns false'. Refute it at one input. -/
def aigHashesWrong : ChangeSpec := { name := "aigHashes", fn := fun _ => fun
  | [d1, d2] => { results := [.lit (.bool false)], args := [d1, d2] }
  | _ => none }
def AigHashesWrongFalsely : Prop := aigHashesRow.holds Try.pinned (OpenSpec.ofChange aigHashesWrong)

/-- 'gatewrightlaw.LutValids': WHATEVER THE INPUT: true; the input reads as it did. -/
def lutValidsSpec : ChangeSpec := { name := "lutValids", fn := fun _ => fun
  | [d] => { results := [.lit (.bool true)], args := [d] }
  | _ => none }
def lutValidsRow : OpenClaim := { program := "ytdhgbikmaglgpaa", sum := "503fcecbb8c472035853bee2617c598c0df42a8c6b6a21c397ffce9bcf664d5a", func := "gatewright/gatewrightlaw.LutValids", spec := "lutValids", plainKeys := false, apart := false }
def LutValidsSaid : Prop := lutValidsRow.holds Try.pinned (OpenSpec.ofChange lutValidsSpec)

/-- ITS FALSE NEIGHBOUR: 'it returns false'. Refute it at one input. -/
def lutValidsWrong : ChangeSpec := { name := "lutValids", fn := fun _ => fun
  | [d] => { results := [.lit (.bool false)], args := [d] }
  | _ => none }
def LutValidsWrongFalsely : Prop := lutValidsRow.holds Try.pinned (OpenSpec.ofChange lutValidsWrong)

/-- 'gatewrightlaw.LutRuns': WHATEVER THE INPUT: true; the input reads as it did. -/
def lutRunsSpec : ChangeSpec := { name := "lutRuns", fn := fun _ => fun
  | [d1, d2] => { results := [.lit (.bool true)], args := [d1, d2] }
  | _ => none }
def lutRunsRow : OpenClaim := { program := "ytdhgbikmaglgpaa", sum := "503fcecbb8c472035853bee2617c598c0df42a8c6b6a21c397ffce9bcf664d5a", func := "gatewright/gatewrightlaw.LutRuns", spec := "lutRuns", plainKeys := false, apart := false }
def LutRunsSaid : Prop := lutRunsRow.holds Try.pinned (OpenSpec.ofChange lutRunsSpec)

/-- ITS FALSE NEIGHBOUR: 'it returns false'. Refute it at one input. -/
def lutRunsWrong : ChangeSpec := { name := "lutRuns", fn := fun _ => fun
  | [d1, d2] => { results := [.lit (.bool false)], args := [d1, d2] }
  | _ => none }
def LutRunsWrongFalsely : Prop := lutRunsRow.holds Try.pinned (OpenSpec.ofChange lutRunsWrong)

/-- 'gatewrightlaw.WordValids': WHATEVER THE INPUT: true; the input reads as it did. -/
def wordValidsSpec : ChangeSpec := { name := "wordValids", fn := fun _ => fun
  | [d] => { results := [.lit (.bool true)], args := [d] }
  | _ => none }
def wordValidsRow : OpenClaim := { program := "ytdhgbikmaglgpaa", sum := "503fcecbb8c472035853bee2617c598c0df42a8c6b6a21c397ffce9bcf664d5a", func := "gatewright/gatewrightlaw.WordValids", spec := "wordValids", unfollowed := true, recurses := true, plainKeys := false, apart := false }
def WordValidsSaid : Prop := wordValidsRow.holds Try.pinned (OpenSpec.ofChange wordValidsSpec)

/-- ITS FALSE NEIGHBOUR: 'it returns false'. Refute it at one input. -/
def wordValidsWrong : ChangeSpec := { name := "wordValids", fn := fun _ => fun
  | [d] => { results := [.lit (.bool false)], args := [d] }
  | _ => none }
def WordValidsWrongFalsely : Prop := wordValidsRow.holds Try.pinned (OpenSpec.ofChange wordValidsWrong)

/-- 'gatewrightlaw.RefuteChecks': WHATEVER THE INPUT: true; the input reads as it did. -/
def refuteChecksSpec : ChangeSpec := { name := "refuteChecks", fn := fun _ => fun
  | [d1, d2] => { results := [.lit (.bool true)], args := [d1, d2] }
  | _ => none }
def refuteChecksRow : OpenClaim := { program := "ytdhgbikmaglgpaa", sum := "503fcecbb8c472035853bee2617c598c0df42a8c6b6a21c397ffce9bcf664d5a", func := "gatewright/gatewrightlaw.RefuteChecks", spec := "refuteChecks", unfollowed := true, recurses := true, plainKeys := false, apart := false }
def RefuteChecksSaid : Prop := refuteChecksRow.holds Try.pinned (OpenSpec.ofChange refuteChecksSpec)

/-- ITS FALSE NEIGHBOUR: 'it returns false'. Refute it at one input. -/
def refuteChecksWrong : ChangeSpec := { name := "refuteChecks", fn := fun _ => fun
  | [d1, d2] => { results := [.lit (.bool false)], args := [d1, d2] }
  | _ => none }
def RefuteChecksWrongFalsely : Prop := refuteChecksRow.holds Try.pinned (OpenSpec.ofChange refuteChecksWrong)

/-- 'gatewrightlaw.StreamValids': WHATEVER THE INPUT: true; the input reads as it did. -/
def streamValidsSpec : ChangeSpec := { name := "streamValids", fn := fun _ => fun
  | [d] => { results := [.lit (.bool true)], args := [d] }
  | _ => none }
def streamValidsRow : OpenClaim := { program := "ytdhgbikmaglgpaa", sum := "503fcecbb8c472035853bee2617c598c0df42a8c6b6a21c397ffce9bcf664d5a", func := "gatewright/gatewrightlaw.StreamValids", spec := "streamValids", unfollowed := true, recurses := true, plainKeys := false, apart := false }
def StreamValidsSaid : Prop := streamValidsRow.holds Try.pinned (OpenSpec.ofChange streamValidsSpec)

/-- ITS FALSE NEIGHBOUR: 'it returns false'. Refute it at one input. -/
def streamValidsWrong : ChangeSpec := { name := "streamValids", fn := fun _ => fun
  | [d] => { results := [.lit (.bool false)], args := [d] }
  | _ => none }
def StreamValidsWrongFalsely : Prop := streamValidsRow.holds Try.pinned (OpenSpec.ofChange streamValidsWrong)

/-- 'gatewrightlaw.JudgeFormulas': WHATEVER THE INPUT: true; the input reads as it did. -/
def judgeFormulasSpec : ChangeSpec := { name := "judgeFormulas", fn := fun _ => fun
  | [d1, d2, d3] => { results := [.lit (.bool true)], args := [d1, d2, d3] }
  | _ => none }
def judgeFormulasRow : OpenClaim := { program := "ytdhgbikmaglgpaa", sum := "503fcecbb8c472035853bee2617c598c0df42a8c6b6a21c397ffce9bcf664d5a", func := "gatewright/gatewrightlaw.JudgeFormulas", spec := "judgeFormulas", plainKeys := false, apart := false }
def JudgeFormulasSaid : Prop := judgeFormulasRow.holds Try.pinned (OpenSpec.ofChange judgeFormulasSpec)

/-- ITS FALSE NEIGHBOUR: 'it returns false'. Refute it at one input. -/
def judgeFormulasWrong : ChangeSpec := { name := "judgeFormulas", fn := fun _ => fun
  | [d1, d2, d3] => { results := [.lit (.bool false)], args := [d1, d2, d3] }
  | _ => none }
def JudgeFormulasWrongFalsely : Prop := judgeFormulasRow.holds Try.pinned (OpenSpec.ofChange judgeFormulasWrong)

/-- 'gatewrightlaw.StreamEncodes': WHATEVER THE INPUT: true; the input reads as it did. -/
def streamEncodesSpec : ChangeSpec := { name := "streamEncodes", fn := fun _ => fun
  | [d] => { results := [.lit (.bool true)], args := [d] }
  | _ => none }
def streamEncodesRow : OpenClaim := { program := "ytdhgbikmaglgpaa", sum := "503fcecbb8c472035853bee2617c598c0df42a8c6b6a21c397ffce9bcf664d5a", func := "gatewright/gatewrightlaw.StreamEncodes", spec := "streamEncodes", unfollowed := true, recurses := true, plainKeys := false, apart := false }
def StreamEncodesSaid : Prop := streamEncodesRow.holds Try.pinned (OpenSpec.ofChange streamEncodesSpec)

/-- ITS FALSE NEIGHBOUR: 'it returns false'. Refute it at one input. -/
def streamEncodesWrong : ChangeSpec := { name := "streamEncodes", fn := fun _ => fun
  | [d] => { results := [.lit (.bool false)], args := [d] }
  | _ => none }
def StreamEncodesWrongFalsely : Prop := streamEncodesRow.holds Try.pinned (OpenSpec.ofChange streamEncodesWrong)

/-- 'gatewrightlaw.WordRuns': WHATEVER THE INPUT: true; the input reads as it did. -/
def wordRunsSpec : ChangeSpec := { name := "wordRuns", fn := fun _ => fun
  | [d1, d2] => { results := [.lit (.bool true)], args := [d1, d2] }
  | _ => none }
def wordRunsRow : OpenClaim := { program := "ytdhgbikmaglgpaa", sum := "503fcecbb8c472035853bee2617c598c0df42a8c6b6a21c397ffce9bcf664d5a", func := "gatewright/gatewrightlaw.WordRuns", spec := "wordRuns", plainKeys := false, apart := false }
def WordRunsSaid : Prop := wordRunsRow.holds Try.pinned (OpenSpec.ofChange wordRunsSpec)

/-- ITS FALSE NEIGHBOUR: 'it returns false'. Refute it at one input. -/
def wordRunsWrong : ChangeSpec := { name := "wordRuns", fn := fun _ => fun
  | [d1, d2] => { results := [.lit (.bool false)], args := [d1, d2] }
  | _ => none }
def WordRunsWrongFalsely : Prop := wordRunsRow.holds Try.pinned (OpenSpec.ofChange wordRunsWrong)

/- THE SECOND FORM. 'bulk': how many values and letters a reading holds, each counted each time it is reached (what is shared counts as often as it is met; a slice's spare places count too). A statement '..UptoSaid' is the law's where the arguments, and the package variables that the reading takes, are together of bulk at most 1048576: NARROWER than '..Said'. Prove '..Said' where nothing that the law and all that it calls make is longer than what came in: it says more and counts as full. Else prove '..UptoSaid'. A law counts once. -/
mutual
def uptoBulk {H : Type} : DataW H → Nat
  | .lit (.string bytes) => bytes.length + 1
  | .lit _ => 1
  | .nil => 1
  | .ptr d => uptoBulk d + 1
  | .slice elems spare => uptoBulkAll elems + uptoBulkAll spare + 1
  | .agg parts => uptoBulkAll parts + 1
  | .iface _ d => uptoBulk d + 1
  | .map entries => uptoBulkEntries entries + 1
  | .held _ => 1
def uptoBulkAll {H : Type} : List (DataW H) → Nat
  | [] => 0
  | d :: r => uptoBulk d + uptoBulkAll r
def uptoBulkEntries {H : Type} : List (Lit × DataW H) → Nat
  | [] => 0
  | x :: r => uptoBulkEntry x + uptoBulkEntries r
def uptoBulkEntry {H : Type} : Lit × DataW H → Nat
  | (.string bytes, d) => bytes.length + uptoBulk d + 1
  | (_, d) => uptoBulk d + 1
 end
def uptoSmall : (H : Type) → List (DataW H) → Bool := fun _ ds => decide (uptoBulkAll ds ≤ 1048576)
def OpenSpec.upto (s : _root_.Go.ChangeSpec) : _root_.Go.OpenSpec := { _root_.Go.OpenSpec.ofChange s with cond := some uptoSmall }

/-- 'gatewrightlaw.AigValids', WHERE WHAT IT READS IS OF BULK AT MOST 1048576: true; the input reads as it did. -/
def aigValidsUptoRow : OpenClaim := { program := "ytdhgbikmaglgpaa", sum := "503fcecbb8c472035853bee2617c598c0df42a8c6b6a21c397ffce9bcf664d5a", func := "gatewright/gatewrightlaw.AigValids", spec := "aigValids", plainKeys := false, apart := false, narrowed := true }
def AigValidsUptoSaid : Prop := aigValidsUptoRow.holds Try.pinned (OpenSpec.upto aigValidsSpec)

/-- 'gatewrightlaw.AigRuns', WHERE WHAT IT READS IS OF BULK AT MOST 1048576: true; the input reads as it did. -/
def aigRunsUptoRow : OpenClaim := { program := "ytdhgbikmaglgpaa", sum := "503fcecbb8c472035853bee2617c598c0df42a8c6b6a21c397ffce9bcf664d5a", func := "gatewright/gatewrightlaw.AigRuns", spec := "aigRuns", unfollowed := true, recurses := true, plainKeys := false, apart := false, narrowed := true }
def AigRunsUptoSaid : Prop := aigRunsUptoRow.holds Try.pinned (OpenSpec.upto aigRunsSpec)

/-- 'gatewrightlaw.AigCleans', WHERE WHAT IT READS IS OF BULK AT MOST 1048576: true; the input reads as it did. -/
def aigCleansUptoRow : OpenClaim := { program := "ytdhgbikmaglgpaa", sum := "503fcecbb8c472035853bee2617c598c0df42a8c6b6a21c397ffce9bcf664d5a", func := "gatewright/gatewrightlaw.AigCleans", spec := "aigCleans", unfollowed := true, recurses := true, plainKeys := false, apart := false, narrowed := true }
def AigCleansUptoSaid : Prop := aigCleansUptoRow.holds Try.pinned (OpenSpec.upto aigCleansSpec)

/-- 'gatewrightlaw.AigHashes', WHERE WHAT IT READS IS OF BULK AT MOST 1048576: true; the input reads as it did. -/
def aigHashesUptoRow : OpenClaim := { program := "ytdhgbikmaglgpaa", sum := "503fcecbb8c472035853bee2617c598c0df42a8c6b6a21c397ffce9bcf664d5a", func := "gatewright/gatewrightlaw.AigHashes", spec := "aigHashes", unfollowed := true, recurses := true, plainKeys := false, apart := false, narrowed := true }
def AigHashesUptoSaid : Prop := aigHashesUptoRow.holds Try.pinned (OpenSpec.upto aigHashesSpec)

/-- 'gatewrightlaw.LutValids', WHERE WHAT IT READS IS OF BULK AT MOST 1048576: true; the input reads as it did. -/
def lutValidsUptoRow : OpenClaim := { program := "ytdhgbikmaglgpaa", sum := "503fcecbb8c472035853bee2617c598c0df42a8c6b6a21c397ffce9bcf664d5a", func := "gatewright/gatewrightlaw.LutValids", spec := "lutValids", plainKeys := false, apart := false, narrowed := true }
def LutValidsUptoSaid : Prop := lutValidsUptoRow.holds Try.pinned (OpenSpec.upto lutValidsSpec)

/-- 'gatewrightlaw.LutRuns', WHERE WHAT IT READS IS OF BULK AT MOST 1048576: true; the input reads as it did. -/
def lutRunsUptoRow : OpenClaim := { program := "ytdhgbikmaglgpaa", sum := "503fcecbb8c472035853bee2617c598c0df42a8c6b6a21c397ffce9bcf664d5a", func := "gatewright/gatewrightlaw.LutRuns", spec := "lutRuns", plainKeys := false, apart := false, narrowed := true }
def LutRunsUptoSaid : Prop := lutRunsUptoRow.holds Try.pinned (OpenSpec.upto lutRunsSpec)

/-- 'gatewrightlaw.WordValids', WHERE WHAT IT READS IS OF BULK AT MOST 1048576: true; the input reads as it did. -/
def wordValidsUptoRow : OpenClaim := { program := "ytdhgbikmaglgpaa", sum := "503fcecbb8c472035853bee2617c598c0df42a8c6b6a21c397ffce9bcf664d5a", func := "gatewright/gatewrightlaw.WordValids", spec := "wordValids", unfollowed := true, recurses := true, plainKeys := false, apart := false, narrowed := true }
def WordValidsUptoSaid : Prop := wordValidsUptoRow.holds Try.pinned (OpenSpec.upto wordValidsSpec)

/-- 'gatewrightlaw.RefuteChecks', WHERE WHAT IT READS IS OF BULK AT MOST 1048576: true; the input reads as it did. -/
def refuteChecksUptoRow : OpenClaim := { program := "ytdhgbikmaglgpaa", sum := "503fcecbb8c472035853bee2617c598c0df42a8c6b6a21c397ffce9bcf664d5a", func := "gatewright/gatewrightlaw.RefuteChecks", spec := "refuteChecks", unfollowed := true, recurses := true, plainKeys := false, apart := false, narrowed := true }
def RefuteChecksUptoSaid : Prop := refuteChecksUptoRow.holds Try.pinned (OpenSpec.upto refuteChecksSpec)

/-- 'gatewrightlaw.StreamValids', WHERE WHAT IT READS IS OF BULK AT MOST 1048576: true; the input reads as it did. -/
def streamValidsUptoRow : OpenClaim := { program := "ytdhgbikmaglgpaa", sum := "503fcecbb8c472035853bee2617c598c0df42a8c6b6a21c397ffce9bcf664d5a", func := "gatewright/gatewrightlaw.StreamValids", spec := "streamValids", unfollowed := true, recurses := true, plainKeys := false, apart := false, narrowed := true }
def StreamValidsUptoSaid : Prop := streamValidsUptoRow.holds Try.pinned (OpenSpec.upto streamValidsSpec)

/-- 'gatewrightlaw.JudgeFormulas', WHERE WHAT IT READS IS OF BULK AT MOST 1048576: true; the input reads as it did. -/
def judgeFormulasUptoRow : OpenClaim := { program := "ytdhgbikmaglgpaa", sum := "503fcecbb8c472035853bee2617c598c0df42a8c6b6a21c397ffce9bcf664d5a", func := "gatewright/gatewrightlaw.JudgeFormulas", spec := "judgeFormulas", plainKeys := false, apart := false, narrowed := true }
def JudgeFormulasUptoSaid : Prop := judgeFormulasUptoRow.holds Try.pinned (OpenSpec.upto judgeFormulasSpec)

/-- 'gatewrightlaw.StreamEncodes', WHERE WHAT IT READS IS OF BULK AT MOST 1048576: true; the input reads as it did. -/
def streamEncodesUptoRow : OpenClaim := { program := "ytdhgbikmaglgpaa", sum := "503fcecbb8c472035853bee2617c598c0df42a8c6b6a21c397ffce9bcf664d5a", func := "gatewright/gatewrightlaw.StreamEncodes", spec := "streamEncodes", unfollowed := true, recurses := true, plainKeys := false, apart := false, narrowed := true }
def StreamEncodesUptoSaid : Prop := streamEncodesUptoRow.holds Try.pinned (OpenSpec.upto streamEncodesSpec)

/-- 'gatewrightlaw.WordRuns', WHERE WHAT IT READS IS OF BULK AT MOST 1048576: true; the input reads as it did. -/
def wordRunsUptoRow : OpenClaim := { program := "ytdhgbikmaglgpaa", sum := "503fcecbb8c472035853bee2617c598c0df42a8c6b6a21c397ffce9bcf664d5a", func := "gatewright/gatewrightlaw.WordRuns", spec := "wordRuns", plainKeys := false, apart := false, narrowed := true }
def WordRunsUptoSaid : Prop := wordRunsUptoRow.holds Try.pinned (OpenSpec.upto wordRunsSpec)

end Rows
end Go.Proofs.Ytdhgbikmaglgpaa
