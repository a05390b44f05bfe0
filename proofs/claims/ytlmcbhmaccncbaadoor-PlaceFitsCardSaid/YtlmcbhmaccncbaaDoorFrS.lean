/- What a fabric with a configuration shows, in plain Lean: signals column by column, states cycle by cycle. No condition. -/
import Derived.Test.YtlmcbhmaccncbaaDoorTld
namespace Go.Proofs.YtlmcbhmaccncbaaDoor
open Go.RowKit

/-- the signals behind i columns: none, one, then the cells' (ahead of the first: the inputs, the registers) -/
def Cf.sig (c : Cf) (inp st : Nat → Bool) : Nat → Nat → Bool
  | 0, s => if s = 0 then false else if s = 1 then true else if s < 2 + (c.sh 0).toNat then inp (s - 2) else st (s - 2 - (c.sh 0).toNat)
  | i + 1, s => if s = 0 then false else if s = 1 then true else bitAt (c.B i (s - 2)) (rowB (fun j => c.sig inp st i (c.L i (s - 2) j).toNat) 4)
/-- the registers ahead of cycle t; I t i: input i at cycle t (no, where none is told) -/
def Cf.stt (c : Cf) (I : Nat → Nat → Bool) : Nat → Nat → Bool
  | 0, k => c.RI k
  | t + 1, k => c.sig (I t) (c.stt I t) c.nc (c.RS k).toNat
/-- what the outputs show at cycle t -/
def Cf.sho (c : Cf) (I : Nat → Nat → Bool) (t o : Nat) : Bool := c.sig (I t) (c.stt I t) c.nc (c.O o).toNat
/-- an input row read by number: no, behind its end -/
def inpAt (len : Nat → Nat) (T : Nat → Nat → Bool) (t i : Nat) : Bool := if i < len t then T t i else false
end Go.Proofs.YtlmcbhmaccncbaaDoor
