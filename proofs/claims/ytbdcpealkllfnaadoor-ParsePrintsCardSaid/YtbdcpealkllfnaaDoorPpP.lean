/- A text's modules as they are printed: plain Lean, no condition. -/
import Derived.Test.YtbdcpealkllfnaaDoorBase
import Derived.Lib.ItoaMem
namespace Go.Proofs.YtbdcpealkllfnaaDoor

abbrev LB := List UInt8
def digL (n : Nat) : LB := Lib.decDigits n
/-- the signs of the operations -/
def sgnL (op : Int) : LB := match op with
 | 1 => [126] | 2 => [33] | 3 => [45] | 4 => [38] | 5 => [124] | 6 => [94] | 7 => [42] | 8 => [43] | 9 => [45] | 10 => [60, 60] | 11 => [62, 62]
 | 12 => [60] | 13 => [60, 61] | 14 => [62] | 15 => [62, 61] | 16 => [61, 61] | 17 => [33, 61] | 18 => [38] | 19 => [94] | 20 => [124] | 21 => [38, 38] | 22 => [124, 124]
 | _ => []
def catL (T : Nat → LB) : Nat → LB
 | 0 => []
 | n + 1 => catL T n ++ T n
/-- texts with a comma and a blank between them -/
def comL (T : Nat → LB) : Nat → LB
 | 0 => []
 | n + 1 => comL T n ++ (if n = 0 then [] else [44, 32]) ++ T n
/-- an operand: in brackets, if it is an operation itself -/
def innL (k : Int) (t : LB) : LB := if k = 5 ∨ k = 6 ∨ k = 7 then [40] ++ t ++ [41] else t
/-- an expression; K, T: its operands' kinds and texts -/
def txE (kind op width : Int) (num : Nat) (nm : LB) (n : Nat) (K : Nat → Int) (T : Nat → LB) : LB :=
 if kind = 1 then (if width = 0 then digL num else digL width.toNat ++ [39, 100] ++ digL num)
 else if kind = 2 then nm
 else if kind = 3 then nm ++ [91] ++ T 0 ++ [93]
 else if kind = 4 then nm ++ [91] ++ T 0 ++ [58] ++ T 1 ++ [93]
 else if kind = 5 then sgnL op ++ innL (K 0) (T 0)
 else if kind = 6 then innL (K 0) (T 0) ++ [32] ++ sgnL op ++ [32] ++ innL (K 1) (T 1)
 else if kind = 7 then innL (K 0) (T 0) ++ [32, 63, 32] ++ innL (K 1) (T 1) ++ [32, 58, 32] ++ innL (K 2) (T 2)
 else if kind = 9 then [123] ++ T 0 ++ T 1 ++ [125]
 else [123] ++ comL T n ++ [125]
/-- what an expression that is read has -/
structure OkE (kind op width : Int) (num : Nat) (nm : LB) (n : Nat) : Prop where
 k : 0 ≤ kind ∧ kind ≤ 9
 o : 0 ≤ op ∧ op ≤ 22
 w : 0 ≤ width ∧ width ≤ 32
 u : num < 18446744073709551616
 m : nm.length ≤ 100000
 a3 : kind = 3 → n = 1
 a4 : kind = 4 → n = 2
 a5 : kind = 5 → n = 1
 a6 : kind = 6 → n = 2
 a7 : kind = 7 → n = 3
 a9 : kind = 9 → n = 2
/-- for (NAME = a; b; NAME = c) -/
def loopL (nm : LB) (T : Nat → LB) : LB := [102, 111, 114, 32, 40] ++ nm ++ [32, 61, 32] ++ T 0 ++ [59, 32] ++ T 1 ++ [59, 32] ++ nm ++ [32, 61, 32] ++ T 2 ++ [41, 32]
/-- an arm of a case -/
def armL (df : Bool) (lab body : LB) : LB := (if df = true then [100, 101, 102, 97, 117, 108, 116] else lab) ++ [58, 32] ++ body ++ [32]
/-- a statement; E, S, R: the texts of its expressions, statements, arms -/
def txS (kind : Int) (later : Bool) (nm : LB) (E : Nat → LB) (ns : Nat) (S : Nat → LB) (na : Nat) (R : Nat → LB) : LB :=
 if kind = 1 then [59]
 else if kind = 2 then [98, 101, 103, 105, 110, 32] ++ catL (fun i => S i ++ [32]) ns ++ [101, 110, 100]
 else if kind = 3 then [105, 102, 32, 40] ++ E 0 ++ [41, 32] ++ S 0 ++ (if 1 < ns then [32, 101, 108, 115, 101, 32] ++ S 1 else [])
 else if kind = 4 then [99, 97, 115, 101, 32, 40] ++ E 0 ++ [41, 32] ++ catL R na ++ [101, 110, 100, 99, 97, 115, 101]
 else if kind = 6 then loopL nm E ++ S 0
 else E 0 ++ (if later = true then [32, 60, 61, 32] else [32, 61, 32]) ++ E 1 ++ [59]
structure OkS (kind : Int) (nm : LB) (ne ns : Nat) : Prop where
 k : 1 ≤ kind ∧ kind ≤ 6
 m : nm.length ≤ 100000
 a3 : kind = 3 → ne = 1 ∧ 1 ≤ ns ∧ ns ≤ 2
 a4 : kind = 4 → ne = 1
 a5 : kind = 5 → ne = 2
 a6 : kind = 6 → ne = 3 ∧ ns = 1
def spanL (on : Bool) (hi lo : LB) : LB := if on = true then [91] ++ hi ++ [58] ++ lo ++ [93, 32] else []
def bindL (nm : LB) (given : Bool) (v : LB) : LB := [46] ++ nm ++ [40] ++ (if given = true then v else []) ++ [41]
def bindsL (T : Nat → LB) (n : Nat) : LB := [40] ++ comL T n ++ [41]
/-- begin : LABEL items -/
def partL (label : LB) (T : Nat → LB) (n : Nat) : LB := [98, 101, 103, 105, 110, 32, 58, 32] ++ label ++ [10] ++ catL T n
/-- an item -/
structure ItT where
 kind : Int
 nm : LB
 md : LB
 span : LB
 whi : LB
 wlo : LB
 given : Bool
 val : LB
 tgt : LB
 clocked : Bool
 body : LB
 np : Nat
 pars : LB
 ports : LB
 E : Nat → LB
 label : LB
 items : LB
 hasElse : Bool
 elabel : LB
 els : LB
def beginL (label items : LB) : LB := [98, 101, 103, 105, 110, 32, 58, 32] ++ label ++ [10] ++ items
def ItT.text (t : ItT) : LB :=
 if t.kind = 1 then [119, 105, 114, 101, 32] ++ t.span ++ t.nm ++ [59, 10]
 else if t.kind = 2 then [114, 101, 103, 32] ++ t.span ++ t.nm ++ (if t.given = true then [32, 61, 32] ++ t.val else []) ++ [59, 10]
 else if t.kind = 3 then [114, 101, 103, 32] ++ t.span ++ t.nm ++ [32, 91] ++ t.whi ++ [58] ++ t.wlo ++ [93, 59, 10]
 else if t.kind = 4 then [108, 111, 99, 97, 108, 112, 97, 114, 97, 109, 32] ++ t.nm ++ [32, 61, 32] ++ t.val ++ [59, 10]
 else if t.kind = 5 then [97, 115, 115, 105, 103, 110, 32] ++ t.tgt ++ [32, 61, 32] ++ t.val ++ [59, 10]
 else if t.kind = 6 then (if t.clocked = true then [97, 108, 119, 97, 121, 115, 32, 64, 99, 108, 107, 32] else [97, 108, 119, 97, 121, 115, 32, 64, 42, 32]) ++ t.body ++ [10]
 else if t.kind = 7 then t.md ++ [32] ++ (if 0 < t.np then [35] ++ t.pars ++ [32] else []) ++ t.nm ++ [32] ++ t.ports ++ [59, 10]
 else if t.kind = 8 then loopL t.nm t.E ++ beginL t.label t.items ++ [101, 110, 100, 10]
 else [105, 102, 32, 40] ++ t.val ++ [41, 32] ++ beginL t.label t.items ++ [101, 110, 100] ++ (if t.hasElse = true then [32, 101, 108, 115, 101, 32] ++ beginL t.elabel t.els ++ [101, 110, 100] else []) ++ [10]
def parL (i : Nat) (nm v : LB) : LB := (if i = 0 then [35, 40] else [44, 32]) ++ nm ++ [32, 61, 32] ++ v
def portL (i : Nat) (out reg : Bool) (span nm : LB) : LB := (if i = 0 then [] else [44, 32]) ++ (if out = true ∧ reg = true then [111, 117, 116, 112, 117, 116, 32, 114, 101, 103, 32] else if out = true then [111, 117, 116, 112, 117, 116, 32] else [105, 110, 112, 117, 116, 32]) ++ span ++ nm
/-- a module; P, Q, I: the texts of its parameters, ports, items -/
def modL (nm : LB) (np : Nat) (P : Nat → LB) (nq : Nat) (Q : Nat → LB) (ni : Nat) (I : Nat → LB) : LB :=
 [109, 111, 100, 117, 108, 101, 32] ++ nm ++ [32] ++ catL P np ++ (if 0 < np then [41, 32] else []) ++ [40] ++ catL Q nq ++ [41, 59, 10] ++ catL I ni ++ [101, 110, 100, 109, 111, 100, 117, 108, 101, 10]
end Go.Proofs.YtbdcpealkllfnaaDoor
