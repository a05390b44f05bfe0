/- The joint graph of two and its formulas, in plain Lean. No condition. -/
import Derived.Test.YtkanekacjefcbaaGraph
namespace Go.Proofs.Ytkanekacjefcbaa
open Go.RowKit

/-- a literal of the first graph, and of the second, in the joint one -/
def mv1 (a b : G) (l : Int) : Int := if l / 2 > a.ins + a.n1 then l + 2 * b.n1 else l
def mv2 (a b : G) (l : Int) : Int :=
  if l / 2 ≤ b.ins then l else if l / 2 ≤ b.ins + b.n1 then l + 2 * a.n1 else l + 2 * (a.n1 + a.n2)
/-- first the one's, then the other's -/
def after {α : Type} (n : Nat) (f h : Nat → α) (k : Nat) : α := if k < n then f k else h (k - n)
def joint (a b : G) : G where
  ins := a.ins
  n1 := a.n1 + b.n1
  n2 := a.n2 + b.n2
  n3 := a.n3 + b.n3
  L := after a.n1 (fun k => mv1 a b (a.L k)) (fun k => mv2 a b (b.L k))
  I := after a.n1 a.I b.I
  X := after a.n2 (fun k => mv1 a b (a.X k)) (fun k => mv2 a b (b.X k))
  Y := after a.n2 (fun k => mv1 a b (a.Y k)) (fun k => mv2 a b (b.Y k))
  O := after a.n3 (fun k => mv1 a b (a.O k)) (fun k => mv2 a b (b.O k))

/-- how many variables a graph has -/
def G.vars (g : G) : Int := 1 + g.ins + g.n1 + g.n2
/-- a literal in a frame -/
def atC (n fr l : Int) : Int := if l % 2 = 1 then -(fr * n + l / 2 + 1) else fr * n + l / 2 + 1
def gateC (g : G) (fr : Int) (i : Nat) : List (List Int) :=
  let x := atC g.vars fr (2 * (1 + g.ins + g.n1 + i))
  let p := atC g.vars fr (g.X i)
  let q := atC g.vars fr (g.Y i)
  [[-x, p], [-x, q], [x, -p, -q]]
/-- the clauses of the first k elements -/
def upC (f : Nat → List (List Int)) : Nat → List (List Int)
  | 0 => []
  | k + 1 => upC f k ++ f k
def frameC (g : G) (fr : Int) : List (List Int) := [atC g.vars fr 1] :: upC (gateC g fr) g.n2
def sameC (g : G) (fr : Int) (P Q : Nat → Int) (i : Nat) : List (List Int) :=
  [[-atC g.vars fr (P i), atC g.vars fr (Q i)], [atC g.vars fr (P i), -atC g.vars fr (Q i)]]
def newV (g : G) (frames : Int) (i : Nat) : Int := frames * g.vars + 1 + i
def diffC (g : G) (fr frames : Int) (P Q : Nat → Int) (i : Nat) : List (List Int) :=
  [[-newV g frames i, atC g.vars fr (P i), atC g.vars fr (Q i)], [-newV g frames i, -atC g.vars fr (P i), -atC g.vars fr (Q i)]]
def unlikeC (g : G) (fr frames : Int) (n : Nat) (P Q : Nat → Int) : List (List Int) := upC (diffC g fr frames P Q) n ++ [(List.range n).map (newV g frames)]
def initC (g : G) (i : Nat) : List (List Int) := [[if g.I i = true then atC g.vars 0 (2 * (1 + g.ins + i)) else -atC g.vars 0 (2 * (1 + g.ins + i))]]
def nextC (g : G) (i : Nat) : List (List Int) :=
  let x := atC g.vars 1 (2 * (1 + g.ins + i))
  let n := atC g.vars 0 (g.L i)
  [[-x, n], [x, -n]]
/-- the formulas of the base, the step, the outlets, over the joint graph of two with m outputs each -/
def formC (g : G) (m n : Nat) (P Q : Nat → Int) (which : Nat) : List (List Int) :=
  if which = 0 then frameC g 0 ++ upC (initC g) g.n1 ++ unlikeC g 0 1 n P Q
  else if which = 1 then frameC g 0 ++ frameC g 1 ++ upC (nextC g) g.n1 ++ upC (sameC g 0 P Q) n ++ unlikeC g 1 2 n P Q
  else frameC g 0 ++ upC (sameC g 0 P Q) n ++ unlikeC g 0 1 m g.O (fun i => g.O (m + i))
def formVars (g : G) (m n : Nat) (which : Nat) : Int := if which = 0 then g.vars + n else if which = 1 then 2 * g.vars + n else g.vars + m
end Go.Proofs.Ytkanekacjefcbaa
