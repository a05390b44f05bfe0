/- A number in bytes of seven bits; a graph's bytes. Plain Lean. -/
import Derived.Test.YtngjbiipgbeemaaDoorPrG
namespace Go.Proofs.YtngjbiipgbeemaaDoor
open Go.RowKit

/-- the lowest seven bits first, each byte but the last with its top bit -/
def sevenB (n : Nat) : List UInt8 :=
  if 127 < n then UInt8.ofNat (n % 128 + 128) :: sevenB (n / 128) else [UInt8.ofNat n]
termination_by n
decreasing_by omega
theorem seven_more {n : Nat} (h : 127 < n) : sevenB n = UInt8.ofNat (n % 128 + 128) :: sevenB (n / 128) := by rw [sevenB, if_pos h]
theorem seven_last {n : Nat} (h : ¬ 127 < n) : sevenB n = [UInt8.ofNat n] := by rw [sevenB, if_neg h]
theorem seven_len : ∀ (k n : Nat), n < 128 ^ (k + 1) → (sevenB n).length ≤ k + 1
  | 0, n, h => by rw [seven_last (by simpa using Nat.lt_succ_iff.1 (by simpa using h))]; simp
  | k + 1, n, h => by
    by_cases h1 : 127 < n
    · rw [seven_more h1]
      have := seven_len k (n / 128) (by rw [Nat.pow_succ] at h; omega)
      simp; omega
    · rw [seven_last h1]; simp
theorem seven_len5 {n : Nat} (h : n < 34359738368) : (sevenB n).length ≤ 5 := seven_len 4 n (by omega)
theorem u8_of {n : Nat} (h : n < 256) : ((UInt8.ofNat n).toNat : Int) = n := by
  rw [UInt8.toNat_ofNat', Nat.mod_eq_of_lt (by omega)]
theorem or128 : ∀ x : Fin 256, bits BinOp.or .u8 (x.val : Int) 128 = ((x.val % 128 + 128 : Nat) : Int) := by decide +kernel

def G.hi (g : G) (i : Nat) : Int := max (g.X i) (g.Y i)
def G.lo (g : G) (i : Nat) : Int := min (g.X i) (g.Y i)
def G.andB (g : G) (i : Nat) : List UInt8 := sevenB (2 * (1 + g.ins + g.n1 + i) - g.hi i).toNat ++ sevenB (g.hi i - g.lo i).toNat
def G.latL2 (g : G) (i : Nat) : List Int := if g.I i = true then [g.L i, 1] else [g.L i]
def G.plat (g : G) (k : Nat) : List UInt8 := g.headT [97, 105, 103] ++ cat (fun i => lineOf (g.latL2 i)) k
def G.pout (g : G) (k : Nat) : List UInt8 := g.plat g.n1 ++ cat (fun i => lineOf [g.O i]) k
def G.pack (g : G) (k : Nat) : List UInt8 := g.pout g.n3 ++ cat (fun i => g.andB i) k

theorem G.plat_len {g : G} (h : g.Small) {k : Nat} (hk : k ≤ g.n1) : (g.plat k).length ≤ 1000000 := by
  have := h.v.n1
  have h1 := G.head_len h [97, 105, 103] (by simp)
  have h2 := cat_len (f := fun i => lineOf (g.latL2 i)) (B := 67) k (fun i hi => by
    have hl := h.lat i (by omega)
    have h3 := lineOf_len (l := g.latL2 i) (fun x hx => by
      unfold G.latL2 at hx
      split at hx
      · simp at hx; rcases hx with rfl | rfl <;> omega
      · simp at hx; subst hx; omega)
    have h4 : (g.latL2 i).length ≤ 2 := by unfold G.latL2; split <;> simp
    omega)
  unfold G.plat; simp only [List.length_append]; omega
theorem G.pout_len {g : G} (h : g.Small) {k : Nat} (hk : k ≤ g.n3) : (g.pout k).length ≤ 3000000 := by
  have := h.v.n3
  have h1 := G.plat_len h (k := g.n1) (Nat.le_refl _)
  have h2 := cat_len (f := fun i => lineOf [g.O i]) (B := 23) k (fun i hi => by
    have := h.outs i (by omega)
    have := lineOf_len (l := [g.O i]) (fun x hx => by simp at hx; subst hx; omega)
    simpa using this)
  unfold G.pout; simp only [List.length_append]; omega
theorem G.hi_b {g : G} (h : g.Small) {i : Nat} (hi : i < g.n2) : 0 ≤ g.lo i ∧ g.lo i ≤ g.hi i ∧ g.hi i < 2 * (1 + g.ins + g.n1 + i) ∧ g.hi i ≤ 120000 ∧ g.hi i + g.lo i = g.X i + g.Y i := by
  have h1 := h.ands i hi
  have h2 := h.v.ands i hi
  unfold G.AndOk at h2
  unfold G.hi G.lo
  omega
theorem G.pack_len {g : G} (h : g.Small) {k : Nat} (hk : k ≤ g.n2) : (g.pack k).length ≤ 4000000 := by
  have := h.v.n; have := h.v.i0; have := h.v.i1
  have h1 := G.pout_len h (k := g.n3) (Nat.le_refl _)
  have h2 := cat_len (f := fun i => g.andB i) (B := 10) k (fun i hi => by
    have h3 := G.hi_b h (i := i) (by omega)
    have h4 := seven_len5 (n := (2 * (1 + g.ins + g.n1 + i) - g.hi i).toNat) (by omega)
    have h5 := seven_len5 (n := (g.hi i - g.lo i).toNat) (by omega)
    unfold G.andB; simp only [List.length_append]; omega)
  unfold G.pack; simp only [List.length_append]; omega
end Go.Proofs.YtngjbiipgbeemaaDoor
