/- A formula's text. Plain Lean. -/
import Derived.Test.YthmjbenofpbmbaaDoorPrP
import Derived.Test.YthmjbenofpbmbaaDoorCnfC
namespace Go.Proofs.YthmjbenofpbmbaaDoor
open Go.RowKit

def clT (c : List Int) (k : Nat) : List UInt8 := cat (fun j => Lib.itoa (c.getD j 0) ++ [32]) k
def clauseT (c : List Int) : List UInt8 := clT c c.length ++ [48, 10]
def cnfHead (vars n : Int) : List UInt8 := [112, 32, 99, 110, 102, 32] ++ Lib.itoa vars ++ [32] ++ Lib.itoa n ++ [10]
def cnfT (vars : Int) (F : List (List Int)) (k : Nat) : List UInt8 := cnfHead vars F.length ++ cat (fun i => clauseT (F.getD i [])) k

/-- small numbers alone -/
def Lits (c : List Int) : Prop := ∀ k, k < c.length → -100000 ≤ c.getD k 0 ∧ c.getD k 0 ≤ 100000
theorem clT_len {c : List Int} (h : Lits c) {k : Nat} (hk : k ≤ c.length) : (clT c k).length ≤ k * 22 := by
  refine cat_len k fun j hj => ?_
  have := itoa_len (c.getD j 0) (by have := (h j (by omega)).1; omega) (by have := (h j (by omega)).2; omega)
  simp only [List.length_append, List.length_singleton]; omega
theorem cnfHead_len (vars n : Int) (h0 : 0 ≤ vars) (h1 : vars ≤ 100000) (h2 : 0 ≤ n) (h3 : n ≤ 2000000) : (cnfHead vars n).length ≤ 60 := by
  have := itoa_len vars (by omega) (by omega)
  have := itoa_len n (by omega) (by omega)
  unfold cnfHead; simp; omega
theorem cnfT_len {vars : Int} {F : List (List Int)} (h0 : 0 ≤ vars) (h1 : vars ≤ 100000) (hn : F.length ≤ 2000000) (hl : ∀ c, c ∈ F → Lits c) : ∀ {k : Nat}, k ≤ F.length → (cnfT vars F k).length ≤ 60 + 22 * tot (F.take k) + 2 * k := by
  intro k
  induction k with
  | zero => intro _; have := cnfHead_len vars F.length h0 h1 (by omega) (by omega); simp [cnfT, cat, tot]; omega
  | succ k ih =>
    intro hk
    have h2 := ih (by omega)
    have he : F[k]? = some F[k] := List.getElem?_eq_getElem (by omega)
    have e1 : F.getD k [] = F[k] := by rw [List.getD_eq_getElem?_getD, he]; rfl
    have h3 := clT_len (hl F[k] (List.getElem_mem _)) (Nat.le_refl _)
    rw [take_next he, tot_app]
    have e2 : tot [F[k]] = F[k].length := by simp [tot]
    rw [e2]
    unfold cnfT at h2 ⊢
    simp only [cat, List.length_append, e1, clauseT, List.length_cons, List.length_nil] at h2 ⊢
    omega
theorem lits_of {c : List Int} (h : LitsOk 100000 c) : Lits c := fun k hk => by
  have := h _ (getD_mem hk); omega
theorem litsOk_up {v : Int} {c : List Int} (h : LitsOk v c) (h1 : v ≤ 100000) : LitsOk 100000 c := fun l hl => by
  have := h l hl; omega
theorem cnf_one : cnfT 1 [[1, -1]] 1 = [112, 32, 99, 110, 102, 32, 49, 32, 49, 10, 49, 32, 45, 49, 32, 48, 10] := by
  have h1 : Lib.itoa 1 = [49] := by
    rw [show (1 : Int) = ((1 : Nat) : Int) from rfl, Lib.itoa_nonneg, dec_last (by omega)]; rfl
  have h2 : Lib.itoa (-1) = [45, 49] := by
    rw [show (-1 : Int) = -((1 : Nat) : Int) from rfl, Lib.itoa_neg _ (by omega), dec_last (by omega)]; rfl
  simp [cnfT, cnfHead, cat, clauseT, clT, h1, h2]
theorem itoa_minus (n : Int) (h : n < 0) : Lib.itoa n = [45] ++ Lib.itoa (-n) := by
  unfold Lib.itoa
  rw [if_pos h, if_neg (by omega), show n.natAbs = (-n).toNat by omega]; rfl
end Go.Proofs.YthmjbenofpbmbaaDoor
