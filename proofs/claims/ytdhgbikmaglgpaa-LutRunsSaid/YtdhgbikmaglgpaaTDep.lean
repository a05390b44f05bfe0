/- The depth of a net of tables, in plain Lean: the depth of each signal, the greatest of a list. No condition. -/
import Derived.Test.YtdhgbikmaglgpaaTabLut
import Derived.Test.YtdhgbikmaglgpaaRun1
namespace Go.Proofs.Ytdhgbikmaglgpaa

/-- how many signals are no tables -/
def Tb.pre (g : Tb) : Nat := 2 + g.ins.toNat + g.n1
/-- the greatest of 0 and the first n -/
def top (f : Nat → Int) : Nat → Int
  | 0 => 0
  | n + 1 => max (top f n) (f n)
/-- the signals' depths, of the first k tables -/
def Tb.dep (g : Tb) : Nat → Nat → Int
  | 0 => fun _ => 0
  | k + 1 => fun j => if j = g.pre + k then 1 + top (fun i => g.dep k (g.tw k i).toNat) (g.tl k) else g.dep k j
def Tb.depth (g : Tb) : Int := top (fun i => g.dep g.n2 (both g.n3 g.N g.O i).toNat) (g.n3 + g.n4)

theorem top_le {f : Nat → Int} {b : Int} (hb : 0 ≤ b) : ∀ n, (∀ i, i < n → f i ≤ b) → 0 ≤ top f n ∧ top f n ≤ b
  | 0, _ => ⟨Int.le_refl _, hb⟩
  | n + 1, h => by
    have h1 := top_le hb n (fun i hi => h i (by omega))
    have h2 := h n (by omega)
    simp only [top]; omega
theorem top_congr {f f' : Nat → Int} : ∀ n, (∀ i, i < n → f i = f' i) → top f n = top f' n
  | 0, _ => rfl
  | n + 1, h => by simp only [top]; rw [top_congr n (fun i hi => h i (by omega)), h n (by omega)]
theorem top_both (f : Int → Int) (n : Nat) (X Y : Nat → Int) : ∀ m, top (fun i => f (both n X Y i)) (n + m) = max (top (fun i => f (X i)) n) (top (fun i => f (Y i)) m)
  | 0 => by
    have h := (top_congr (f := fun i => f (both n X Y i)) (f' := fun i => f (X i)) n (fun i hi => by simp only [both]; rw [if_pos hi]))
    have h0 : ∀ k, 0 ≤ top (fun i => f (X i)) k := fun k => by
      induction k with
      | zero => exact Int.le_refl _
      | succ k ih => simp only [top]; omega
    have := h0 n
    simp only [Nat.add_zero, top]; rw [h]; omega
  | m + 1 => by
    rw [show n + (m + 1) = (n + m) + 1 by omega]
    simp only [top]
    rw [top_both f n X Y m]
    have : both n X Y (n + m) = Y m := by unfold both; rw [if_neg (by omega), Nat.add_sub_cancel_left]
    rw [this]; omega
theorem Tb.dep_le (g : Tb) : ∀ k j, 0 ≤ g.dep k j ∧ g.dep k j ≤ k
  | 0, j => ⟨Int.le_refl _, Int.le_refl _⟩
  | k + 1, j => by
    simp only [Tb.dep]
    split
    · have := top_le (f := fun i => g.dep k (g.tw k i).toNat) (b := k) (by omega) (g.tl k) (fun i _ => (g.dep_le k _).2)
      omega
    · have := g.dep_le k j; omega
theorem Tb.dep_lo (g : Tb) (k j : Nat) (h : j < g.pre + k) : g.dep (k + 1) j = g.dep k j := by
  simp only [Tb.dep]; rw [if_neg (by omega)]
end Go.Proofs.Ytdhgbikmaglgpaa
