/- What a netlist's nodes are worth in a cycle, what it keeps from cycle to cycle, in plain Lean; each word fits its width. No condition. -/
import Derived.Test.YtmbcfondglhiiaaWordP
import Derived.Test.YtmbcfondglhiiaaNetVd
import Derived.Test.YtmbcfondglhiiaaNetFit
namespace Go.Proofs.Ytmbcfondglhiiaa
open Go.RowKit

/-- x is a word of W bits -/
def FitsW (W x : Int) : Prop := 0 ≤ x ∧ x < 2 ^ W.toNat
def Nl.arg (g : Nl) (k : Nat) (V : Nat → Int) (j : Nat) : Int := if j < g.al k then V (g.a k j).toNat else 0
/-- what node k is worth: registers R, memories M, ni inputs I, the nodes' words V -/
def Nl.node (g : Nl) (R : Nat → Int) (M : Nat → Nat → Int) (ni : Nat) (I : Nat → Int) (k : Nat) (V : Nat → Int) : Int :=
  if g.K k = 30 then (if g.U k < ni then I (g.U k).toNat % 2 ^ (g.W k).toNat else 0)
  else if g.K k = 31 then R (g.U k).toNat
  else if g.K k = 32 then (if g.arg k V 0 < g.MS (g.U k).toNat then M (g.U k).toNat (g.arg k V 0).toNat else 0)
  else opV (g.K k) (g.W k) (g.U k) (g.arg k V) (g.aw k) (g.al k)
theorem Nl.node_congr (g : Nl) (R : Nat → Int) (M : Nat → Nat → Int) (ni : Nat) (I : Nat → Int) (k : Nat) {V V' : Nat → Int} (h : ∀ j, j < g.al k → V (g.a k j).toNat = V' (g.a k j).toNat) : g.node R M ni I k V = g.node R M ni I k V' := by
  have e : g.arg k V = g.arg k V' := by
    funext j
    unfold Nl.arg
    split
    · exact h j (by assumption)
    · rfl
  unfold Nl.node
  rw [e]
def Nl.vals (g : Nl) (R : Nat → Int) (M : Nat → Nat → Int) (ni : Nat) (I : Nat → Int) : Nat → Nat → Int
  | 0 => fun _ => 0
  | k + 1 => fun j => if j = k then g.node R M ni I k (g.vals R M ni I k) else g.vals R M ni I k j
theorem Nl.vals_lt (g : Nl) (R : Nat → Int) (M : Nat → Nat → Int) (ni : Nat) (I : Nat → Int) {j : Nat} : ∀ {m : Nat}, j < m → g.vals R M ni I m j = g.vals R M ni I (j + 1) j
  | m + 1, h => by
    by_cases e : j = m
    · subst e; rfl
    · have := g.vals_lt R M ni I (j := j) (m := m) (by omega)
      rw [← this]
      simp only [Nl.vals, if_neg e]
theorem Nl.vals_step (g : Nl) (R : Nat → Int) (M : Nat → Nat → Int) (ni : Nat) (I : Nat → Int) {k m : Nat} (h : k < m) : g.vals R M ni I m k = g.node R M ni I k (g.vals R M ni I k) := by
  rw [g.vals_lt R M ni I h]
  simp only [Nl.vals, if_true]

theorem tail_kind {g : Nl} {i : Nat} (h : g.NodeOk i) (h30 : g.K i ≠ 30) (h31 : g.K i ≠ 31) (h32 : g.K i ≠ 32) : fitB (g.K i) (g.W i) (g.U i) (g.aw i) (g.al i) = true := by
  have ht := h.tail
  unfold tailB at ht
  rw [if_neg h30, if_neg h31, if_neg h32] at ht
  split at ht
  · exact ht
  · rw [Bool.and_eq_true] at ht; exact ht.2
theorem kind_of {g : Nl} {i : Nat} (h : g.NodeOk i) (h30 : g.K i ≠ 30) (h31 : g.K i ≠ 31) (h32 : g.K i ≠ 32) : KindN (g.K i) (g.al i) := ⟨h.count.1, ⟨h30, h31, h32⟩, h.count.2.1, h.count.2.2⟩

/-- registers and memories hold words of their widths -/
structure Nl.Inv (g : Nl) (R : Nat → Int) (M : Nat → Nat → Int) : Prop where
  regs : ∀ i, i < g.nr → FitsW (g.RW i) (R i)
  mems : ∀ i, i < g.nm → ∀ j : Nat, (j : Int) < g.MS i → FitsW (g.MW i) (M i j)

/-- the facts that an operation wants of its arguments -/
structure OpFit (K W U : Int) (a wd : Nat → Int) (n : Nat) : Prop where
  wide : 1 ≤ W ∧ W ≤ 32
  num : 0 ≤ U
  kind : KindN K n
  fit : fitB K W U wd n = true
  args : ∀ j, j < n → (1 ≤ wd j ∧ wd j ≤ 32) ∧ FitsW (wd j) (a j)
  len : n ≤ 17592186044416

theorem sumV_eq {wd : Nat → Int} {n : Nat} (h : ∀ j, j < n → 1 ≤ wd j ∧ wd j ≤ 32) (hn : n ≤ 17592186044416) : ∀ k, k ≤ n → sumV wd k = sumW wd k ∧ 0 ≤ sumW wd k ∧ sumW wd k ≤ 32 * k
  | 0, _ => ⟨rfl, Int.le_refl _, by simp [sumW]⟩
  | k + 1, hk => by
    obtain ⟨h1, h2, h3⟩ := sumV_eq h hn k (by omega)
    have := h k (by omega)
    simp only [sumV, sumW]
    rw [h1, IntWalk.wrap64_in _ (by omega)]
    refine ⟨rfl, by omega, by push_cast; omega⟩

theorem fits_mod (x : Int) (W : Int) : FitsW W (x % 2 ^ W.toNat) := mod_lt2 x _
theorem fits_truth (b : Bool) {W : Int} (h : 1 ≤ W) : FitsW W (truthV b) := truthV_lt b (by omega)

/-- what an operation is worth fits its width -/
theorem opV_fits {K W U : Int} {a wd : Nat → Int} {n : Nat} (h : OpFit K W U a wd n) : FitsW W (opV K W U a wd n) := by
  obtain ⟨⟨hw1, hw2⟩, hu, hk, hf, ha, hn⟩ := h
  rcases hk.all with ⟨rfl, rfl⟩ | ⟨rfl, rfl⟩ | ⟨rfl, rfl⟩ | ⟨rfl, hp⟩ | ⟨rfl, rfl⟩ | ⟨rfl, rfl⟩ | ⟨rfl, rfl⟩ | ⟨rfl, rfl⟩ | ⟨rfl, rfl⟩ | ⟨rfl, rfl⟩ | ⟨rfl, rfl⟩ | ⟨rfl, rfl⟩ | ⟨rfl, rfl⟩ | ⟨rfl, rfl⟩ | ⟨rfl, rfl⟩ | ⟨rfl, rfl⟩ | ⟨rfl, rfl⟩ | ⟨rfl, rfl⟩ | ⟨rfl, rfl⟩
  · exact fits_mod _ _
  · exact fits_mod _ _
  · exact fits_mod _ _
  · exact fits_mod _ _
  · exact fits_mod _ _
  · exact fits_truth _ hw1
  · exact fits_truth _ hw1
  · have e : opV 11 W U a wd 1 = ((popc (a 0).toNat % 2 : Nat) : Int) := rfl
    rw [e]
    have : (2 : Int) ^ 1 ≤ 2 ^ W.toNat := by exact_mod_cast Nat.pow_le_pow_right (by omega) (by omega)
    unfold FitsW
    omega
  · have e : opV 12 W U a wd 2 = bits .and .u64 (a 0) (a 1) := rfl
    have hq : (wd 0 == W && wd 1 == W) = true := hf
    simp only [Bool.and_eq_true, beq_iff_eq] at hq
    rw [e]
    have h0 := (ha 0 (by omega)).2; have h1 := (ha 1 (by omega)).2
    rw [hq.1] at h0; rw [hq.2] at h1
    exact (bits_lt (by omega) h0 h1).1
  · have e : opV 13 W U a wd 2 = bits .or .u64 (a 0) (a 1) := rfl
    have hq : (wd 0 == W && wd 1 == W) = true := hf
    simp only [Bool.and_eq_true, beq_iff_eq] at hq
    rw [e]
    have h0 := (ha 0 (by omega)).2; have h1 := (ha 1 (by omega)).2
    rw [hq.1] at h0; rw [hq.2] at h1
    exact (bits_lt (by omega) h0 h1).2.1
  · have e : opV 14 W U a wd 2 = bits .xor .u64 (a 0) (a 1) := rfl
    have hq : (wd 0 == W && wd 1 == W) = true := hf
    simp only [Bool.and_eq_true, beq_iff_eq] at hq
    rw [e]
    have h0 := (ha 0 (by omega)).2; have h1 := (ha 1 (by omega)).2
    rw [hq.1] at h0; rw [hq.2] at h1
    exact (bits_lt (by omega) h0 h1).2.2
  · exact fits_mod _ _
  · exact fits_mod _ _
  · exact fits_mod _ _
  · have e : opV 18 W U a wd 2 = (if W ≤ a 1 then 0 else a 0 * 2 ^ (a 1).toNat % 2 ^ W.toNat) := rfl
    rw [e]
    split
    · exact ⟨Int.le_refl _, by have := pow_pos2 W.toNat; omega⟩
    · exact fits_mod _ _
  · have e : opV 19 W U a wd 2 = (if W ≤ a 1 then 0 else a 0 / 2 ^ (a 1).toNat) := rfl
    have hq : (wd 0 == W) = true := hf
    rw [beq_iff_eq] at hq
    have h0 := (ha 0 (by omega)).2
    rw [hq] at h0
    rw [e]
    split
    · exact ⟨Int.le_refl _, by have := pow_pos2 W.toNat; omega⟩
    · have hp := pow_pos2 (a 1).toNat
      have := Int.ediv_le_self (b := (2 : Int) ^ (a 1).toNat) h0.1
      exact ⟨Int.ediv_nonneg h0.1 (by omega), by have := h0.2; omega⟩
  · exact fits_truth _ hw1
  · exact fits_truth _ hw1
  · have e : opV 22 W U a wd 3 = (if a 0 ≠ 0 then a 1 else a 2) := rfl
    have hq : (wd 0 == 1 && wd 1 == W && wd 2 == W) = true := hf
    simp only [Bool.and_eq_true, beq_iff_eq] at hq
    have h1 := (ha 1 (by omega)).2; have h2 := (ha 2 (by omega)).2
    rw [hq.1.2] at h1; rw [hq.2] at h2
    rw [e]
    split
    · exact h1
    · exact h2

/-- the arguments of a node that is right -/
theorem Nl.Ok.args {g : Nl} (hok : g.Ok) {k : Nat} (hk : k < g.nn) {V : Nat → Int} (hV : ∀ j, j < k → FitsW (g.W j) (V j)) : ∀ j, j < g.al k → (1 ≤ g.aw k j ∧ g.aw k j ≤ 32) ∧ FitsW (g.aw k j) (g.arg k V j) := fun j hj => by
  obtain ⟨h0, h1⟩ := (hok.nodes k hk).args j hj
  have hw := (hok.nodes (g.a k j).toNat (by omega)).wide
  unfold wideB at hw
  simp only [Bool.and_eq_true, decide_eq_true_eq] at hw
  refine ⟨hw, ?_⟩
  unfold Nl.arg
  rw [if_pos hj]
  exact hV _ (by omega)
theorem Nl.Ok.opfit {g : Nl} (hok : g.Ok) (hfit : g.Fits) {k : Nat} (hk : k < g.nn) {V : Nat → Int} (hV : ∀ j, j < k → FitsW (g.W j) (V j)) (h30 : g.K k ≠ 30) (h31 : g.K k ≠ 31) (h32 : g.K k ≠ 32) :
    OpFit (g.K k) (g.W k) (g.U k) (g.arg k V) (g.aw k) (g.al k) := by
  have hn := hok.nodes k hk
  have hw := hn.wide
  unfold wideB at hw
  simp only [Bool.and_eq_true, decide_eq_true_eq] at hw
  have hl := hfit.al k hk
  exact ⟨hw, (hfit.u k hk).1, kind_of hn h30 h31 h32, tail_kind hn h30 h31 h32, hok.args hk hV, by omega⟩
/-- the facts that an input, a register, a memory wants -/
theorem Nl.Ok.in_ {g : Nl} (hok : g.Ok) {k : Nat} (hk : k < g.nn) (h : g.K k = 30) : g.U k < g.n0 := by
  have ht := (hok.nodes k hk).tail
  unfold tailB at ht
  rw [if_pos h, Bool.and_eq_true, decide_eq_true_eq] at ht
  exact ht.1
theorem Nl.Ok.reg {g : Nl} (hok : g.Ok) {k : Nat} (hk : k < g.nn) (h : g.K k = 31) : g.U k < g.nr ∧ g.RW (g.U k).toNat = g.W k := by
  have ht := (hok.nodes k hk).tail
  unfold tailB at ht
  rw [if_neg (by omega), if_pos h, Bool.and_eq_true, decide_eq_true_eq, beq_iff_eq] at ht
  exact ht
theorem Nl.Ok.read {g : Nl} (hok : g.Ok) {k : Nat} (hk : k < g.nn) (h : g.K k = 32) : (g.U k < g.nm ∧ g.MW (g.U k).toNat = g.W k) ∧ g.al k = 1 := by
  have hn := hok.nodes k hk
  have ht := hn.tail
  unfold tailB at ht
  rw [if_neg (by omega), if_neg (by omega), if_pos h, Bool.and_eq_true, decide_eq_true_eq, beq_iff_eq] at ht
  have hc := hn.count.2.1
  rw [h] at hc
  have : (g.al k : Int) = 1 := hc (by decide)
  exact ⟨ht, by omega⟩

theorem Nl.node_fits {g : Nl} (hok : g.Ok) (hfit : g.Fits) {R : Nat → Int} {M : Nat → Nat → Int} (hi : g.Inv R M) (ni : Nat) (I : Nat → Int) {k : Nat} (hk : k < g.nn) {V : Nat → Int} (hV : ∀ j, j < k → FitsW (g.W j) (V j)) :
    FitsW (g.W k) (g.node R M ni I k V) := by
  have hu := (hfit.u k hk).1
  have h0 : FitsW (g.W k) 0 := ⟨Int.le_refl _, by have := pow_pos2 (g.W k).toNat; omega⟩
  unfold Nl.node
  by_cases h30 : g.K k = 30
  · rw [if_pos h30]
    split
    · exact fits_mod _ _
    · exact h0
  rw [if_neg h30]
  by_cases h31 : g.K k = 31
  · rw [if_pos h31]
    obtain ⟨h1, h2⟩ := hok.reg hk h31
    have := hi.regs (g.U k).toNat (by omega)
    rwa [h2] at this
  rw [if_neg h31]
  by_cases h32 : g.K k = 32
  · rw [if_pos h32]
    obtain ⟨⟨h1, h2⟩, h3⟩ := hok.read hk h32
    have ha := (hok.args hk hV 0 (by omega)).2
    split
    · have := hi.mems (g.U k).toNat (by omega) (g.arg k V 0).toNat (by have := ha.1; omega)
      rwa [h2] at this
    · exact h0
  rw [if_neg h32]
  exact opV_fits (hok.opfit hfit hk hV h30 h31 h32)
theorem Nl.vals_fits {g : Nl} (hok : g.Ok) (hfit : g.Fits) {R : Nat → Int} {M : Nat → Nat → Int} (hi : g.Inv R M) (ni : Nat) (I : Nat → Int) : ∀ k, k ≤ g.nn → ∀ j, j < k → FitsW (g.W j) (g.vals R M ni I k j)
  | 0, _, j, hj => by omega
  | k + 1, hk, j, hj => by
    have ih := g.vals_fits hok hfit hi ni I k (by omega)
    by_cases e : j = k
    · subst e
      rw [g.vals_step R M ni I hj]
      exact g.node_fits hok hfit hi ni I (by omega) ih
    · simp only [Nl.vals, if_neg e]
      exact ih j (by omega)

/-- the memories behind k writes -/
def Nl.writes (g : Nl) (V : Nat → Int) (M : Nat → Nat → Int) : Nat → Nat → Nat → Int
  | 0 => M
  | k + 1 => if V (g.WN k).toNat ≠ 0 ∧ V (g.WA k).toNat < g.MS (g.WM k).toNat then fun i j => if i = (g.WM k).toNat ∧ j = (V (g.WA k).toNat).toNat then V (g.WD k).toNat else g.writes V M k i j
    else g.writes V M k
/-- what the netlist keeps ahead of cycle c, on a trace of rows of TL words -/
def Nl.st (g : Nl) (TL : Nat → Nat) (T : Nat → Nat → Int) : Nat → (Nat → Int) × (Nat → Nat → Int)
  | 0 => (g.RI, fun _ _ => 0)
  | c + 1 => let V := g.vals (g.st TL T c).1 (g.st TL T c).2 (TL c) (T c) g.nn
    (fun i => V (g.RN i).toNat, g.writes V (g.st TL T c).2 g.nw)
def Nl.cyc (g : Nl) (TL : Nat → Nat) (T : Nat → Nat → Int) (c : Nat) : Nat → Int := g.vals (g.st TL T c).1 (g.st TL T c).2 (TL c) (T c) g.nn
def Nl.shown (g : Nl) (TL : Nat → Nat) (T : Nat → Nat → Int) (c i : Nat) : Int := g.cyc TL T c (g.O i).toNat

theorem isB_in {g : Nl} {i wd : Int} (h : isB g i wd = true) : 0 ≤ i ∧ i < g.nn := by
  unfold isB inB at h
  simp only [Bool.and_eq_true, decide_eq_true_eq] at h
  exact h.1
theorem wnB_in {g : Nl} {i wd : Int} (h : isB g i wd = true) (hw : wideB wd = true) : g.W i.toNat = wd := by
  rw [isB_wide hw] at h
  unfold wnB at h
  simp only [Bool.and_eq_true, beq_iff_eq] at h
  exact h.2

theorem Nl.writes_inv {g : Nl} (hok : g.Ok) {R : Nat → Int} {M : Nat → Nat → Int} (hi : g.Inv R M) {V : Nat → Int} (hV : ∀ j, j < g.nn → FitsW (g.W j) (V j)) : ∀ k, k ≤ g.nw → ∀ i, i < g.nm → ∀ j : Nat, (j : Int) < g.MS i → FitsW (g.MW i) (g.writes V M k i j)
  | 0, _ => hi.mems
  | k + 1, hk => fun i him j hj => by
    have ih := g.writes_inv hok hi hV k (by omega) i him j hj
    simp only [Nl.writes]
    split
    · simp only
      split
      · rename_i h; obtain ⟨rfl, _⟩ := h
        have hw := hok.writes k (by omega)
        have hd := isB_in hw.data
        have he := wnB_in hw.data (hok.mems _ him).1
        have := hV (g.WD k).toNat (by omega)
        rwa [he] at this
      · exact ih
    · exact ih
theorem Nl.st_inv {g : Nl} (hok : g.Ok) (hfit : g.Fits) (TL : Nat → Nat) (T : Nat → Nat → Int) : ∀ c, g.Inv (g.st TL T c).1 (g.st TL T c).2
  | 0 => ⟨fun i hi => by
      obtain ⟨h1, h2⟩ := hok.regs i hi
      rw [maskN_eq h1] at h2
      exact (show FitsW (g.RW i) (g.RI i) from ⟨(hfit.ri i hi).1, by omega⟩), fun i hi j hj => (show FitsW (g.MW i) 0 from ⟨Int.le_refl _, by have := pow_pos2 (g.MW i).toNat; omega⟩)⟩
  | c + 1 => by
    have ih := g.st_inv hok hfit TL T c
    have hV := g.vals_fits hok hfit ih (TL c) (T c) g.nn (Nat.le_refl _)
    refine ⟨fun i hi => ?_, fun i hi j hj => g.writes_inv hok ih hV g.nw (Nat.le_refl _) i hi j hj⟩
    have hn := hok.next i hi
    have hd := isB_in hn
    have he := wnB_in hn (hok.regs i hi).1
    have := hV (g.RN i).toNat (by omega)
    rw [he] at this
    exact this
theorem Nl.cyc_fits {g : Nl} (hok : g.Ok) (hfit : g.Fits) (TL : Nat → Nat) (T : Nat → Nat → Int) (c : Nat) : ∀ j, j < g.nn → FitsW (g.W j) (g.cyc TL T c j) :=
  g.vals_fits hok hfit (g.st_inv hok hfit TL T c) (TL c) (T c) g.nn (Nat.le_refl _)
end Go.Proofs.Ytmbcfondglhiiaa
