/- The fields of a configuration in their order; memory that a round of a loop over them leaves as it was. No condition. -/
import Derived.Test.YtbnjbclkmjjkhaaDoorCfR
import Derived.Lib.BitFns
import Derived.RangeFuncNested
import Derived.RangeFuncBound
import Derived.RangeFuncCalls
import Derived.RangeFuncLeaves
import Derived.Shelf.Abstract
import Derived.Shelf.RegionOpen
import Derived.OwnWalkIn
import Derived.TacticsInMore
import Derived.LoopNIn
import Derived.LoopIn
namespace Go.Proofs.YtbnjbclkmjjkhaaDoor
open Go.RowKit Go.Shelf

/-- a field of a configuration -/
inductive Fi where
  | bits (i k : Nat)
  | sel (i k j : Nat)
  | init (k : Nat)
  | rsel (k : Nat)
  | out (k : Nat)

def Cf.inn (c : Cf) : Fi → Prop
  | .bits i k => i < c.nc ∧ k < c.rows i
  | .sel i k j => (i < c.nc ∧ k < c.rows i) ∧ j < 4
  | .init k => k < c.nr
  | .rsel k => k < c.nr
  | .out k => k < c.no
abbrev Cf.F (c : Cf) := { x : Fi // c.inn x }

def plus (A : Option Addr) (d : Nat) : Value := .pointer (A.map fun a => ⟨a.block, a.off + d, none⟩)
def wid (n : Int) : Int := Lib.bitLen (n - 1).toNat
/-- a field as the program tells it -/
def Cf.fv (c : Cf) : Fi → Value
  | .bits i k => .agg #[plus (c.CA i) (k * 5 + 4), .pointer none, .int .i64 65536, .int .i64 16]
  | .sel i k j => .agg #[plus (c.CA i) (k * 5 + j), .pointer none, .int .i64 (c.src i), .int .i64 (wid (c.src i))]
  | .init k => .agg #[.pointer none, plus c.AR (k * 2 + 1), .int .i64 2, .int .i64 1]
  | .rsel k => .agg #[plus c.AR (k * 2), .pointer none, .int .i64 (c.src 1), .int .i64 (wid (c.src 1))]
  | .out k => .agg #[plus c.AO k, .pointer none, .int .i64 (c.src 1), .int .i64 (wid (c.src 1))]

/-! ### The fields in their order -/
def cellF (i k : Nat) : List Fi := [.bits i k, .sel i k 0, .sel i k 1, .sel i k 2, .sel i k 3]
def colF (i : Nat) : Nat → List Fi
  | 0 => []
  | k + 1 => colF i k ++ cellF i k
def Cf.allF (c : Cf) : Nat → List Fi
  | 0 => []
  | i + 1 => c.allF i ++ colF i (c.rows i)
def regF : Nat → List Fi
  | 0 => []
  | k + 1 => regF k ++ [.init k, .rsel k]
def outF : Nat → List Fi
  | 0 => []
  | k + 1 => outF k ++ [.out k]
def Cf.flds (c : Cf) : List Fi := c.allF c.nc ++ (regF c.nr ++ outF c.no)

theorem colF_pre (i : Nat) : ∀ {m k : Nat}, k ≤ m → colF i k <+: colF i m
  | m, k, h => by
    induction m with
    | zero => obtain rfl : k = 0 := by omega
              exact List.prefix_refl _
    | succ m ih =>
      by_cases e : k = m + 1
      · subst e; exact List.prefix_refl _
      · exact (ih (by omega)).trans (List.prefix_append _ _)
theorem allF_pre (c : Cf) : ∀ {m k : Nat}, k ≤ m → c.allF k <+: c.allF m
  | m, k, h => by
    induction m with
    | zero => obtain rfl : k = 0 := by omega
              exact List.prefix_refl _
    | succ m ih =>
      by_cases e : k = m + 1
      · subst e; exact List.prefix_refl _
      · exact (ih (by omega)).trans (List.prefix_append _ _)
theorem regF_pre : ∀ {m k : Nat}, k ≤ m → regF k <+: regF m
  | m, k, h => by
    induction m with
    | zero => obtain rfl : k = 0 := by omega
              exact List.prefix_refl _
    | succ m ih =>
      by_cases e : k = m + 1
      · subst e; exact List.prefix_refl _
      · exact (ih (by omega)).trans (List.prefix_append _ _)
theorem outF_pre : ∀ {m k : Nat}, k ≤ m → outF k <+: outF m
  | m, k, h => by
    induction m with
    | zero => obtain rfl : k = 0 := by omega
              exact List.prefix_refl _
    | succ m ih =>
      by_cases e : k = m + 1
      · subst e; exact List.prefix_refl _
      · exact (ih (by omega)).trans (List.prefix_append _ _)
theorem app_pre {α : Type} (l : List α) {a b : List α} (h : a <+: b) : l ++ a <+: l ++ b := (List.prefix_append_right_inj l).2 h
theorem Cf.cell_pre (c : Cf) {i k : Nat} (hi : i < c.nc) (hk : k < c.rows i) : c.allF i ++ (colF i k ++ cellF i k) <+: c.flds := by
  have h1 : c.allF i ++ (colF i k ++ cellF i k) <+: c.allF (i + 1) := app_pre _ (colF_pre i (show k + 1 ≤ c.rows i by omega))
  exact (h1.trans (allF_pre c (by omega))).trans (List.prefix_append _ _)
theorem Cf.reg_pre (c : Cf) {k : Nat} (hk : k < c.nr) : c.allF c.nc ++ (regF k ++ [.init k, .rsel k]) <+: c.flds :=
  app_pre _ ((regF_pre (show k + 1 ≤ c.nr by omega)).trans (List.prefix_append _ _))
theorem Cf.out_pre (c : Cf) {k : Nat} (hk : k < c.no) : c.allF c.nc ++ (regF c.nr ++ (outF k ++ [.out k])) <+: c.flds :=
  app_pre _ (app_pre _ (outF_pre (show k + 1 ≤ c.no by omega)))
theorem pre_lt {α : Type} {a b f : List α} {x : α} {p : Nat} (h : a ++ (x :: b) <+: f) (hp : p = a.length) : p < f.length := by
  have := h.length_le
  simp at this; omega

/-! ### Memory that stays -/
/-- types of cells that no round writes to -/
def guarded (t : TypeId) : Prop := t = 31 ∨ t = 72 ∨ t = 96 ∨ t = 50
structure Kept (n₀ : Nat) (W W' : World) : Prop where
  size : W.heap.size ≤ W'.heap.size
  old : ∀ (k : Nat), k < n₀ → k < W.heap.size → W'.heap[k]? = W.heap[k]?
  own : ∀ (k : Nat) cur (t : TypeId) z, guarded t → W.heap[k]? = some (Obj.cells cur t z) → W'.heap[k]? = some (Obj.cells cur t z)
section
variable {n₀ : Nat} {A B C : World}
theorem Kept.refl (n₀ : Nat) (W : World) : Kept n₀ W W := ⟨Nat.le_refl _, fun _ _ _ => rfl, fun _ _ _ _ _ h => h⟩
theorem Kept.trans (h : Kept n₀ A B) (k : Kept n₀ B C) : Kept n₀ A C :=
  ⟨Nat.le_trans h.size k.size, fun i hi hA => (k.old i hi (Nat.lt_of_lt_of_le hA h.size)).trans (h.old i hi hA), fun i cur t z ht hA => k.own i cur t z ht (h.own i cur t z ht hA)⟩
theorem Kept.below (h : Below A.heap.size A B) : Kept n₀ A B :=
  ⟨h.size, fun k _ hA => h.block k hA, fun k _ _ _ _ hA => (h.block k (Array.getElem?_eq_some_iff.1 hA).1).trans hA⟩
theorem kept_b {w : World} (hn : n₀ ≤ w.heap.size) (W : World) (l : Nat) (o o' : Obj) (hl : w.heap.size ≤ l) (h : W.heap[l]? = some o) (ho : o.isCells = false) (_ : o.isWalk = false) : Kept n₀ W (W.putObj l o') :=
  ⟨by simp, fun k hk _ => World.putObj_heap_other (by omega), fun k cur t z _ hA => by
    by_cases e : k = l
    · subst e; rw [h] at hA; cases hA; cases ho
    · exact (World.putObj_heap_other e).trans hA⟩
/-- a cell that stays -/
def Firm (n₀ : Nat) (W : World) (a : Addr) (v : Value) : Prop := W.cell? a = some v ∧ (a.block < n₀ ∨ ∃ cur t z, guarded t ∧ W.heap[a.block]? = some (Obj.cells cur t z))
theorem Firm.kept {a : Addr} {v : Value} (h : Firm n₀ A a v) (k : Kept n₀ A B) : Firm n₀ B a v := by
  have hlt := World.block_lt_of_cell? A a h.1
  rcases h.2 with h2 | ⟨cur, t, z, ht, hh⟩
  · exact ⟨(World.cell?_of_block (k.old _ h2 hlt)).trans h.1, .inl h2⟩
  · have hb := k.own _ cur t z ht hh
    exact ⟨(World.cell?_of_block (hb.trans hh.symm)).trans h.1, .inr ⟨cur, t, z, ht, hb⟩⟩
theorem Firm.new (n₀ : Nat) (w : World) (v : Value) (t : TypeId) (ht : guarded t) : Firm n₀ (w.alloc (.cells #[v] t)) ⟨w.heap.size, 0, none⟩ v :=
  ⟨by rw [World.cell?_alloc_new]; rfl, .inr ⟨_, t, _, ht, heap_alloc_new w _⟩⟩
end

/-- the heads of a configuration: the box at block B and the columns' slices -/
structure Cf.Hdr (c : Cf) (n₀ : Nat) (W : World) (B : Nat) : Prop where
  box : ∀ j v, c.cells[j]? = some v → Firm n₀ W ⟨B, j, none⟩ v
  cols : ∀ i, i < c.nc → ∃ b off, c.AC = some ⟨b, off, none⟩ ∧ Firm n₀ W ⟨b, off + i, none⟩ (.slice (c.CA i) (c.rows i) (c.cc i))
theorem Cf.Hdr.kept {c : Cf} {n₀ B : Nat} {W W' : World} (h : c.Hdr n₀ W B) (k : Kept n₀ W W') : c.Hdr n₀ W' B :=
  ⟨fun j v e => (h.box j v e).kept k, fun i hi => by
    obtain ⟨b, off, e, hf⟩ := h.cols i hi
    exact ⟨b, off, e, hf.kept k⟩⟩
/-- no slice with elements is nil -/
structure Cf.Ptr (c : Cf) : Prop where
  col : ∀ i, i < c.nc → 0 < c.rows i → ∃ b off, c.CA i = some ⟨b, off, none⟩
  reg : 0 < c.nr → ∃ b off, c.AR = some ⟨b, off, none⟩
  out : 0 < c.no → ∃ b off, c.AO = some ⟨b, off, none⟩
theorem Cf.At.ptr {c : Cf} {w : World} (h : c.At w) : c.Ptr :=
  ⟨fun i hi h0 => by obtain ⟨b, off, e, _⟩ := h.cells i hi h0; exact ⟨b, off, e⟩, fun h0 => by obtain ⟨b, off, e, _⟩ := h.regs h0; exact ⟨b, off, e⟩, fun h0 => by obtain ⟨b, off, e, _⟩ := h.outs h0; exact ⟨b, off, e⟩⟩

theorem abides_below {β : Type} {B : Nat} {J : β → World → Prop} (h : AbidesFrom B J) {s : β} {W W' : World} (hs : J s W) (hb : Below W.heap.size W W') : J s W' :=
  h s W W' none hs ⟨hb.os, hb.tape, hb.output, hb.size, fun k hk _ => hb.block k hk⟩ (fun r e => by cases e)

theorem wid_le {n : Int} (h0 : 1 ≤ n) (h1 : n ≤ 1002) : 0 ≤ wid n ∧ wid n ≤ 10 := by
  unfold wid
  refine ⟨by omega, ?_⟩
  have : ∀ m : Fin 1002, Lib.bitLen m.val ≤ 10 := by decide +kernel
  have := this ⟨(n - 1).toNat, by omega⟩
  simp only at this
  omega
theorem Cf.src_le (c : Cf) (h : ShOk c.sh) (i : Nat) : 2 ≤ c.src i ∧ c.src i ≤ 1002 := by
  unfold Cf.src
  have h0 := h.s0; have h2 := h.s2; have h3 := h.s3
  split <;> omega
theorem sources_src (c : Cf) (i : Nat) (w : World) (h : ShOk c.sh) :
    Calls Tryd.prog 39 #[.agg #[.int .i64 (c.sh 0), .int .i64 (c.sh 1), .int .i64 (c.sh 2), .int .i64 (c.sh 3), .int .i64 (c.sh 4)], .int .i64 i] w fun e w' => e = .returned (.int .i64 (c.src i)) ∧ Below w.heap.size w w' :=
  (sources_any c.sh i w h).mono fun e w' ⟨he, hb⟩ => ⟨he.trans (ret_int (by simp [Cf.src])), hb⟩
end Go.Proofs.YtbnjbclkmjjkhaaDoor
