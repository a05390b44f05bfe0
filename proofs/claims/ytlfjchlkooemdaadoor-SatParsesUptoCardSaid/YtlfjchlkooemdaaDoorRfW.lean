/- A range over an iterator that writes a block of its own, laid ahead of the loop, where the body never leaves early: the law for the caller. No condition. -/
import Derived.RangeFuncNested
import Derived.RangeFuncBound
import Derived.RangeFuncCalls
import Derived.RangeFuncLeaves
import Derived.Shelf.Abstract
import Derived.Shelf.RegionOpen
import Derived.WalkKit
import Derived.OwnWalkIn
import Derived.TacticsInMore
import Derived.LoopNIn
import Derived.LoopIn
import Derived.Test.YtlfjchlkooemdaaDoorBase
namespace Go.Proofs.YtlfjchlkooemdaaDoor
open Go.RowKit Go.Shelf

/-- what such an iterator does: xs: what comes; B0: its own block -/
def SeqW {α : Type} (F : Fence) (n : Nat) (P : Program) (g : Nat) (lb : Array Value) (encs : α → Array Value) (B0 : Nat) (Ok : World → Prop) (xs : List α) : Prop :=
  ∀ (l : Nat) (J : List α → World → Prop) (W : World), (∀ s A B, J s A → A.grownBy B (some B0) → J s B) →
    (∀ pre x W1, J pre W1 → pre ++ [x] <+: xs → YieldAt F (n - 1) P l (encs x) W1 fun e W' => e = .returned (.bool true) ∧ J (pre ++ [x]) W' ∧ W'.heap[B0]? = W1.heap[B0]?) →
    J [] W → Ok W →
    CallsIn F n P g (#[.func (.yield l) #[] #[]] ++ lb) W fun e W' => (∃ v, e = .returned v) ∧ J xs W'

/-- how a round ends -/
def goesOn {α : Type} (B B0 : Nat) (I : List α → World → Prop) (xs : List α) (W : World) : Exit → Act → World → Prop
  | .normal, _, W' => KeepsFrom B W W' ∧ W'.heap[B0]? = W.heap[B0]? ∧ I xs W'
  | _, _, _ => False

theorem putObj_other {W : World} {l k : Nat} (o : Obj) (h : k ≠ l) : (W.putObj l o).heap[k]? = W.heap[k]? := World.putObj_heap_other h

theorem wpIn_rangeW {α : Type} {F : Fence} {n : Nat} {P : Program} {g : Operand} {ps : Array Tmp} {assign body : Code} {Q : Exit → Act → World → Prop} {a : Act} {w : World}
    (hro : F.round = none) (h1 : 1 ≤ n) {gf : Nat} {lb : Array Value} (hg : a.eval g = .func (.func gf) #[] lb) (hFg : F.fn gf) (eg : ∀ args w, (callFunc gf args).run P w = .ok (.enter gf args) w)
    {encs : α → Array Value} {B0 : Nat} {Ok : World → Prop} {xs : List α} (hseq : SeqW F (n - 1) P gf lb encs B0 Ok xs) (hB : B0 < w.heap.size) (hOk : ∀ W : World, (∀ k, k < w.heap.size → W.heap[k]? = w.heap[k]?) → Ok W) (hps : ∀ x, (encs x).size = ps.size)
    (I : List α → World → Prop) (hI : OwnFrom w.heap.size I) (hI0 : ∀ s A B, I s A → A.grownBy B (some B0) → I s B) (h0 : I [] w) (a₁ : α → Act)
    (hassign : ∀ (l : Nat) (x : α) (W : World) (K : Act → World → Prop), K (a₁ x) W → assign.wpIn (F.inRound l) (n - 1 - 1) P (Exit.then K (fun _ _ _ => False)) { tmps := (ps.zip (encs x)).foldl (fun t (p, v) => t.setIfInBounds p v) a.tmps, defers := [] } W)
    (hbody : ∀ (l : Nat) (pre : List α) (x : α) (W : World), w.heap.size ≤ l → I pre W → pre ++ [x] <+: xs → body.wpIn (F.inRound l) (n - 1 - 1) P (goesOn w.heap.size B0 I (pre ++ [x]) W) (a₁ x) W)
    (hdone : ∀ (D : Nat) (W : World), w.heap.size ≤ D → I xs W → W.heap[D]? = some (.deferred (some [])) → Q .normal { a with defers := { target := .collected D, args := #[] } :: a.defers } W) :
    (Code.rangeFunc g ps assign body).wpIn F n P Q a w := by
  refine wpIn_rangeFunc (fun fn hfn => ?_)
  rw [hro]
  obtain ⟨z, hz⟩ : ∃ z, w.heap.size = z := ⟨_, rfl⟩
  obtain ⟨rec, hrec⟩ : ∃ rec : LoopState → Loop, rec = fun st => { state := st, pending := none, fn, tmps := a.tmps, params := ps, assign, body, defers := z } := ⟨_, rfl⟩
  obtain ⟨W1, hW1⟩ : ∃ W1, W1 = (w.alloc (.deferred (some []))).alloc (.loop (rec .ready)) := ⟨_, rfl⟩
  have hL1 : W1.heap[z + 1]? = some (.loop (rec .ready)) := by
    have h := World.alloc_heap_new (w.alloc (.deferred (some []))) (.loop (rec .ready))
    rw [World.size_alloc, hz] at h; rw [hW1]; exact h
  have hK1 : W1.heap[z]? = some (.deferred (some [])) := by
    have h := World.alloc_heap_new w (.deferred (some []))
    rw [hz] at h
    rw [hW1]; exact (Below.heap_alloc _ _ _ (by simp [hz])).trans h
  have hE1 : ∀ k, k < z → W1.heap[k]? = w.heap[k]? := fun k hk => by
    rw [hW1]; exact (Below.heap_alloc _ _ _ (by simp; omega)).trans (Below.heap_alloc _ _ _ (by omega))
  have hI1 : I [] W1 := by rw [hW1]; exact hI.alloc _ (hI.alloc _ h0)
  refine ⟨z + 1, [{ target := .collected z, args := #[] }], W1, { target := .fn (.func gf) lb, args := #[.func (.yield (z + 1)) #[] #[]] }, W1, gf, #[.func (.yield (z + 1)) #[] #[]] ++ lb, W1, ?_, ?_, ?_, ?_, fun _ => h1, ?_⟩
  · have h := run_enterLoop_outer (P := P) (w := w) fn a.tmps ps assign body
    rw [hz] at h; rw [h, hW1, hrec]
  · simp only [resolve, hg]
    simp [go_sem]
  · intro f' hf'
    simp [Target.leads] at hf'
    subst hf'; exact hFg
  · simp [invoke, go_sem, eg]
  · have hB' : B0 < z := by omega
    refine (hseq (z + 1) (fun pre W => I pre W ∧ W.heap[z + 1]? = some (.loop (rec .ready)) ∧ W.heap[z]? = some (.deferred (some []))) W1 ?_ ?_ ⟨hI1, hL1, hK1⟩ (hOk W1 (fun k hk => hE1 k (by omega)))).mono ?_
    · rintro s A B ⟨i1, i2, i3⟩ hgr
      exact ⟨hI0 s A B i1 hgr, (hgr.block (z + 1) (Array.getElem?_eq_some_iff.1 i2).1 (by simp; omega)).trans i2, (hgr.block z (Array.getElem?_eq_some_iff.1 i3).1 (by simp; omega)).trans i3⟩
    · rintro pre x W ⟨hi, hl, hk⟩ hpre
      have hy := run_yield (P := P) (args := encs x) hl (by rw [hrec]; exact hps x)
      have hlt : z + 1 < W.heap.size := (Array.getElem?_eq_some_iff.1 hl).1
      obtain ⟨W2, hW2⟩ : ∃ W2, W2 = W.putObj (z + 1) (.loop { rec .ready with state := .busy }) := ⟨_, rfl⟩
      have hl2 : W2.heap[z + 1]? = some (.loop { rec .ready with state := .busy }) := by rw [hW2]; exact World.putObj_heap_same hlt
      have hk2 : W2.heap[z]? = some (.deferred (some [])) := by rw [hW2]; exact (putObj_other _ (by omega)).trans hk
      have hb2 : W2.heap[B0]? = W.heap[B0]? := by rw [hW2]; exact putObj_other _ (by omega)
      have hi2 : I pre W2 := by rw [hW2]; exact hI.putObj _ hi (by omega) hl rfl
      refine ⟨fn, _, assign, body, by rw [hrec] at hy; exact hy, roundIn_of_wpIn hfn (hassign _ x W _ ⟨W2, ?_, ?_⟩)⟩
      · rw [hW2]; exact run_beginRound hl (by rw [hrec])
      · refine wpIn_mono (hbody _ pre x W2 (by omega) hi2 hpre) (fun e a3 W3 hp => ?_)
        cases e with
        | normal =>
          obtain ⟨hk3, hb3, hi3⟩ := hp
          have hl3 := hk3.same _ _ (by omega) hl2 rfl
          have hd3 := hk3.same _ _ (by omega) hk2 rfl
          have hlt3 : z + 1 < W3.heap.size := (Array.getElem?_eq_some_iff.1 hl3).1
          refine ⟨_, _, run_endRound (P := P) none hl3, rfl, ⟨hI.putObj _ hi3 (by omega) hl3 rfl, ?_, ?_⟩, ?_⟩
          · rw [World.putObj_heap_same hlt3, hrec]; rfl
          · exact (putObj_other _ (by omega)).trans hd3
          · exact ((putObj_other _ (by omega)).trans hb3).trans hb2
        | ret => exact hp.elim
        | exit id => exact hp.elim
        | goto t => exact hp.elim
        | panic c => exact hp.elim
        | outgrown => exact hp.elim
    · rintro e W2 ⟨⟨v, rfl⟩, hi, hl, hk⟩
      have h := run_endLoop (P := P) hl (by rw [hrec]; simp)
      have h' : (Instr.endLoop (z + 1)).run P W2 = .ok none (W2.putObj (z + 1) (.loop { rec .ready with state := .exhausted })) := by rw [hrec] at h ⊢; exact h
      exact ⟨none, _, h', hdone z _ (by omega) (hI.putObj _ hi (by omega) hl rfl) ((putObj_other _ (by omega)).trans hk)⟩
end Go.Proofs.YtlfjchlkooemdaaDoor
