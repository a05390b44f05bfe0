/- How an argument that is a slice of rows of words is opened. No condition. -/
import Derived.Test.YtmbcfondglhiiaaWMem
namespace Go.Proofs.Ytmbcfondglhiiaa
open Go.RowKit Go.ChangeShapes Go.WideShapes Go.Deep

theorem Try.bytesU64 : Try.prog.bytesOf 33 = 8 := by kernel_rfl
theorem Try.cellsRowU64 : Try.prog.cellsOf 34 = 1 := by kernel_rfl
theorem Try.bytesRowU64 : Try.prog.bytesOf 34 = 24 := by kernel_rfl

theorem open_words {N : Nat} {H : Type} {enc : TypeId × Value → H} {w : World} {cs : List Value} (h : Good N enc Try.prog w 34 cs) :
    ∃ (A : Option Addr) (n c : Nat) (V : Nat → Int), cs = [.slice A n c] ∧ n ≤ 1000000000000000 ∧ Words w A n V ∧ ∀ k, k < n → 0 ≤ V k ∧ V k ≤ 18446744073709551615 := by
  obtain ⟨A, n, c, f, rfl, hn, hb, _, hr, hg⟩ := good_slice 1 Try.cellsU64 (by omega) Try.underlying34 h
  rw [Try.bytesU64] at hb
  unfold reachBytes at hb
  have hx : ∀ k, k < n → ∃ x : Int, f k 0 = .int .u64 x ∧ (Lit.int .u64 x).wf = true := fun k hk => by
    obtain ⟨x, e, hw⟩ := good_int Try.underlying33 (hg k hk)
    exact ⟨x, by simpa [List.range_succ] using e, hw⟩
  obtain ⟨X, hX⟩ := choose_lt (α := Int) hx
  refine ⟨A, n, c, X, rfl, by omega, fun h0 => ?_, fun k hk => fits_u64 (hX k hk).2⟩
  obtain ⟨b, off, e, hc⟩ := hr.one h0
  exact ⟨b, off, e, fun k hk => (hc k hk).trans (congrArg some (hX k hk).1)⟩

theorem open_matw {N : Nat} {H : Type} {enc : TypeId × Value → H} {w : World} {cs : List Value} (h : Good N enc Try.prog w 31 cs) :
    ∃ (A : Option Addr) (n c : Nat) (len : Nat → Nat) (R : Nat → Nat → Int), cs = [.slice A n c] ∧ n * 24 ≤ 140737488351232 ∧ MatW w A n len R ∧ (∀ i, i < n → len i ≤ 1000000000000000) ∧ ∀ i, i < n → ∀ j, j < len i → 0 ≤ R i j ∧ R i j ≤ 18446744073709551615 := by
  obtain ⟨A, n, c, f, rfl, hn, hb, _, hr, hg⟩ := good_slice 1 Try.cellsRowU64 (by omega) Try.underlying31 h
  rw [Try.bytesRowU64] at hb
  unfold reachBytes at hb
  have hx : ∀ k, k < n → ∃ x : Option Addr × Nat × Nat × (Nat → Int), f k 0 = .slice x.1 x.2.1 x.2.2.1 ∧ x.2.1 ≤ 1000000000000000 ∧ Words w x.1 x.2.1 x.2.2.2 ∧ ∀ j, j < x.2.1 → 0 ≤ x.2.2.2 j ∧ x.2.2.2 j ≤ 18446744073709551615 := fun k hk => by
    obtain ⟨A', n', c', V, e, hl, hV, hb⟩ := open_words (hg k hk)
    exact ⟨(A', n', c', V), by simpa [List.range_succ] using e, hl, hV, hb⟩
  obtain ⟨X, hX⟩ := choose_lt (α := Option Addr × Nat × Nat × (Nat → Int)) hx
  refine ⟨A, n, c, fun i => (X i).2.1, fun i => (X i).2.2.2, rfl, by omega, ⟨fun i => (X i).1, fun i => (X i).2.2.1, fun h0 => ?_, fun i hi => (hX i hi).2.2.1⟩, fun i hi => (hX i hi).2.1, fun i hi => (hX i hi).2.2.2⟩
  obtain ⟨b, off, e, hc⟩ := hr.one h0
  exact ⟨b, off, e, fun k hk => (hc k hk).trans (congrArg some (hX k hk).1)⟩
end Go.Proofs.Ytmbcfondglhiiaa
