/- How an argument that is a slice of rows of bools is opened. No condition. -/
import Derived.Test.YtdhgbikmaglgpaaSame
namespace Go.Proofs.Ytdhgbikmaglgpaa
open Go.RowKit Go.ChangeShapes Go.WideShapes Go.Deep

theorem Try.cellsSl31 : Try.prog.cellsOf 31 = 1 := by kernel_rfl
theorem Try.bytesBool : Try.prog.bytesOf 4 = 1 := by kernel_rfl
theorem Try.bytesSl31 : Try.prog.bytesOf 31 = 24 := by kernel_rfl

theorem open_bits {N : Nat} {H : Type} {enc : TypeId × Value → H} {w : World} {cs : List Value} (h : Good N enc Try.prog w 31 cs) :
    ∃ (A : Option Addr) (n c : Nat) (V : Nat → Bool), cs = [.slice A n c] ∧ n ≤ 140737488351232 ∧ Bits w A n V := by
  obtain ⟨A, n, c, f, rfl, hn, hb, _, hr, hg⟩ := good_slice 1 Try.cellsBool (by omega) Try.underlying31 h
  rw [Try.bytesBool] at hb
  unfold reachBytes at hb
  have hx : ∀ k, k < n → ∃ x : Bool, f k 0 = .bool x := fun k hk => by
    obtain ⟨x, e⟩ := good_bool Try.underlying4 (hg k hk)
    exact ⟨x, by simpa [List.range_succ] using e⟩
  obtain ⟨X, hX⟩ := choose_lt (α := Bool) hx
  refine ⟨A, n, c, X, rfl, by omega, fun h0 => ?_⟩
  obtain ⟨b, off, e, hc⟩ := hr.one h0
  exact ⟨b, off, e, fun k hk => (hc k hk).trans (congrArg some (hX k hk))⟩

theorem open_mat {N : Nat} {H : Type} {enc : TypeId × Value → H} {w : World} {cs : List Value} (h : Good N enc Try.prog w 29 cs) :
    ∃ (A : Option Addr) (n c : Nat) (len : Nat → Nat) (R : Nat → Nat → Bool), cs = [.slice A n c] ∧ n * 24 ≤ 140737488351232 ∧ Mat w A n len R ∧ ∀ i, i < n → len i ≤ 140737488351232 := by
  obtain ⟨A, n, c, f, rfl, hn, hb, _, hr, hg⟩ := good_slice 1 Try.cellsSl31 (by omega) Try.underlying29 h
  rw [Try.bytesSl31] at hb
  unfold reachBytes at hb
  have hx : ∀ k, k < n → ∃ x : Option Addr × Nat × Nat × (Nat → Bool), f k 0 = .slice x.1 x.2.1 x.2.2.1 ∧ x.2.1 ≤ 140737488351232 ∧ Bits w x.1 x.2.1 x.2.2.2 := fun k hk => by
    obtain ⟨A', n', c', V, e, hl, hV⟩ := open_bits (hg k hk)
    exact ⟨(A', n', c', V), by simpa [List.range_succ] using e, hl, hV⟩
  obtain ⟨X, hX⟩ := choose_lt (α := Option Addr × Nat × Nat × (Nat → Bool)) hx
  refine ⟨A, n, c, fun i => (X i).2.1, fun i => (X i).2.2.2, rfl, by omega, ⟨fun i => (X i).1, fun i => (X i).2.2.1, fun h0 => ?_, fun i hi => (hX i hi).2.2⟩, fun i hi => (hX i hi).2.1⟩
  obtain ⟨b, off, e, hc⟩ := hr.one h0
  exact ⟨b, off, e, fun k hk => (hc k hk).trans (congrArg some (hX k hk).1)⟩

end Go.Proofs.Ytdhgbikmaglgpaa
