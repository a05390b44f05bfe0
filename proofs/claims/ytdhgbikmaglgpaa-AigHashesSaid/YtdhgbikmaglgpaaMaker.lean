/- newMaker, Clean's closure and close, walked: parts of aig.Clean. Conditions: what they read lies in memory. -/
import Derived.Test.YtdhgbikmaglgpaaCleanRef
namespace Go.Proofs.Ytdhgbikmaglgpaa
open Go.RowKit

theorem xor_i64 {a b : Nat} (ha : a < 2 ^ 62) (hb : b < 2 ^ 62) : bits .xor .i64 (a : Int) (b : Int) = ((a ^^^ b : Nat) : Int) := by
  have hx : (BitVec.ofInt 64 (a : Int)).toNat = a := by rw [BitVec.ofInt_natCast, BitVec.toNat_ofNat]; exact Nat.mod_eq_of_lt (by omega)
  have hy : (BitVec.ofInt 64 (b : Int)).toNat = b := by rw [BitVec.ofInt_natCast, BitVec.toNat_ofNat]; exact Nat.mod_eq_of_lt (by omega)
  have hz := Nat.xor_lt_two_pow ha hb
  show IntKind.i64.wrap ((BitVec.ofInt 64 (a : Int) ^^^ BitVec.ofInt 64 (b : Int)).toNat : Int) = _
  rw [BitVec.toNat_xor, hx, hy, IntKind.wrap_i64]
  omega
theorem xor_lit {p : Nat} {l : Int} (hp : p ≤ 1000000000) (h0 : 0 ≤ l) (h1 : l ≤ 9000000000) : bits .xor .i64 (2 * (p : Int)) (bits .and .i64 l 1) = 2 * (p : Int) + l % 2 := by
  rw [and_one_i64 h0 (by omega)]
  obtain ⟨b, hb⟩ : ∃ b : Nat, (b : Int) = l % 2 := ⟨(l % 2).toNat, by omega⟩
  have hb2 : b < 2 := by omega
  have h62 : (2000000000 : Nat) < 2 ^ 62 := by decide
  rw [← hb, show (2 * (p : Int)) = ((2 * p : Nat) : Int) by omega, xor_i64 (Nat.lt_of_le_of_lt (by omega) h62) (Nat.lt_of_le_of_lt (by omega) h62), xor_even p b hb2]
  omega

set_option maxHeartbeats 400000 in
theorem move_any (bc bt nv : Nat) (T : Nat → Int) (l : Int) (p : Nat) (w : World) (hb : VarAt w bc bt nv) (ha : Arr w bt 3 nv (fun k => .int .i64 (T k))) (h0 : 0 ≤ l) (h1 : l < 2 * nv) (hn : nv ≤ 1000000000) (hp : T (l.toNat / 2) = 2 * (p : Int)) (hp2 : p ≤ 1000000000) :
    Calls Try.prog 92 #[.int .i64 l, .pointer (some ⟨bc, 0, none⟩)] w fun e w' => e = .returned (.int .i64 (2 * (p : Int) + l % 2)) ∧ w = w' := by
  have hc := ha.cell (k := (l / 2).toNat) (by omega)
  rw [show (l / 2).toNat = l.toNat / 2 by omega, hp, ← show (l / 2).toNat = l.toNat / 2 by omega] at hc
  have hv : w.cell? ⟨bc, 0, none⟩ = some (.slice (some ⟨bt, 0, none⟩) nv nv) := hb
  have hbit := xor_lit hp2 h0 (by omega)
  go_enter Try.func92, Try.ntmps92
  go_wp2
  go_ret
  exact ⟨rfl, rfl⟩

/-- the five cells of a maker -/
def five (v0 v1 v2 v3 v4 : Value) : Nat → Value
  | 0 => v0
  | 1 => v1
  | 2 => v2
  | 3 => v3
  | _ => v4
def MBox (w : World) (b : Nat) (v0 v1 v2 v3 v4 : Value) : Prop := Arr w b 143 5 (five v0 v1 v2 v3 v4)

set_option maxHeartbeats 1000000 in
theorem newMaker_any (ins : Int) (A : Option Addr) (n c : Nat) (L : Nat → Int) (I : Nat → Bool) (w : World) (h : RowS w 2 A n (fun k => two (.int .i64 (L k)) (.bool (I k)))) (hn : n ≤ 1000000) :
    Calls Try.prog 91 #[.int .i64 ins, .slice A n c] w fun e w' => ∃ (bm : Nat) (Al : Option Addr) (cl : Nat) (v4 : Value), e = .returned (.pointer (some ⟨bm, 0, none⟩)) ∧ MBox w' bm (.int .i64 ins) (.slice Al n cl) (.slice none 0 0) (.slice none 0 0) v4 ∧
      w.heap.size ≤ bm ∧ w'.ownsRow w.heap.size 68 2 (.slice Al n cl) n (flat2 (fun k => two (.int .i64 (L k)) (.bool (I k))) n) ∧ Below w.heap.size w w' := by
  have hsrc := src_row2 h (fun k _ j hj => by obtain rfl | rfl : j = 0 ∨ j = 1 := (by omega) <;> rfl)
  have hmm := @run_makeMap Try.prog
  go_enter Try.func91, Try.ntmps91
  go_wp2_with (at_builtin; refine wp_append rfl (.const (.slice none 0 0)) (.tmp 6) _ rfl elLatch w.heap.size none 0 0 _ rfl (World.ownsRow_nil _ _ _ _) A n c _ rfl hsrc (by omega) (by omega) ?_; intro Al cl w1 ho hk hb)
  have hb1 := hk.all (fun k _ c => by obtain ⟨a, h, _⟩ := c; cases h)
  have hs1 := hb1.size
  have hw : ((w1.alloc (.map #[] 0)).alloc (.cells #[.int .i64 ins, .slice Al n cl, .slice none 0 0, .slice none 0 0, .map (some w1.heap.size)] 143)).heap.size = w1.heap.size + 2 := by simp
  go_ret
  refine ⟨w1.heap.size + 1, Al, cl, .map (some w1.heap.size), rfl, ?_, by omega, ?_, ?_⟩
  · have := Arr.new (w1.alloc (.map #[] 0)) #[.int .i64 ins, .slice Al n cl, .slice none 0 0, .slice none 0 0, .map (some w1.heap.size)] 143
    rw [show (w1.alloc (.map #[] 0)).heap.size = w1.heap.size + 1 by simp] at this
    refine Arr.congr this (fun j hj => ?_)
    have hj' : j < 5 := hj
    obtain rfl | rfl | rfl | rfl | rfl : j = 0 ∨ j = 1 ∨ j = 2 ∨ j = 3 ∨ j = 4 := by omega
    all_goals rfl
  · have ho' : w1.ownsRow w.heap.size 68 2 (.slice Al n cl) n (flat2 (fun k => two (.int .i64 (L k)) (.bool (I k))) n) := by simpa using ho
    exact World.ownsRow.alloc (World.ownsRow.alloc ho' _) _
  · exact (hb1.alloc (by omega) _).alloc (by simp; omega) _
end Go.Proofs.Ytdhgbikmaglgpaa
