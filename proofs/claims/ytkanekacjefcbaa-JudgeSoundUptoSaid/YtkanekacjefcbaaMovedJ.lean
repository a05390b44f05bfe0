/- How a literal is moved into the joint graph, on both sides, walked. Condition: the numbers are small. -/
import Derived.Test.YtkanekacjefcbaaJfP
import Derived.Test.YtkanekacjefcbaaValidJ
import Derived.Laws.Bits64
namespace Go.Proofs.Ytkanekacjefcbaa
open Go.RowKit

theorem and1_nat {n : Nat} (h : n < 9223372036854775808) : bits .and .i64 (n : Int) 1 = ((n % 2 : Nat) : Int) := by
  have := bits_mask .i64 63 (by decide) (fun n h0 h1 => by rw [IntKind.wrap_i64]; omega) 1 (by decide) (n : Int) (by omega) (by omega)
  rw [show (2 : Int) ^ 1 - 1 = 1 from rfl] at this
  rw [this]
  omega

/-- a joiner's move: la for its latches, ga for its gates -/
def mvJ (ins n1 la ga l : Nat) : Nat := if l / 2 > ins + n1 then l + 2 * ga else if l / 2 > ins then l + 2 * la else l

set_option maxHeartbeats 1000000 in
theorem lit_any (ins n1 la ga l : Nat) (w : World) (h1 : ins ≤ 1000000000000) (h2 : n1 ≤ 1000000000000) (h3 : la ≤ 1000000000000) (h4 : ga ≤ 1000000000000) (h5 : l ≤ 1000000000000) :
    Calls Try.prog 53 #[.agg #[.int .i64 ins, .int .i64 n1, .int .i64 la, .int .i64 ga], .int .i64 l] w fun e w' => e = .returned (.int .i64 (mvJ ins n1 la ga l)) ∧ Below w.heap.size w w' := by
  have e1 := and1_nat (n := l) (by omega)
  have E1 := Lib.hid e1; clear e1
  go_enter Try.func53, Try.ntmps53
  by_cases c1 : l / 2 > ins + n1
  · have c1' : (ins : Int) + n1 < l / 2 := by omega
    have HV : Hid (wrap64 (2 * ((l : Int) / 2 + ga) + bits .and .i64 (l : Int) 1) = (mvJ ins n1 la ga l : Nat)) := Lib.hid (by
      rw [E1.out, IntWalk.wrap64_in _ (by omega)]
      unfold mvJ
      rw [if_pos c1]
      omega)
    generalize (mvJ ins n1 la ga l : Nat) = z at *
    go_wp2
    go_ret
    exact ⟨congrArg (fun x => Ending.returned (Value.int .i64 x)) HV.out, (Below.refl _ _).alloc (Nat.le_refl _) _⟩
  · have c1' : ¬ (ins : Int) + n1 < l / 2 := by omega
    by_cases c2 : l / 2 > ins
    · have c2' : (ins : Int) < l / 2 := by omega
      have HV : Hid (wrap64 (2 * ((l : Int) / 2 + la) + bits .and .i64 (l : Int) 1) = (mvJ ins n1 la ga l : Nat)) := Lib.hid (by
        rw [E1.out, IntWalk.wrap64_in _ (by omega)]
        unfold mvJ
        rw [if_neg c1, if_pos c2]
        omega)
      generalize (mvJ ins n1 la ga l : Nat) = z at *
      go_wp2
      go_ret
      exact ⟨congrArg (fun x => Ending.returned (Value.int .i64 x)) HV.out, (Below.refl _ _).alloc (Nat.le_refl _) _⟩
    · have c2' : ¬ (ins : Int) < l / 2 := by omega
      have HV : Hid (wrap64 (2 * ((l : Int) / 2) + bits .and .i64 (l : Int) 1) = (mvJ ins n1 la ga l : Nat)) := Lib.hid (by
        rw [E1.out, IntWalk.wrap64_in _ (by omega)]
        unfold mvJ
        rw [if_neg c1, if_neg c2]
        omega)
      generalize (mvJ ins n1 la ga l : Nat) = z at *
      go_wp2
      go_ret
      exact ⟨congrArg (fun x => Ending.returned (Value.int .i64 x)) HV.out, (Below.refl _ _).alloc (Nat.le_refl _) _⟩

/-- graphs that are small -/
structure Small2 (a b : G) : Prop where
  ai : 0 ≤ a.ins ∧ a.ins ≤ 1000000000000
  bi : 0 ≤ b.ins ∧ b.ins ≤ 1000000000000
  a1 : a.n1 ≤ 1000000000000
  a2 : a.n2 ≤ 1000000000000
  b1 : b.n1 ≤ 1000000000000
  b2 : b.n2 ≤ 1000000000000

set_option maxHeartbeats 1000000 in
theorem movedOne_any (a b : G) (A1 A2 A3 B1 B2 B3 : Option Addr) (c1 c2 c3 d1 d2 d3 : Nat) (l : Nat) (w : World) (hs : Small2 a b) (hl : l ≤ 1000000000000) :
    Calls Try.prog 43 #[.agg #[.int .i64 a.ins, .slice A1 a.n1 c1, .slice A2 a.n2 c2, .slice A3 a.n3 c3], .agg #[.int .i64 b.ins, .slice B1 b.n1 d1, .slice B2 b.n2 d2, .slice B3 b.n3 d3], .int .i64 l] w fun e w' => e = .returned (.int .i64 (mv1 a b l)) ∧ Below w.heap.size w w' := by
  obtain ⟨⟨h1, h2⟩, ⟨h3, h4⟩, h5, h6, h7, h8⟩ := hs
  go_enter Try.func43, Try.ntmps43
  by_cases c : (l : Int) / 2 > a.ins + a.n1
  · have HV : Hid ((l : Int) + 2 * b.n1 = mv1 a b l) := Lib.hid (by unfold mv1; rw [if_pos c])
    generalize mv1 a b l = z at *
    go_wp2
    go_ret
    exact ⟨congrArg (fun x => Ending.returned (Value.int .i64 x)) HV.out, ((Below.refl _ _).alloc (Nat.le_refl _) _).alloc (by simp) _⟩
  · have HV : Hid ((l : Int) = mv1 a b l) := Lib.hid (by unfold mv1; rw [if_neg c])
    generalize mv1 a b l = z at *
    go_wp2
    go_ret
    exact ⟨congrArg (fun x => Ending.returned (Value.int .i64 x)) HV.out, ((Below.refl _ _).alloc (Nat.le_refl _) _).alloc (by simp) _⟩

set_option maxHeartbeats 1000000 in
theorem moved_any (a b : G) (A1 A2 A3 B1 B2 B3 : Option Addr) (c1 c2 c3 d1 d2 d3 : Nat) (l : Nat) (w : World) (hs : Small2 a b) (hl : l ≤ 1000000000000) :
    Calls Try.prog 44 #[.agg #[.int .i64 a.ins, .slice A1 a.n1 c1, .slice A2 a.n2 c2, .slice A3 a.n3 c3], .agg #[.int .i64 b.ins, .slice B1 b.n1 d1, .slice B2 b.n2 d2, .slice B3 b.n3 d3], .int .i64 l] w fun e w' => e = .returned (.int .i64 (mv2 a b l)) ∧ Below w.heap.size w w' := by
  obtain ⟨⟨h1, h2⟩, ⟨h3, h4⟩, h5, h6, h7, h8⟩ := hs
  go_enter Try.func44, Try.ntmps44
  by_cases c : (l : Int) / 2 ≤ b.ins
  · have HV : Hid (mv2 a b l = l) := Lib.hid (by unfold mv2; rw [if_pos c])
    generalize mv2 a b l = z at *
    go_wp2
    go_ret
    refine ⟨congrArg (fun x => Ending.returned (Value.int .i64 x)) ?_, ((Below.refl _ _).alloc (Nat.le_refl _) _).alloc (by simp) _⟩
    rw [HV.out]
    omega
  · by_cases c' : (l : Int) / 2 ≤ b.ins + b.n1
    · have HV : Hid (mv2 a b l = l + 2 * a.n1) := Lib.hid (by unfold mv2; rw [if_neg c, if_pos c'])
      generalize mv2 a b l = z at *
      go_wp2
      go_ret
      refine ⟨congrArg (fun x => Ending.returned (Value.int .i64 x)) ?_, ((Below.refl _ _).alloc (Nat.le_refl _) _).alloc (by simp) _⟩
      rw [HV.out]
      omega
    · have HV : Hid (mv2 a b l = l + 2 * (a.n1 + a.n2)) := Lib.hid (by unfold mv2; rw [if_neg c, if_neg c'])
      generalize mv2 a b l = z at *
      go_wp2
      go_ret
      refine ⟨congrArg (fun x => Ending.returned (Value.int .i64 x)) ?_, ((Below.refl _ _).alloc (Nat.le_refl _) _).alloc (by simp) _⟩
      rw [HV.out]
      omega

/-- the program's joiner moves as the reference does -/
theorem mvJ_one (a b : G) (i n l : Nat) (hi : a.ins = i) (hn : a.n1 = n) : ((mvJ i n 0 b.n1 l : Nat) : Int) = mv1 a b l := by
  unfold mvJ mv1
  rw [hi, hn]
  by_cases c : l / 2 > i + n
  · rw [if_pos c, if_pos (by omega)]; omega
  · have c' : ¬ ((l : Int) / 2 > (i : Int) + (n : Int)) := by omega
    rw [if_neg c, if_neg c']; split <;> omega
theorem mvJ_two (a b : G) (i l : Nat) (hi : b.ins = i) : ((mvJ i b.n1 a.n1 (a.n1 + a.n2) l : Nat) : Int) = mv2 a b l := by
  unfold mvJ mv2
  rw [hi]
  by_cases c : l / 2 > i + b.n1
  · rw [if_pos c, if_neg (by omega), if_neg (by omega)]; omega
  · rw [if_neg c]
    by_cases c2 : l / 2 > i
    · have d1 : ¬ ((l : Int) / 2 ≤ (i : Int)) := by omega
      have d2 : (l : Int) / 2 ≤ (i : Int) + b.n1 := by omega
      rw [if_pos c2, if_neg d1, if_pos d2]; omega
    · have d1 : (l : Int) / 2 ≤ (i : Int) := by omega
      rw [if_neg c2, if_pos d1]
end Go.Proofs.Ytkanekacjefcbaa
