/- Is a number a node of a width? On both sides, walked. Conditions: the netlist lies in memory. -/
import Derived.Test.YtmbcfondglhiiaaNetW
import Derived.Test.YtmbcfondglhiiaaDrawnW
namespace Go.Proofs.Ytmbcfondglhiiaa
open Go.RowKit

theorem BoxAt.six {w : World} {b : Nat} {v0 v1 v2 v3 v4 v5 : Value} (h : BoxAt w b [v0, v1, v2, v3, v4, v5]) :
    w.cell? ⟨b, 0, none⟩ = some v0 ∧ w.cell? ⟨b, 1, none⟩ = some v1 ∧ w.cell? ⟨b, 2, none⟩ = some v2 ∧ w.cell? ⟨b, 3, none⟩ = some v3 ∧ w.cell? ⟨b, 4, none⟩ = some v4 ∧ w.cell? ⟨b, 5, none⟩ = some v5 :=
  ⟨h 0 _ rfl, h 1 _ rfl, h 2 _ rfl, h 3 _ rfl, h 4 _ rfl, h 5 _ rfl⟩

def inB (g : Nl) (i : Int) : Bool := decide (0 ≤ i) && decide (i < g.nn)
def isB (g : Nl) (i wd : Int) : Bool := inB g i && (wd == 0 || g.W i.toNat == wd)
def wnB (g : Nl) (i wd : Int) : Bool := inB g i && g.W i.toNat == wd

theorem is_any (g : Nl) (p : Pl) (bn : Nat) (i wd : Int) (w : World) (hb : w.cell? ⟨bn, 1, none⟩ = some (.slice p.A1 g.nn p.c1)) (hn : NodesAt g w p.A1 p.TA p.TC) :
    Calls Try.prog 11 #[.int .i64 i, .int .i64 wd, .pointer (some ⟨bn, 0, none⟩)] w fun e w' => e = .returned (.bool (isB g i wd)) ∧ w = w' := by
  by_cases h0 : 0 ≤ i
  · by_cases h1 : i < g.nn
    · obtain ⟨b, o, hA, _, x1, _⟩ := hn.1.at4 (k := i.toNat) (by omega)
      simp only [qu] at x1
      rw [hA] at hb
      have e : isB g i wd = (wd == 0 || g.W i.toNat == wd) := by simp [isB, inB, h0, h1]
      rw [e]
      generalize g.W i.toNat = W at *
      go_enter Try.func11, Try.ntmps11
      go_wp2
      all_goals (go_ret; simp_all)
    · have e : isB g i wd = false := by simp [isB, inB]; omega
      rw [e]
      go_enter Try.func11, Try.ntmps11
      go_wp2
      go_ret
      exact ⟨rfl, rfl⟩
  · have e : isB g i wd = false := by simp [isB, inB]; omega
    rw [e]
    go_enter Try.func11, Try.ntmps11
    go_wp2
    go_ret
    exact ⟨rfl, rfl⟩

theorem wideNode_any (g : Nl) (p : Pl) (i wd : Int) (w : World) (hn : NodesAt g w p.A1 p.TA p.TC) :
    Calls Try.prog 15 #[.agg #[.slice p.A0 g.n0 p.c0, .slice p.A1 g.nn p.c1, .slice p.A2 g.nr p.c2, .slice p.A3 g.nm p.c3, .slice p.A4 g.nw p.c4, .slice p.A5 g.no p.c5], .int .i64 i, .int .i64 wd] w fun e w' => e = .returned (.bool (wnB g i wd)) ∧ Below w.heap.size w w' := by
  have hbel : Below w.heap.size w (w.alloc (.cells #[.slice p.A0 g.n0 p.c0, .slice p.A1 g.nn p.c1, .slice p.A2 g.nr p.c2, .slice p.A3 g.nm p.c3, .slice p.A4 g.nw p.c4, .slice p.A5 g.no p.c5] 28)) := (Below.refl _ _).alloc (Nat.le_refl _) _
  have HB := Lib.hid hbel
  have hnq := hn.keeps (Keeps.of_below hbel)
  by_cases h0 : 0 ≤ i
  · by_cases h1 : i < g.nn
    · obtain ⟨b, o, hA, _, x1, _⟩ := hnq.1.at4 (k := i.toNat) (by omega)
      simp only [qu] at x1
      have e : wnB g i wd = (g.W i.toNat == wd) := by simp [wnB, inB, h0, h1]
      rw [e]
      generalize g.W i.toNat = W at *
      clear hn hnq hbel
      go_enter Try.func15, Try.ntmps15
      rw [hA]
      rw [hA] at HB x1
      go_wp2
      all_goals (go_ret; exact ⟨by simp_all, HB.out⟩)
    · have e : wnB g i wd = false := by simp [wnB, inB]; omega
      rw [e]
      clear hnq hbel
      go_enter Try.func15, Try.ntmps15
      go_wp2
      go_ret
      exact ⟨rfl, HB.out⟩
  · have e : wnB g i wd = false := by simp [wnB, inB]; omega
    rw [e]
    clear hnq hbel
    go_enter Try.func15, Try.ntmps15
    go_wp2
    go_ret
    exact ⟨rfl, HB.out⟩
end Go.Proofs.Ytmbcfondglhiiaa
