/- The reference's Hashed, walked at a graph without needless gates: it is told to be one. Conditions: the graph is plain and lies in memory. -/
import Derived.Test.YtdhgbikmaglgpaaHashP
import Derived.Test.YtdhgbikmaglgpaaSameG
import Derived.Test.YtdhgbikmaglgpaaCleanRef
namespace Go.Proofs.Ytdhgbikmaglgpaa
open Go.RowKit

set_option maxHeartbeats 2000000 in
theorem hashed_ref (g : G) (A1 A2 A3 : Option Addr) (c1 c2 c3 : Nat) (w : World) (hg : g.At w A1 A2 A3) (hn : g.n2 ≤ 60000) (hp : g.Plain) (hv : ∀ j, j < g.n2 → g.X j ≤ 1000000) :
    Calls Try.prog 46 #[.agg #[.int .i64 g.ins, .slice A1 g.n1 c1, .slice A2 g.n2 c2, .slice A3 g.n3 c3]] w fun e w' => e = .returned (.bool true) ∧ Below w.heap.size w w' := by
  go_enter Try.func46, Try.ntmps46
  go_upto_region 1 with (fail)
  have hbel : Below w.heap.size w (w.alloc (.cells #[.int .i64 g.ins, .slice A1 g.n1 c1, .slice A2 g.n2 c2, .slice A3 g.n3 c3] 26)) := (Below.refl _ _).alloc (Nat.le_refl _) _
  have hbx := BoxAt.new w [.int .i64 g.ins, .slice A1 g.n1 c1, .slice A2 g.n2 c2, .slice A3 g.n3 c3] 26
  have hg1 := hg.keeps (Keeps.alloc w (.cells #[.int .i64 g.ins, .slice A1 g.n1 c1, .slice A2 g.n2 c2, .slice A3 g.n3 c3] 26))
  generalize w.alloc (.cells #[.int .i64 g.ins, .slice A1 g.n1 c1, .slice A2 g.n2 c2, .slice A3 g.n3 c3] 26) = w1 at *
  have HB1 := Lib.hid hbel; clear hbel
  go_wp2_with fail
  go_loopw [3] (fun i wr => ∃ k : Nat, k ≤ g.n2 ∧ i = .int .i64 k ∧ Below w1.heap.size w1 wr) (fun i _ => g.n2 - (intOf i).toNat)
  case atStart => exact ⟨0, by omega, rfl, Below.refl _ _⟩
  case round =>
    obtain ⟨k, hk, rfl, HO⟩ := hrel
    obtain ⟨g0, g1, g2, g3⟩ := (hbx.keeps (Keeps.of_below HO)).four
    have hgr := hg1.keeps (Keeps.of_below HO)
    have HOH := Lib.hid HO; clear HO
    by_cases hlt : k < g.n2
    · obtain ⟨b1, o1, rfl, x0, x1⟩ := hgr.ands.at2 hlt
      simp only [two] at x0 x1
      obtain ⟨p0, p1, p2⟩ := hp.ok k hlt
      have p3 := hv k hlt
      obtain ⟨e1, _, _⟩ := halfs (x := g.X k) (by omega) (by omega)
      obtain ⟨e2, _, _⟩ := halfs (x := g.Y k) (by omega) (by omega)
      go_upto_region 5 with (fail)
      have q := BoxAt.new wr [.int .i64 (g.X k), .int .i64 (g.Y k)] 59
      have hOq : Below w1.heap.size w1 (wr.alloc (.cells #[.int .i64 (g.X k), .int .i64 (g.Y k)] 59)) := HOH.out.alloc HOH.out.size _
      generalize wr.alloc (.cells #[.int .i64 (g.X k), .int .i64 (g.Y k)] 59) = wq at *
      clear HOH x0 x1 g0 g1 g2 g3
      generalize wr.heap.size = bq at *
      have q0 : wq.cell? ⟨bq, 0, none⟩ = some (.int .i64 (g.X k)) := q 0 _ rfl
      have q1 : wq.cell? ⟨bq, 1, none⟩ = some (.int .i64 (g.Y k)) := q 1 _ rfl
      have HOQ := Lib.hid hOq
      have hbq := hbx.keeps (Keeps.of_below hOq)
      have hgq := hg1.keeps (Keeps.of_below hOq)
      clear hOq
      have p5 : ¬ g.Y k < 2 := by omega
      have p6 : ¬ g.X k ≤ g.Y k := by omega
      have p7 : (g.X k / 2 == g.Y k / 2) = false := by simpa using p2
      go_wp2_with fail
      go_loopw [5] (fun i wr => ∃ m : Nat, m ≤ k ∧ i = .int .i64 m ∧ Drawn wq wr) (fun i _ => k - (intOf i).toNat)
      case atStart => exact ⟨0, by omega, rfl, ⟨0, rfl⟩⟩
      case round =>
        obtain ⟨m, hm, rfl, HD⟩ := hrel
        obtain ⟨g0, g1, g2, g3⟩ := (hbq.keeps HD.keeps).four
        have q0 := HD.keeps _ _ q0
        have q1 := HD.keeps _ _ q1
        by_cases hlm : m < k
        · obtain ⟨b2, o2, hAe, y0, y1⟩ := (hgq.keeps HD.keeps).ands.at2 (show m < g.n2 by omega)
          obtain ⟨rfl, rfl⟩ : b1 = b2 ∧ o1 = o2 := by simpa using hAe
          simp only [two] at y0 y1
          have hm2 : (m : Int) < g.n2 := by omega
          have hap := hp.apart k hlt m hlm
          have p8 : (g.X m == g.X k && g.Y m == g.Y k) = false := by simpa using hap
          go_wp2_with fail
          go_quiet (fail)
          go_wp2_with fail
          exact ⟨⟨m + 1, by omega, by go_num, HD.more _⟩, by simp [intOf]; omega⟩
        · obtain rfl : m = k := by omega
          have hOf := HOQ.out.trans (HD.below (B := w1.heap.size))
          go_wp2_with fail
          go_roundw
          case rel => exact ⟨m + 1, by omega, by go_num, hOf⟩
          case measure => simp [intOf]; omega
    · obtain rfl : k = g.n2 := by omega
      go_wp2_with fail
      go_ret
      exact ⟨rfl, HB1.out.trans (HOH.out.mono HB1.out.size)⟩
end Go.Proofs.Ytdhgbikmaglgpaa
