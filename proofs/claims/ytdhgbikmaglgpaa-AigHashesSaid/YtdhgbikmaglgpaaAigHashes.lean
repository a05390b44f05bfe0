/- AigHashes, its walk: whatever graph and states come in, the law returns true: of a valid graph aig.Hash makes one without needless gates, none twice, no more than before, that shows the same at each state. Condition: the arguments lie in memory and are within the form's reach. -/
import Derived.Test.YtdhgbikmaglgpaaHashAig
import Derived.Test.YtdhgbikmaglgpaaHashedR
import Derived.Test.YtdhgbikmaglgpaaAlike
import Derived.Test.YtdhgbikmaglgpaaAigRuns
namespace Go.Proofs.Ytdhgbikmaglgpaa
open Go.RowKit

theorem G.Valid.fits {g : G} (hv : g.Valid) : g.Fits := ⟨by have := hv.n1; omega, by have := hv.n; have := hv.i0; omega, by have := hv.n3; omega, by have := hv.i0; have := hv.i1; omega⟩
theorem TOk.shows {g : G} {s : HS} {T : Nat → Int} (hv : g.Valid) (h : TOk g s T g.n2) : g.Shows (g.hash s T) := ⟨rfl, rfl, rfl, fun _ _ => rfl, fun inp st _ hk => (h.latch hv inp st hk).symm, fun inp st _ hk => (h.out hv inp st hk).symm⟩

set_option maxHeartbeats 1000000 in
theorem hashed_any (g : G) (A1 A2 A3 : Option Addr) (c1 c2 c3 : Nat) (At : Option Addr) (nt ct : Nat) (TL : Nat → Nat) (T : Nat → Nat → Bool) (w : World) (hg : g.At w A1 A2 A3) (hfit : g.Fits)
    (ht : Mat w At nt TL T) (hnt : nt * 24 ≤ 140737488351232) :
    Calls Try.prog 20 #[.agg #[.int .i64 g.ins, .slice A1 g.n1 c1, .slice A2 g.n2 c2, .slice A3 g.n3 c3], .slice At nt ct] w fun e w' => e = .returned (.bool true) ∧ Below w.heap.size w w' := by
  go_enter Try.func20, Try.ntmps20
  go_wp2_with fail
  refine (refValid_any g _ _ _ _ _ _ _ (hg.keeps (Keeps.alloc _ _)) hfit).mono ?_
  rintro e w1 ⟨rfl, hb1⟩
  have HB1 := Lib.hid (Below.alloc_then hb1)
  have hbox := (BoxAt.new w [.int .i64 g.ins, .slice A1 g.n1 c1, .slice A2 g.n2 c2, .slice A3 g.n3 c3] 26).keeps (Keeps.of_below hb1)
  have hs1 := hb1.size
  simp at hs1
  clear hb1
  by_cases hv : g.Valid
  · rw [tf_yes hv]
    obtain ⟨g0, g1, g2, g3⟩ := hbox.four
    go_wp2_with fail
    refine (hashAig_any g A1 A2 A3 c1 c2 c3 _ (hg.keeps (Keeps.of_below HB1.out)) hv).mono ?_
    rintro e w2 ⟨s, U, hok, B1, B2, B3, d1, d2, d3, rfl, hh, hb2⟩
    have hvh := hok.valid hv
    have hsh := hok.shows hv
    have hpl := hok.plain
    have hle : (g.hash s U).n2 ≤ g.n2 := hok.m
    clear hok
    generalize g.hash s U = h at *
    have HB2 := Lib.hid (Below.then_call HB1.out hb2 (by omega))
    have hbox2 := hbox.keeps (Keeps.of_below hb2)
    have hs2 := hb2.size
    have hnot : ¬ ((g.n2 : Int) < h.n2) := by omega
    have VH := Lib.hid hvh; have SH := Lib.hid hsh; have PL := Lib.hid hpl; have HV := Lib.hid hv
    clear hb2 g0 g1 g2 g3 hvh hsh hpl hle hv
    go_upto_region 5 with (fail)
    have hbq := BoxAt.new w2 [.int .i64 h.ins, .slice B1 h.n1 d1, .slice B2 h.n2 d2, .slice B3 h.n3 d3] 26
    have hbelq : Below w2.heap.size w2 (w2.alloc (.cells #[.int .i64 h.ins, .slice B1 h.n1 d1, .slice B2 h.n2 d2, .slice B3 h.n3 d3] 26)) := (Below.refl _ _).alloc (Nat.le_refl _) _
    generalize w2.alloc (.cells #[.int .i64 h.ins, .slice B1 h.n1 d1, .slice B2 h.n2 d2, .slice B3 h.n3 d3] 26) = wq at *
    have HBq := Lib.hid (Below.then_call HB2.out hbelq (by omega))
    have hbx := hbox2.keeps (Keeps.of_below hbelq)
    have hhq := hh.keeps (Keeps.of_below hbelq)
    have hsq := hbelq.size
    clear hbelq hbox2 hh HB2
    generalize w2.heap.size = b4 at *
    obtain ⟨p0, p1, p2, p3⟩ := hbq.four
    go_wp2_with fail
    refine (refValid_any h _ _ _ _ _ _ _ hhq VH.out.fits).mono ?_
    rintro e w3 ⟨rfl, hb3⟩
    rw [tf_yes VH.out]
    have HB3 := Lib.hid (Below.then_call HBq.out hb3 (by omega))
    have hbx3 := hbx.keeps (Keeps.of_below hb3)
    have hbq3 := hbq.keeps (Keeps.of_below hb3)
    have hh3 := hhq.keeps (Keeps.of_below hb3)
    have hs3 := hb3.size
    clear hb3 hbx hbq hhq p0 p1 p2 p3
    obtain ⟨p0, p1, p2, p3⟩ := hbq3.four
    obtain ⟨g0, g1, g2, g3⟩ := hbx3.four
    go_wp2_with fail
    refine (hashed_ref h B1 B2 B3 d1 d2 d3 _ hh3 (by have := VH.out.n; have := VH.out.i0; omega) PL.out (fun j hj => by have := VH.out.ands j hj; have := VH.out.nums; have := VH.out.i0; unfold G.AndOk at *; omega)).mono ?_
    rintro e w4 ⟨rfl, hb4⟩
    have HB4 := Lib.hid (Below.then_call HB3.out hb4 (by omega))
    have hbx4 := hbx3.keeps (Keeps.of_below hb4)
    have hbq4 := hbq3.keeps (Keeps.of_below hb4)
    have hh4 := hh3.keeps (Keeps.of_below hb4)
    have hs4 := hb4.size
    clear hb4 hbx3 hbq3 hh3 p0 p1 p2 p3 g0 g1 g2 g3
    obtain ⟨p0, p1, p2, p3⟩ := hbq4.four
    obtain ⟨g0, g1, g2, g3⟩ := hbx4.four
    go_wp2_with fail
    refine (alike_any g h A1 A2 A3 B1 B2 B3 c1 c2 c3 d1 d2 d3 At nt ct TL T _ (hg.keeps (Keeps.of_below HB4.out)) hh4 HV.out VH.out SH.out (ht.keeps (Keeps.of_below HB4.out)) hnt).mono ?_
    rintro e w5 ⟨rfl, hb5⟩
    have HB5 := Lib.hid (Below.then_call HB4.out hb5 (by omega))
    clear hb5 p0 p1 p2 p3 g0 g1 g2 g3
    go_wp2_with fail
    go_ret
    exact ⟨rfl, HB5.out⟩
  · rw [tf_no hv]
    go_wp2_with fail
    go_ret
    exact ⟨rfl, HB1.out⟩

theorem lit_mat3 (w : World) : Mat (((w.alloc (.cells #[.bool true, .bool true, .bool false] 4)).alloc (.cells #[.bool false] 4)).alloc (.cells #[.slice (some ⟨w.heap.size, 0, none⟩) 3 3, .slice (some ⟨w.heap.size + 1, 0, none⟩) 1 1] 31))
    (some ⟨w.heap.size + 1 + 1, 0, none⟩) 2 (at3 3 1 1) (fun i k => if i = 0 then at3 true true false k else false) := by
  refine ⟨at3 (some ⟨w.heap.size, 0, none⟩) (some ⟨w.heap.size + 1, 0, none⟩) none, at3 3 1 1, fun _ => ⟨_, _, rfl, fun k hk => ?_⟩, fun i hi => ?_⟩
  · obtain rfl | rfl : k = 0 ∨ k = 1 := by omega
    · simp [at3, go_sem]
    · simp [at3, go_sem]
  · obtain rfl | rfl : i = 0 ∨ i = 1 := by omega
    · intro _
      refine ⟨_, _, rfl, fun k hk => Keeps.alloc _ _ _ _ (Keeps.alloc _ _ _ _ ?_)⟩
      have hk' : k < 3 := hk
      obtain rfl | rfl | rfl : k = 0 ∨ k = 1 ∨ k = 2 := by omega
      · exact BoxAt.new w [.bool true, .bool true, .bool false] _ 0 _ rfl
      · exact BoxAt.new w [.bool true, .bool true, .bool false] _ 1 _ rfl
      · exact BoxAt.new w [.bool true, .bool true, .bool false] _ 2 _ rfl
    · intro _
      refine ⟨_, _, rfl, fun k hk => Keeps.alloc _ _ _ _ ?_⟩
      have hk' : k < 1 := hk
      obtain rfl : k = 0 := by omega
      simp [go_sem]

set_option maxHeartbeats 1000000 in
theorem aigHashes_walk (g : G) (A1 A2 A3 : Option Addr) (c1 c2 c3 : Nat) (At : Option Addr) (nt ct : Nat) (TL : Nat → Nat) (T : Nat → Nat → Bool) (w : World) (hg : g.At w A1 A2 A3) (hfit : g.Fits)
    (ht : Mat w At nt TL T) (hnt : nt * 24 ≤ 140737488351232) (_htl : ∀ i, i < nt → TL i ≤ 140737488351232) :
    Calls Try.prog 6 #[.agg #[.int .i64 g.ins, .slice A1 g.n1 c1, .slice A2 g.n2 c2, .slice A3 g.n3 c3], .slice At nt ct] w fun e w' => e = .returned (.bool true) ∧ Below w.heap.size w w' := by
  go_enter Try.func6, Try.ntmps6
  go_wp2_with fail
  refine (tiny_any _).mono ?_
  rintro e w1 ⟨a1, a2, a3, d1, d2, d3, rfl, ht1, hb1⟩
  have HB1 := Lib.hid (Below.alloc_then hb1)
  have hbox := (BoxAt.new w [.int .i64 g.ins, .slice A1 g.n1 c1, .slice A2 g.n2 c2, .slice A3 g.n3 c3] 26).keeps (Keeps.of_below hb1)
  have hs1 := hb1.size
  simp at hs1
  clear hb1
  go_wp2_with fail
  have hk3 : Below w1.heap.size w1 (((w1.alloc (.cells #[.bool true, .bool true, .bool false] 4)).alloc (.cells #[.bool false] 4)).alloc (.cells #[.slice (some ⟨w1.heap.size, 0, none⟩) 3 3, .slice (some ⟨w1.heap.size + 1, 0, none⟩) 1 1] 31)) :=
    (((Below.refl _ _).alloc (Nat.le_refl _) _).alloc (by simp) _).alloc (by simp; omega) _
  refine (hashed_any tinyG _ _ _ _ _ _ _ 2 _ (at3 3 1 1) (fun i k => if i = 0 then at3 true true false k else false) _ (ht1.keeps (Keeps.of_below hk3)) tiny_fits (lit_mat3 w1) (by omega)).mono ?_
  rintro e w2 ⟨rfl, hb2⟩
  have hb2' : Below w1.heap.size w1 w2 := hk3.trans (hb2.mono hk3.size)
  have HB2 := Lib.hid (Below.then_call HB1.out hb2' (by omega))
  have hbox2 := hbox.keeps (Keeps.of_below hb2')
  have hs2 := hb2'.size
  clear hb2 hb2' hk3 hbox
  obtain ⟨g0, g1, g2, g3⟩ := hbox2.four
  go_wp2_with fail
  refine (hashed_any g A1 A2 A3 c1 c2 c3 At nt ct TL T _ (hg.keeps (Keeps.of_below HB2.out)) hfit (ht.keeps (Keeps.of_below HB2.out)) hnt).mono ?_
  rintro e w3 ⟨rfl, hb3⟩
  have HB3 := Lib.hid (Below.then_call HB2.out hb3 (by omega))
  clear hb3
  go_wp2_with fail
  go_ret
  exact ⟨rfl, HB3.out⟩

end Go.Proofs.Ytdhgbikmaglgpaa
