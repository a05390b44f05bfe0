/- aiger.first and aiger.head: the first line goes into the builder. Conditions: as of aiger.lines; the graph's numbers are small. -/
import Derived.Test.YthmjbenofpbmbaaDoorLns
import Derived.Test.YthmjbenofpbmbaaDoorPrG
import Derived.Test.YthmjbenofpbmbaaDoorDrawn2
import Derived.Deep.DeepCutAuto
import Derived.IntWalk
namespace Go.Proofs.YthmjbenofpbmbaaDoor
open Go.RowKit

set_option maxHeartbeats 400000 in
theorem aigerFirst_any (ins : Int) (A1 A2 A3 : Option Addr) (n1 n2 n3 c1 c2 c3 : Nat) (w : World) (h0 : 0 ≤ ins) (h1 : ins ≤ 60000) (hn1 : n1 ≤ 1000000000000000) :
    Calls Tryd.prog 29 #[.agg #[.int .i64 ins, .slice A1 n1 c1, .slice A2 n2 c2, .slice A3 n3 c3]] w fun e w' => e = .returned (.int .i64 (1 + ins + n1)) ∧ Below w.heap.size w w' := by
  go_enter Tryd.func29, Tryd.ntmps29
  go_wp2
  go_ret
  exact ⟨rfl, (Below.refl _ _).alloc (Nat.le_refl _) _⟩

theorem Nums.new (w : World) (cs : Array Value) (n : Nat) (X : Nat → Int) (h : ∀ k, k < n → cs[k]? = some (.int .i64 (X k))) : Nums (w.alloc (.cells cs 3)) w.heap.size n X :=
  ⟨cs, 3, (0, 0), by show (w.heap.push _)[w.heap.size]? = _; simp, by decide, h⟩

/-- lines at a list of numbers -/
theorem lines_list (S B b : Nat) (l : List UInt8) (L : List Int) (cs : Array Value) (c n nb : Nat) (v : World) (hnb : nb = v.heap.size) (hn : L.length = n) (hcs : ∀ k, k < n → cs[k]? = some (.int .i64 (L.getD k 0))) (h : Lib.IsBuilderF 37 5 B b (Lib.byteCells l) v)
    (hX : ∀ x ∈ L, -9223372036854775808 ≤ x ∧ x ≤ 9223372036854775807) (ht : Tab S v) (hS : S ≤ B) (hl : n ≤ 1000000) (hlen : l.length ≤ 70368744177664) (hBw : B ≤ v.heap.size) :
    Calls Tryd.prog 28 #[.pointer (some ⟨b, 0, none⟩), .slice (some ⟨nb, 0, none⟩) n c] (v.alloc (.cells cs 3)) fun e w' => e = .returned (.tuple #[]) ∧ Wrote B b (l ++ lineOf L) v w' := by
  subst hn; subst hnb
  have hb := builder_lt h
  have hk := (Below.refl v.heap.size v).alloc (Nat.le_refl _) (.cells cs 3)
  refine (lines_any S B b v.heap.size l L.length c (fun k => L.getD k 0) _ (builder_kept h hk) (Nums.new v cs _ _ hcs) (by omega) (fun k hk => ?_) (ht.next hk (by omega)) hS hl hlen (by simp; omega)).mono ?_
  · have e : L.getD k 0 = L[k] := by rw [List.getD_eq_getElem?_getD, List.getElem?_eq_getElem hk]; rfl
    rw [e]; exact hX _ (List.getElem_mem hk)
  · rintro e w' ⟨rfl, hw⟩
    exact ⟨rfl, ((Wrote.refl h).alloc hBw _).trans (hw.text (by simp [lineOf]))⟩

set_option maxHeartbeats 2000000 in
set_option maxRecDepth 100000 in
theorem head_any (S B b : Nat) (l word : List UInt8) (g : G) (A1 A2 A3 : Option Addr) (c1 c2 c3 : Nat) (w : World) (hs : g.Small) (h : Lib.IsBuilderF 37 5 B b (Lib.byteCells l) w)
    (ht : Tab S w) (hS : S ≤ B) (hlen : l.length ≤ 1000) (hw : word.length ≤ 100) (hBw : B ≤ w.heap.size) :
    Calls Tryd.prog 27 #[.pointer (some ⟨b, 0, none⟩), .string (str word), .agg #[.int .i64 g.ins, .slice A1 g.n1 c1, .slice A2 g.n2 c2, .slice A3 g.n3 c3]] w fun e w' => e = .returned (.tuple #[]) ∧ Wrote B b (l ++ g.headT word) w w' := by
  have i0 := hs.v.i0; have i1 := hs.v.i1; have i2 := hs.v.n; have i3 := hs.v.n1; have i4 := hs.v.n3
  have HT := Lib.hid ht
  have hcat := run_catc (P := Tryd.prog) word [32] (by simp; omega)
  go_enter Tryd.func27, Tryd.ntmps27
  have hbs := builder_lt h
  have qa := BoxT.new w [.int .i64 g.ins, .slice A1 g.n1 c1, .slice A2 g.n2 c2, .slice A3 g.n3 c3] 31
  have HW0 := Lib.hid ((Wrote.refl h).alloc hBw (.cells #[.int .i64 g.ins, .slice A1 g.n1 c1, .slice A2 g.n2 c2, .slice A3 g.n3 c3] 31))
  go_wp2_with fail
  generalize w.alloc (.cells #[.int .i64 g.ins, .slice A1 g.n1 c1, .slice A2 g.n2 c2, .slice A3 g.n3 c3] 31) = w1 at *
  have hs1 : B ≤ w1.heap.size := Nat.le_trans hBw HW0.out.2.1.size
  refine (writeString_any B b _ (word ++ [32]) _ HW0.out.1 (by simp; omega) hs1).mono ?_
  rintro e w2 ⟨rfl, k2⟩
  replace qa := qa.wrote k2 (by omega) (by decide)
  have HW2 := Lib.hid (HW0.out.trans k2)
  have hs2 : B ≤ w2.heap.size := Nat.le_trans hBw HW2.out.2.1.size
  clear k2
  obtain ⟨g0, g1, g2, g3⟩ := qa.at_.four
  go_upto_region 2 with (fail)
  refine wp_region_z (fun w' => w'.cell? ⟨w.heap.size, 0, none⟩ = some (.int .i64 g.ins) ∧ w'.cell? ⟨w.heap.size, 1, none⟩ = some (.slice A1 g.n1 c1) ∧ w'.cell? ⟨w.heap.size, 2, none⟩ = some (.slice A2 g.n2 c2) ∧ w'.cell? ⟨w.heap.size, 3, none⟩ = some (.slice A3 g.n3 c3)) [0, 1, 3, 4, 5, 8, 9, 10, 11, 12, 13, 14, 15, 16, 17, 18] [20] (by kernel_rfl) (by kernel_rfl) (by kernel_rfl) (by rfl) (fun _ _ _ _ e h => ⟨e.symm.trans h.1, h.2⟩) ⟨g0, g1, g2, g3⟩ ?_
  iterate 16
    refine Heads.step (v := ?_) rfl (by rfl) (fun W hW => ?_) ?_
    rotate_left
    · (obtain ⟨s0, s1, s2, s3⟩ := hW; go_simp; try with_reducible rfl)
  have e1 : IntKind.i64.wrap (1 + g.ins + (g.n1 : Int) + (g.n2 : Int)) = 1 + g.ins + g.n1 + g.n2 := IntWalk.i64_in _ (by omega)
  have e2 : IntKind.i64.wrap (1 + g.ins + (g.n1 : Int) + (g.n2 : Int) - 1) = 1 + g.ins + g.n1 + g.n2 - 1 := IntWalk.i64_in _ (by omega)
  refine AnyZ.one (i := 2) (by kernel_rfl) rfl (fun K hK => ?_)
  go_simp
  refine (aigerFirst_any _ _ _ _ _ _ _ _ _ _ _ i0 i1 (by omega)).mono ?_
  rintro e w3 ⟨rfl, k3⟩
  replace k3 : Below w2.heap.size w2 w3 := ⟨k3.os, k3.tape, k3.output, k3.size, k3.block⟩
  replace qa := qa.below k3
  have HW3 := Lib.hid (HW2.out.call k3 hs2)
  have hs3 : B ≤ w3.heap.size := Nat.le_trans hBw HW3.out.2.1.size
  clear k3 g0 g1 g2 g3
  obtain ⟨g0, g1, g2, g3⟩ := qa.at_.four
  refine hK _ _ (fun _ => ⟨g0, g1, g2, g3⟩) ?_
  clear hK
  refine AnyZ.one (i := 6) (by kernel_rfl) rfl (fun K hK => ?_)
  go_simp
  refine hK _ _ (fun _ => ⟨g0, g1, g2, g3⟩) ?_
  clear hK
  refine AnyZ.one (i := 7) (by kernel_rfl) rfl (fun K hK => ?_)
  go_simp
  refine hK _ _ (fun _ => ⟨g0, g1, g2, g3⟩) ?_
  clear hK
  refine AnyZ.one (i := 19) (by kernel_rfl) rfl (fun K hK => ?_)
  go_simp
  refine hK _ _ (fun _ => (qa.below ((Below.refl _ _).alloc (Nat.le_refl _) _)).at_.four) ?_
  clear hK
  clear e1 e2
  refine AnyZ.one (i := 20) (by kernel_rfl) rfl (fun K hK => ?_)
  go_simp
  refine (lines_list S B b _ [1 + g.ins + g.n1 + g.n2 - 1, g.ins, g.n1, g.n3, g.n2] _ _ 5 _ w3 rfl rfl (fun k hk => ?_) HW3.out.1 (fun x hx => by simp at hx; rcases hx with rfl | rfl | rfl | rfl | rfl <;> omega) (HT.out.next HW3.out.2.1 hS) hS (by omega) (by simp; omega) hs3).mono ?_
  · obtain rfl | rfl | rfl | rfl | rfl : k = 0 ∨ k = 1 ∨ k = 2 ∨ k = 3 ∨ k = 4 := by omega
    all_goals rfl
  rintro e w4 ⟨rfl, k4⟩
  have HW4 := Lib.hid ((HW3.out.trans k4).text (l' := l ++ g.headT word) (by simp [G.headT]))
  clear k4
  refine hK _ _ (fun h => by cases h) (AnyZ.done (by kernel_rfl) ?_)
  clear hK
  go_wp2_with fail
  go_end0
  exact ⟨rfl, HW4.out⟩
end Go.Proofs.YthmjbenofpbmbaaDoor
