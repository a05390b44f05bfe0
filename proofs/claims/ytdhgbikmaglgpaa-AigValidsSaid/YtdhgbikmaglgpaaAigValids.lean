/- AigValids: whatever graph comes in, the law returns true and the graph reads as it did: aig.Valid says just what the reference says. No condition. -/
import Derived.Test.YtdhgbikmaglgpaaTiny
import Derived.Test.YtdhgbikmaglgpaaVAig
import Derived.ShutString
import Derived.ChangeOld
namespace Go.Proofs.Ytdhgbikmaglgpaa.aigValids
open Go.ChangeShapes Go.WideShapes Go.ChangeAt Go.RowKit
set_option linter.unusedVariables false

theorem own : ownKnob Try.prog.godebug = none := by kernel_rfl
theorem laidOut : laidOutB Try.prog = true := by kernel_rfl

set_option maxHeartbeats 400000 in
theorem walk (g : G) (A1 A2 A3 : Option Addr) (c1 c2 c3 : Nat) (w : World) (hg : g.At w A1 A2 A3) (hfit : g.Fits) :
    Calls Try.prog 3 #[.agg #[.int .i64 g.ins, .slice A1 g.n1 c1, .slice A2 g.n2 c2, .slice A3 g.n3 c3]] w fun e w' => e = .returned (.bool true) ∧ Below w.heap.size w w' := by
  go_enter Try.func3, Try.ntmps3
  go_wp2_with fail
  refine (tiny_any _).mono ?_
  rintro e w1 ⟨a1, a2, a3, d1, d2, d3, rfl, ht, hb1⟩
  have HB1 := Lib.hid (Below.alloc_then hb1)
  have hbox := (BoxAt.new w [.int .i64 g.ins, .slice A1 g.n1 c1, .slice A2 g.n2 c2, .slice A3 g.n3 c3] 26).keeps (Keeps.of_below hb1)
  have hg1 := hg.keeps (Keeps.below_alloc hb1)
  have hs1 := hb1.size
  simp at hs1
  clear hb1
  go_wp2_with fail
  refine (aigValid_any tinyG _ _ _ _ _ _ _ ht tiny_fits).mono ?_
  rintro e w2 ⟨rfl, hb2⟩
  rw [tf_yes tiny_valid]
  have HB2 := Lib.hid (Below.then_call HB1.out hb2 (by omega))
  have hbox2 := hbox.keeps (Keeps.of_below hb2)
  have hg2 := hg1.keeps (Keeps.of_below hb2)
  have hs2 := hb2.size
  clear hb2 hbox
  obtain ⟨g0, g1, g2, g3⟩ := hbox2.four
  go_wp2_with fail
  refine (aigValid_any g _ _ _ _ _ _ _ hg2 hfit).mono ?_
  rintro e w3 ⟨rfl, hb3⟩
  have HB3 := Lib.hid (Below.then_call HB2.out hb3 (by omega))
  have hbox3 := hbox2.keeps (Keeps.of_below hb3)
  have hg3 := hg2.keeps (Keeps.of_below hb3)
  have hs3 := hb3.size
  clear hb3 hbox2 g0 g1 g2 g3
  obtain ⟨g0, g1, g2, g3⟩ := hbox3.four
  go_wp2_with fail
  refine (refValid_any g _ _ _ _ _ _ _ hg3 hfit).mono ?_
  rintro e w4 ⟨rfl, hb4⟩
  have HB4 := Lib.hid (Below.then_call HB3.out hb4 (by omega))
  clear hb4
  go_wp2_with fail
  go_ret
  exact ⟨by simp, HB4.out⟩

set_option maxRecDepth 100000 in
theorem lifted (os : Os) (started : os.Started) (H : Type) (enc : TypeId × Value → H) :
    ReturnsInHanded {} Try.checked os 3 .any (Rows.aigValidsSpec.pre6 enc Try.prog Try.f3 Rows.aigValidsRow.domain false) (Rows.aigValidsSpec.post enc Try.prog Try.f3 false true false false) := by
  refine returnsInHanded_of_change_sized (C := Try.checked) own started (by kernel_rfl) Try.func3
    (ChangeSpec.witness6 (enc := enc) (C := Try.checked) false ⟨#[], #[.agg #[.int .i64 0, .slice none 0 0, .slice none 0 0, .slice none 0 0]], []⟩ 8 (by kernel_rfl) (by kernel_rfl) (by kernel_rfl) (by kernel_rfl)) ?_
  intro W base args ds gs before hval0 hW hcnd hsz _
  have hval : ∀ (j : Nat) t v, Try.f3.params[j]? = some t → args[j]? = some v → Value.okWide Try.prog W .any base t v := hval0
  have hW' := hW
  obtain ⟨p, q, hA0, hV, rfl, hfz, hnd⟩ := hW
  have hA : DataW.TrodAll enc Try.prog W 0 (fun _ => true) true Try.f3.params.toList args.toList ds p := hA0
  rw [Try.params3] at hA hval hsz
  obtain ⟨v0, vs0, d0, ds0, p0, q0, hargs, rfl, rfl, h0, r0⟩ := trodAll_cons hA
  obtain ⟨rfl, rfl, rfl⟩ := trodAll_nil r0
  obtain rfl : args = #[v0] := by cases args; simp_all
  obtain ⟨rfl, rfl⟩ := trodVars_none hV
  have k0 := h0
  have lt0 : ∀ x ∈ p0, x.block < W.heap.size := by obtain ⟨m, hm⟩ := k0; exact DataW.trod_lt m _ _ _ hm
  have good0 : Good enc Try.prog W 26 v0.cells.toList := by
    obtain ⟨fuel, hf⟩ := h0
    exact ⟨fuel, d0, p0, hf, fun x hx => by simpa using List.all_eq_true.1 hsz x (DataW.weights_mem_each (j := 0) rfl rfl x hx)⟩
  obtain ⟨cs, rfl, _⟩ := okWide_struct Try.underlying26 (hval 0 _ v0 rfl rfl)
  obtain ⟨g, A1, A2, A3, c1, c2, c3, hcs, hat, hfit⟩ := open_graph good0
  obtain rfl : cs = #[.int .i64 g.ins, .slice A1 g.n1 c1, .slice A2 g.n2 c2, .slice A3 g.n3 c3] := by
    cases cs; simpa [Value.cells] using hcs
  clear hA0 hval0
  refine (walk g A1 A2 A3 c1 c2 c3 W hat hfit).mono fun e W' ⟨he, bel⟩ => ?_
  subst he
  exact ⟨_, rfl, _, _, _, [], _, [], hW', trodAll_mk1 (shut_bool Try.underlying4 _), (trodAll_cons_mk (Below.trod laidOut (by kernel_rfl) (of_decide_eq_true (by kernel_rfl)) k0 bel lt0) trodAll_mk0), rfl, bel.frame _, fun h => by cases h⟩

theorem over : Rows.aigValidsRow.holds Try.pinned (OpenSpec.ofChange Rows.aigValidsSpec) :=
  OpenClaim.holds_of_wide 3 Try.f3 rfl rfl rfl rfl rfl rfl rfl ⟨rfl, rfl, rfl, rfl, rfl⟩ rfl rfl rfl rfl rfl (by kernel_rfl) Try.func3 (by kernel_rfl)
    (of_decide_eq_true (by kernel_rfl)) (by unfold Func.isWrapper; first | (rw [if_pos (by decide +kernel)]; kernel_rfl) | (rw [if_neg (by decide +kernel)]; exact ⟨rfl, rfl⟩))
    (fun os started H enc _ => lifted os started H enc)

theorem proved : Rows.AigValidsSaid := over
end Go.Proofs.Ytdhgbikmaglgpaa.aigValids
