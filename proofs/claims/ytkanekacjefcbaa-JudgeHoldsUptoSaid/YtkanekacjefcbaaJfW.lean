/- The program's writer of formulas: a frame, what is alike, what is not, walked. Conditions: the writer, its graph and the pairs lie in memory. -/
import Derived.Test.YtkanekacjefcbaaJfWS
import Derived.Deep.DeepCutAuto
namespace Go.Proofs.Ytkanekacjefcbaa
open Go.RowKit

set_option maxHeartbeats 8000000 in
set_option maxRecDepth 100000 in
theorem frameW_any (g : G) (n : Nat) (kp : Nat → Prop) (w0 : World) (b base : Nat) (A1 A2 A3 : Option Addr) (c1 c2 c3 : Nat) (x4 : Value) (L : List (List Int)) (A : Option Addr) (c : Nat) (vs : List (Option Addr × Nat)) (fr : Nat) (w : World)
    (h : Wk g n kp w0 w b base A1 A2 A3 c1 c2 c3 x4 L A c vs) (hg : ∀ w', Only (fun k => ¬ kp k) w0 w' → g.At w' A1 A2 A3) (hm : g.Made n) (hf : fr ≤ 2) (hlt : b < base) (hsm : L.length + 3 * g.n2 + 1 ≤ 90000000000) :
    Calls Try.prog 35 #[.pointer (some ⟨b, 0, none⟩), .int .i64 fr] w fun e w' => (∃ v, e = .returned v) ∧ w.heap.size ≤ w'.heap.size ∧ ∃ A' c' vs', Wk g n kp w0 w' b base A1 A2 A3 c1 c2 c3 x4 (L ++ frameC g fr) A' c' vs' := by
  have HG := Lib.hid hg; clear hg
  have hv : (n : Int) = 1 + g.ins + g.n1 + g.n2 := by rw [← hm.vars]; rfl
  have HVN := Lib.hid hv; clear hv
  have hn := hm.hn
  have hins := hm.ins
  have hinb : g.ins + g.n1 + g.n2 < n := by have := HVN.out; omega
  have hone : (1 : Int) ≤ 2 * n := by have := HVN.out; omega
  go_enter Try.func35, Try.ntmps35
  go_wp2_with fail
  refine (atWk_any g n b fr 1 _ (h.box.cell (k := 4) (by omega)) hm hf (by omega) hone).mono ?_
  rintro e w1 ⟨rfl, rfl⟩
  go_wp2_with fail
  refine (putWk_any g n kp w0 b base A1 A2 A3 c1 c2 c3 x4 L A c vs [atC g.vars fr 1] _ _ h rfl hlt (by omega)).mono ?_
  rintro e w2 ⟨⟨v2, rfl⟩, hs2, A2', c2', vs2, h2⟩
  have b2 : w2.cell? ⟨b, 2, none⟩ = some (.slice A2 g.n2 c2) := h2.box.cell (k := 2) (by omega)
  go_wp2_with fail
  have hwl : w1.heap.size ≤ w2.heap.size := hs2
  go_loopw [21] (fun ix wi => ∃ i : Nat, i ≤ g.n2 ∧ ix = .int .i64 i ∧ w1.heap.size ≤ wi.heap.size ∧ Hid (∃ A c vs, Wk g n kp w0 wi b base A1 A2 A3 c1 c2 c3 x4 (L ++ [[atC g.vars fr 1]] ++ upC (gateC g fr) i) A c vs)) (fun ix _ => g.n2 - (intOf ix).toNat)
  case atStart => exact ⟨0, by omega, rfl, hwl, ⟨_, _, _, by rw [upC, List.append_nil]; exact h2⟩⟩
  case round =>
    clear h h2 b2 hwl hs2
    obtain ⟨i, hi, rfl, hwi, HM⟩ := hrel
    obtain ⟨A', c', vs', H⟩ := HM.out
    clear HM
    have hgr := HG.out _ H.bel
    by_cases hlt2 : i < g.n2
    · have hii : (i : Int) < g.n2 := by omega
      obtain ⟨ba, oa, hA, x0, x1⟩ := hgr.ands.at2 hlt2
      simp only [two] at x0 x1
      obtain ⟨r0, r1, r2, r3⟩ := hm.x i hlt2
      have hll : (L ++ [[atC g.vars fr 1]] ++ upC (gateC g fr) i).length ≤ L.length + 1 + 3 * g.n2 := by simp [upC_len]; omega
      have HGC : Hid (upC (gateC g fr) (i + 1) = upC (gateC g fr) i ++ gateC g fr i) := rfl
      have HF : Hid ((fr : Int) = 0 ∨ (fr : Int) = 1 ∨ (fr : Int) = 2) := Lib.hid (by omega)
      have HNN : Hid (g.vars = n) := hm.vars
      generalize hLL : L ++ [[atC g.vars fr 1]] ++ upC (gateC g fr) i = LL at *
      have HLL := Lib.hid hLL; clear hLL
      subst hA
      go_upto_region 4 with (fail)
      have z0 := (BoxAt.new wr [.int .i64 (g.X i), .int .i64 (g.Y i)] 49) 0 _ rfl
      have z1 := (BoxAt.new wr [.int .i64 (g.X i), .int .i64 (g.Y i)] 49) 1 _ rfl
      have Ha := H.call ((Below.refl _ _).alloc (Nat.le_refl _) (.cells #[.int .i64 (g.X i), .int .i64 (g.Y i)] 49))
      have hza : wr.heap.size ≤ (wr.alloc (.cells #[.int .i64 (g.X i), .int .i64 (g.Y i)] 49)).heap.size := by simp
      generalize wr.alloc (.cells #[.int .i64 (g.X i), .int .i64 (g.Y i)] 49) = wa at *
      generalize hnb : wr.heap.size = nb at *
      clear hnb x0 x1
      have b0 : wa.cell? ⟨b, 0, none⟩ = some (.int .i64 g.ins) := Ha.box.cell (k := 0) (by omega)
      have b1 : wa.cell? ⟨b, 1, none⟩ = some (.slice A1 g.n1 c1) := Ha.box.cell (k := 1) (by omega)
      have b4 : wa.cell? ⟨b, 4, none⟩ = some (.int .i64 n) := Ha.box.cell (k := 4) (by omega)
      have hlo : (0 : Int) ≤ 2 * (1 + g.ins + g.n1 + i) := by omega
      have hhi : 2 * (1 + g.ins + (g.n1 : Int) + i) ≤ 2 * n := by omega
      have hxx : g.X i ≤ 2 * n := by omega
      have hyy : g.Y i ≤ 2 * n := by omega
      have e1 : IntKind.i64.wrap (1 + g.ins) = 1 + g.ins := IntWalk.i64_in _ (by omega)
      have e2 : IntKind.i64.wrap (1 + g.ins + (g.n1 : Int)) = 1 + g.ins + g.n1 := IntWalk.i64_in _ (by omega)
      have e3 : IntKind.i64.wrap (1 + g.ins + (g.n1 : Int) + i) = 1 + g.ins + g.n1 + i := IntWalk.i64_in _ (by omega)
      have e4 : IntKind.i64.wrap (2 * (1 + g.ins + (g.n1 : Int) + i)) = 2 * (1 + g.ins + g.n1 + i) := IntWalk.i64_in _ (by omega)
      go_quiet ((go_at_call 37; first | exact Calls.quiet_of_same (atWk_any g n b fr _ _ b4 hm hf hlo hhi) | exact Calls.quiet_of_same (atWk_any g n b fr _ _ b4 hm hf r0 hxx) | exact Calls.quiet_of_same (atWk_any g n b fr _ _ b4 hm hf r2 hyy)))
      clear e1 e2 e3 e4 b0 b1 b4 z0 z1
      have Hc := Ha.call (drawn_below wa nq)
      have hzc : nb ≤ (wa.drewN nq).heap.size := hza
      generalize wa.drewN nq = wc at *
      have hX := atC_bd (n := g.vars) (fr := fr) (l := 2 * (1 + g.ins + g.n1 + i)) (by rw [HNN.out]; omega) (by rw [HNN.out]; omega) HF.out hlo (by rw [HNN.out]; exact hhi)
      have hP := atC_bd (n := g.vars) (fr := fr) (l := g.X i) (by rw [HNN.out]; omega) (by rw [HNN.out]; omega) HF.out r0 (by rw [HNN.out]; omega)
      have hQ := atC_bd (n := g.vars) (fr := fr) (l := g.Y i) (by rw [HNN.out]; omega) (by rw [HNN.out]; omega) HF.out r2 (by rw [HNN.out]; omega)
      have HGT : Hid (gateC g fr i = [[-atC g.vars fr (2 * (1 + g.ins + g.n1 + i)), atC g.vars fr (g.X i)], [-atC g.vars fr (2 * (1 + g.ins + g.n1 + i)), atC g.vars fr (g.Y i)], [atC g.vars fr (2 * (1 + g.ins + g.n1 + i)), -atC g.vars fr (g.X i), -atC g.vars fr (g.Y i)]]) := rfl
      generalize atC g.vars fr (2 * (1 + g.ins + g.n1 + i)) = X at *
      generalize atC g.vars fr (g.X i) = P at *
      generalize atC g.vars fr (g.Y i) = Q at *
      go_wp2_with fail
      refine (putWk_any g n kp w0 b base A1 _ A3 c1 c2 c3 x4 _ _ _ _ [-X, P] _ _ Hc rfl hlt (by omega)).mono ?_
      rintro e wd ⟨⟨v3, rfl⟩, hzd, Ad, cd, vd, Hd⟩
      go_wp2_with fail
      refine (putWk_any g n kp w0 b base A1 _ A3 c1 c2 c3 x4 _ _ _ _ [-X, Q] _ _ Hd rfl hlt (by simp; omega)).mono ?_
      rintro e we ⟨⟨v4, rfl⟩, hze, Ae, ce, ve, He⟩
      go_wp2_with fail
      refine (putWk_any g n kp w0 b base A1 _ A3 c1 c2 c3 x4 _ _ _ _ [X, -P, -Q] _ _ He rfl hlt (by simp; omega)).mono ?_
      rintro e wf ⟨⟨v5, rfl⟩, hzf, Af, cf, vf, Hf⟩
      have HS : Hid (∃ A c vs, Wk g n kp w0 wf b base A1 (some ⟨ba, oa, none⟩) A3 c1 c2 c3 x4 (L ++ [[atC g.vars fr 1]] ++ upC (gateC g fr) (i + 1)) A c vs) := Lib.hid ⟨Af, cf, vf, by
        have e1 : L ++ [[atC g.vars fr 1]] ++ upC (gateC g fr) (i + 1) = LL ++ [[-X, P]] ++ [[-X, Q]] ++ [[X, -P, -Q]] := by
          rw [HGC.out, HGT.out, ← List.append_assoc, HLL.out]
          simp
        rw [e1]
        exact Hf⟩
      clear H Ha Hc Hd He Hf
      go_wp2_with fail
      go_roundw
      case rel => exact ⟨i + 1, by omega, by go_num, by omega, HS⟩
      case measure => simp [intOf]; omega
    · obtain rfl : i = g.n2 := by omega
      go_wp2_with fail
      go_end0
      refine ⟨⟨_, rfl⟩, hwi, A', c', vs', ?_⟩
      have e1 : L ++ frameC g fr = L ++ [[atC g.vars fr 1]] ++ upC (gateC g fr) g.n2 := by simp [frameC]
      rw [e1]
      exact H
end Go.Proofs.Ytkanekacjefcbaa
