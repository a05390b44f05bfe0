/- The reference's maker of formulas: some pair is not alike, walked. Conditions: the maker, its graph and the pairs lie in memory. -/
import Derived.Test.YtkanekacjefcbaaJfR
namespace Go.Proofs.Ytkanekacjefcbaa
open Go.RowKit

theorem elIntJ : Elem Try.prog 26 3 1 8 := elem_mk Try.underlying26 (z := .int .i64 0) (by kernel_rfl) rfl (by omega) (by omega)

theorem diffC_len {g : G} {fr frs : Int} {P Q : Nat → Int} : ∀ k, (upC (diffC g fr frs P Q) k).length = 2 * k
  | 0 => rfl
  | k + 1 => by simp only [upC, List.length_append, diffC_len k]; simp [diffC]; omega
/-- the new variables so far, a row of the call's own that holds no clause -/
def SomeRow (w : World) (base : Nat) (g : G) (frs : Int) (i : Nat) (B : Option Addr) (d : Nat) (vs : List (Option Addr × Nat)) (L : List (List Int)) : Prop :=
  w.ownsRow base 3 1 (.slice B i d) i (((List.range i).map (newV g frs)).map (Value.int .i64)) ∧ Off vs L B
theorem SomeRow.push {w w1 : World} {base i d d' : Nat} {g : G} {frs : Int} {B B' : Option Addr} {vs : List (Option Addr × Nat)} {L : List (List Int)} {x : Int} {b : Nat} {kp : Nat → Prop} {w0 : World} {A1 A2 A3 A : Option Addr} {c1 c2 c3 c : Nat} {x4 : Value}
    (h : SomeRow w base g frs i B d vs L) (hM : Mk g kp w0 w b base A1 A2 A3 c1 c2 c3 x4 L A c vs) (hlt : b < base) (hx : newV g frs i = x) (o : Obj)
    (ho : w1.ownsRow base 3 1 (.slice B' (i + 1) d') (i + 1) (((List.range i).map (newV g frs)).map (Value.int .i64) ++ [.int .i64 x])) (hk : Only (blockOf B) (w.alloc o) w1) (hb : ∀ k, blockOf B' k → blockOf B k ∨ k = (w.alloc o).heap.size) :
    Mk g kp w0 w1 b base A1 A2 A3 c1 c2 c3 x4 L A c vs ∧ SomeRow w1 base g frs (i + 1) B' d' vs L := by
  obtain ⟨h1, h2⟩ := h
  have hal : Below w.heap.size w (w.alloc o) := (Below.refl _ _).alloc (Nat.le_refl _) _
  have hMa := hM.call hal
  have hba := own_base h1
  have h1a := own_below h1 hal
  refine ⟨⟨hMa.box.only hk (fun c => by have := hba _ c; omega), hMa.cl.off hk h2 (fun k c e => own_apart h1a hMa.cl.own (by decide) k e c), hMa.bel.then_ hk (fun k hk0 c hkp => ?_), hM.kb, hM.kt, Nat.le_trans hMa.size hk.size⟩, ?_, ?_⟩
  · rcases hM.kt k hkp with ⟨q1, q2⟩
    have := hba _ c
    rcases q2 with q2 | q2
    · omega
    · obtain ⟨a, ha, rfl⟩ := c
      subst ha
      rcases h1.2 with ⟨hv, _⟩ | ⟨q, cap, cur, hv, _, hh, _⟩
      · cases hv
      · injection hv with e1
        injection e1 with e1
        subst e1
        exact (q2 cur).2 ((hM.bel.block q q1 (fun hn => hn hkp)).symm.trans hh)
  · rw [List.range_succ, List.map_append, List.map_append]
    subst hx
    exact ho
  · exact h2.moved hM.cl (fun k c => (hb k c).imp id (fun e => by subst e; simp))

set_option maxHeartbeats 8000000 in
set_option maxRecDepth 100000 in
theorem unlikeM_any (g : G) (n : Nat) (kp : Nat → Prop) (w0 : World) (b base : Nat) (A1 A2 A3 : Option Addr) (c1 c2 c3 : Nat) (x4 : Value) (L : List (List Int)) (A : Option Addr) (c : Nat) (vs : List (Option Addr × Nat)) (fr frs : Nat) (PA : Option Addr) (np pc : Nat) (P Q : Nat → Int) (w : World)
    (h : Mk g kp w0 w b base A1 A2 A3 c1 c2 c3 x4 L A c vs) (hp : ∀ w', Only (fun k => ¬ kp k) w0 w' → RowS w' 2 PA np (fun k => two (.int .i64 (P k)) (.int .i64 (Q k)))) (hpr : ∀ i, i < np → 0 ≤ P i ∧ P i < 2 * n ∧ 0 ≤ Q i ∧ Q i < 2 * n)
    (hm : g.Made n) (hf : fr ≤ 2) (hfs : frs ≤ 2) (hlt : b < base) (hsm : L.length + 2 * np ≤ 90000000000) :
    Calls Try.prog 48 #[.pointer (some ⟨b, 0, none⟩), .int .i64 fr, .slice PA np pc, .int .i64 frs] w fun e w' => (∃ v, e = .returned v) ∧ w.heap.size ≤ w'.heap.size ∧ ∃ A' c' vs', Mk g kp w0 w' b base A1 A2 A3 c1 c2 c3 (.int .i64 (frs * g.vars + np)) (L ++ unlikeC g fr frs np P Q) A' c' vs' := by
  have HP := Lib.hid hp; clear hp
  have HPR := Lib.hid hpr; clear hpr
  have hn := hm.hn
  have hins := hm.ins
  have hgn := hm.vars
  have HV0 := Lib.hid hgn
  have hvb : g.ins + g.n1 + g.n2 < n := by unfold G.vars at hgn; omega
  clear hgn
  obtain ⟨m, hmm⟩ : ∃ m : Nat, m = frs * n := ⟨_, rfl⟩
  have hmul : (frs : Int) * n = m := by rw [hmm]; simp
  have hmb : m ≤ 2000000000 := by
    rw [hmm]
    exact Nat.le_trans (Nat.mul_le_mul hfs hn) (by decide)
  have HMUL := Lib.hid hmul
  clear hmm hmul
  go_enter Try.func48, Try.ntmps48
  go_wp2_with fail
  go_loopw [8, 9] (fun sv ix wi => ∃ (i : Nat) (B : Option Addr) (d : Nat), i ≤ np ∧ ix = .int .i64 i ∧ sv = .slice B i d ∧ w.heap.size ≤ wi.heap.size ∧ Hid (∃ A c vs, Mk g kp w0 wi b base A1 A2 A3 c1 c2 c3 x4 (L ++ upC (diffC g fr frs P Q) i) A c vs ∧ SomeRow wi base g frs i B d vs (L ++ upC (diffC g fr frs P Q) i))) (fun _ ix _ => np - (intOf ix).toNat)
  case atStart => exact ⟨0, none, 0, by omega, rfl, rfl, Nat.le_refl _, ⟨_, _, _, by rw [upC, List.append_nil]; exact h, World.ownsRow_nil _ _ _ _, by rw [upC, List.append_nil]; exact Off.nil _ _⟩⟩
  case round =>
    clear h
    obtain ⟨i, B, d, hi, rfl, rfl, hwi, HM⟩ := hrel
    obtain ⟨A', c', vs', H, HS⟩ := HM.out
    clear HM
    have HSH := Lib.hid HS; clear HS
    have q0 : wr.cell? ⟨b, 0, none⟩ = some (.int .i64 g.ins) := H.box.cell (k := 0) (by omega)
    have q1 : wr.cell? ⟨b, 1, none⟩ = some (.slice A1 g.n1 c1) := H.box.cell (k := 1) (by omega)
    have q2 : wr.cell? ⟨b, 2, none⟩ = some (.slice A2 g.n2 c2) := H.box.cell (k := 2) (by omega)
    have q3 : wr.cell? ⟨b, 3, none⟩ = some (.slice A3 g.n3 c3) := H.box.cell (k := 3) (by omega)
    by_cases hlt2 : i < np
    · have hii : (i : Int) < np := by omega
      obtain ⟨ba, oa, hA, x0, x1⟩ := (HP.out _ H.bel).at2 hlt2
      simp only [two] at x0 x1
      obtain ⟨r0, r1, r2, r3⟩ := HPR.out i hlt2
      have hll : (L ++ upC (diffC g fr frs P Q) i).length ≤ L.length + 2 * np := by simp [diffC_len]; omega
      have HGC : Hid (upC (diffC g fr frs P Q) (i + 1) = upC (diffC g fr frs P Q) i ++ diffC g fr frs P Q i) := rfl
      have HF : Hid ((fr : Int) = 0 ∨ (fr : Int) = 1 ∨ (fr : Int) = 2) := Lib.hid (by omega)
      have HNW : Hid (newV g frs i = m + 1 + i) := Lib.hid (by unfold newV; rw [HV0.out, HMUL.out])
      generalize hLL : L ++ upC (diffC g fr frs P Q) i = LL at *
      have HLL := Lib.hid hLL; clear hLL
      subst hA
      go_wp2_with fail
      refine (varsJ_any g.ins A1 A2 A3 g.n1 g.n2 g.n3 c1 c2 c3 _ hins (by omega) (by omega) (by omega)).mono ?_
      rintro e wv ⟨rfl, hbv⟩
      have hw : 1 + g.ins + g.n1 + g.n2 = (n : Int) := HV0.out
      rw [hw]
      clear hw
      have Hv := H.call hbv
      have y0 := Keeps.of_below hbv _ _ x0
      have y1 := Keeps.of_below hbv _ _ x1
      have HSv : Hid (SomeRow wv base g frs i B d vs' LL) := Lib.hid ⟨own_below HSH.out.1 hbv, HSH.out.2⟩
      have hzv := hbv.size
      have hmul2 : (frs : Int) * n = m := HMUL.out
      clear x0 x1 hbv q0 q1 q2 q3
      go_wp2_with fail
      clear hmul2
      refine (atMk_any g n kp w0 b base A1 A2 A3 c1 c2 c3 x4 _ _ _ _ fr (P i) _ Hv hm hf r0 (by omega)).mono ?_
      rintro e wa ⟨rfl, hba⟩
      have Ha := Hv.call hba
      have z1 := Keeps.of_below hba _ _ y1
      have HSa : Hid (SomeRow wa base g frs i B d vs' LL) := Lib.hid ⟨own_below HSv.out.1 hba, HSv.out.2⟩
      have hza := hba.size
      have hP := atC_bd (n := g.vars) (fr := fr) (l := P i) (by rw [HV0.out]; omega) (by rw [HV0.out]; omega) HF.out r0 (by rw [HV0.out]; omega)
      clear y0 y1 hba
      go_wp2_with fail
      refine (atMk_any g n kp w0 b base A1 A2 A3 c1 c2 c3 x4 _ _ _ _ fr (Q i) _ Ha hm hf r2 (by omega)).mono ?_
      rintro e wb ⟨rfl, hbb⟩
      have Hb := Ha.call hbb
      have HSb : Hid (SomeRow wb base g frs i B d vs' LL) := Lib.hid ⟨own_below HSa.out.1 hbb, HSa.out.2⟩
      have hzb := hbb.size
      have hQ := atC_bd (n := g.vars) (fr := fr) (l := Q i) (by rw [HV0.out]; omega) (by rw [HV0.out]; omega) HF.out r2 (by rw [HV0.out]; omega)
      clear z1 hbb
      have HGT : Hid (diffC g fr frs P Q i = [[-((m : Int) + 1 + i), atC g.vars fr (P i), atC g.vars fr (Q i)], [-((m : Int) + 1 + i), -atC g.vars fr (P i), -atC g.vars fr (Q i)]]) := Lib.hid (by unfold diffC; rw [HNW.out])
      generalize atC g.vars fr (P i) = X at *
      generalize atC g.vars fr (Q i) = Y at *
      go_wp2_with fail
      refine (putMk2_any g kp w0 b base A1 A2 A3 c1 c2 c3 x4 _ _ _ _ [-((m : Int) + 1 + i), X, Y] _ _ Hb rfl hlt (by omega)).mono ?_
      rintro e wd ⟨⟨v3, rfl⟩, hzd, hkd, Ad, cd, Hd⟩
      have HSd : Hid (SomeRow wd base g frs i B d _ _) := Lib.hid (hkd B i d _ HSb.out.1 HSb.out.2)
      clear hkd
      go_wp2_with fail
      refine (putMk2_any g kp w0 b base A1 A2 A3 c1 c2 c3 x4 _ _ _ _ [-((m : Int) + 1 + i), -X, -Y] _ _ Hd rfl hlt (by simp; omega)).mono ?_
      rintro e wf ⟨⟨v5, rfl⟩, hzf, hkf, Af, cf, Hf⟩
      have HSf : Hid (SomeRow wf base g frs i B d _ _) := Lib.hid (hkf B i d _ HSd.out.1 HSd.out.2)
      clear hkf
      have HBF := Lib.hid (own_base HSf.out.1)
      clear H Ha Hb Hd Hv HSd HSb HSa HSv HSH
      go_wp2_with (at_builtin; refine wp_append rfl (.tmp 61) (.tmp 63) _ rfl elIntJ base B i d _ rfl (HSf.out.1.alloc _) _ 1 1 [.int .i64 ((m : Int) + 1 + i)] rfl (src_new _ _ _ rfl) (by omega) (sz_alloc Hf.size) ?_; intro B' d' w8 ho hk' hb'; have H8 := Lib.hid (HSf.out.push Hf hlt HNW.out _ ho hk' hb'); have hz8 := hk'.size; clear ho hk' hb')
      go_roundw
      case rel => exact ⟨i + 1, B', d', by omega, by go_num, rfl, (by simp at hz8; omega), Lib.hid ⟨Af, cf, _, by
        have e1 : L ++ upC (diffC g fr frs P Q) (i + 1) = LL ++ [[-((m : Int) + 1 + i), X, Y]] ++ [[-((m : Int) + 1 + i), -X, -Y]] := by
          rw [HGC.out, HGT.out, ← List.append_assoc, HLL.out]
          simp
        rw [e1]
        exact H8.out⟩⟩
      case measure => simp [intOf]; omega
    · obtain rfl : i = np := by omega
      have hlen : ((List.range i).map (newV g frs)).length = i := by simp
      have C := putMk3_any g kp w0 b base A1 A2 A3 c1 c2 c3 x4 _ A' c' vs' ((List.range i).map (newV g frs)) B d wr H (OwnL.of_own HSH.out.1 hlen) hlt (by simp [diffC_len]; omega)
      rw [hlen] at C
      have HU : Hid (L ++ unlikeC g fr frs i P Q = L ++ upC (diffC g fr frs P Q) i ++ [(List.range i).map (newV g frs)]) := Lib.hid (by simp [unlikeC])
      clear hlen
      generalize (List.range i).map (newV g frs) = sl at *
      generalize L ++ upC (diffC g fr frs P Q) i = LL at *
      have HC := Lib.hid C; clear C
      clear H
      go_wp2_with fail
      refine HC.out.mono ?_
      rintro e wa ⟨⟨v0, rfl⟩, hO, A9, c9, H9⟩
      have hza := hO.size
      clear hO HC q0 q1 q2 q3
      have q0 : wa.cell? ⟨b, 0, none⟩ = some (.int .i64 g.ins) := H9.box.cell (k := 0) (by omega)
      have q1 : wa.cell? ⟨b, 1, none⟩ = some (.slice A1 g.n1 c1) := H9.box.cell (k := 1) (by omega)
      have q2 : wa.cell? ⟨b, 2, none⟩ = some (.slice A2 g.n2 c2) := H9.box.cell (k := 2) (by omega)
      have q3 : wa.cell? ⟨b, 3, none⟩ = some (.slice A3 g.n3 c3) := H9.box.cell (k := 3) (by omega)
      go_wp2_with fail
      refine (varsJ_any g.ins A1 A2 A3 g.n1 g.n2 g.n3 c1 c2 c3 _ hins (by omega) (by omega) (by omega)).mono ?_
      rintro e wv ⟨rfl, hbv⟩
      have hw : 1 + g.ins + g.n1 + g.n2 = (n : Int) := HV0.out
      rw [hw]
      clear hw q0 q1 q2 q3
      have Hv := H9.call hbv
      have hzv := hbv.size
      have p4 : wv.cell? ⟨b, 4, none⟩ = some x4 := Hv.box.cell (k := 4) (by omega)
      have f4 := Hv.box.thaw 4
      have hmul2 : (frs : Int) * n = m := HMUL.out
      clear hbv H9
      go_wp2_with fail
      clear hmul2
      go_end0
      refine ⟨⟨_, rfl⟩, by simp [World.setCell]; omega, A9, c9, vs' ++ [(B, d)], ?_⟩
      rw [HU.out, HV0.out, HMUL.out]
      have hOs : Only (fun k => k = b) wv (wv.setCell ⟨b, 4, none⟩ (.int .i64 ((m : Int) + i))) := (Only.refl (fun k => k = b) wv).setCell (p := ⟨b, 4, none⟩) (fun _ => rfl) _
      exact ⟨Hv.box.set (fun j hj hne => (by
          obtain rfl | rfl | rfl | rfl | rfl : j = 0 ∨ j = 1 ∨ j = 2 ∨ j = 3 ∨ j = 5 := by omega
          all_goals rfl)) rfl, Hv.cl.only hOs (fun k hk e => by omega), Hv.bel.then_ hOs (fun k hk c hkp => by subst c; exact Hv.kb hkp), Hv.kb, Hv.kt, Nat.le_trans Hv.size hOs.size⟩
end Go.Proofs.Ytkanekacjefcbaa
