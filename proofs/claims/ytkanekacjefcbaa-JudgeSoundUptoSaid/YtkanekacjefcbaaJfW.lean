/- The program's writer of formulas: its box, one clause more. Conditions: the writer lies in memory. The program's writer of formulas: a frame, what is alike, what is not, walked. Conditions: the writer, its graph and the pairs lie in memory. The program's writer of formulas: what is alike, what is not, walked. Conditions: the writer, its graph and the pairs lie in memory. -/
import Derived.Test.YtkanekacjefcbaaJfU
import Derived.Deep.QuietTactic
import Derived.BigQuiet
import Derived.Deep.DeepCutAuto
namespace Go.Proofs.Ytkanekacjefcbaa
open Go.RowKit

def wkV (g : G) (n : Nat) (A1 A2 A3 : Option Addr) (c1 c2 c3 : Nat) (x4 x5 : Value) (j : Nat) : Value :=
  [Value.int .i64 g.ins, .slice A1 g.n1 c1, .slice A2 g.n2 c2, .slice A3 g.n3 c3, .int .i64 n, x4, x5].getD j undef
/-- the program's writer in block b, its clauses so far -/
structure Wk (g : G) (n : Nat) (kp : Nat → Prop) (w0 w : World) (b base : Nat) (A1 A2 A3 : Option Addr) (c1 c2 c3 : Nat) (x4 : Value) (L : List (List Int)) (A : Option Addr) (c : Nat) (vs : List (Option Addr × Nat)) : Prop where
  box : Arr w b 73 7 (wkV g n A1 A2 A3 c1 c2 c3 x4 (.slice A L.length c))
  cl : Cl w base A c L vs
  bel : Only (fun k => ¬ kp k) w0 w
  kb : ¬ kp b
  kt : ∀ k, kp k → k < w0.heap.size ∧ (k < base ∨ ∀ cur, w0.heap[k]? ≠ some (.cells cur 26 (0, 0)) ∧ w0.heap[k]? ≠ some (.cells cur 3 (0, 0)))
  size : base ≤ w.heap.size
section
variable {g : G} {n : Nat} {kp : Nat → Prop} {w0 w w1 : World} {b base c1 c2 c3 c : Nat} {A1 A2 A3 A : Option Addr} {x4 : Value} {L : List (List Int)} {vs : List (Option Addr × Nat)}
theorem Wk.call (h : Wk g n kp w0 w b base A1 A2 A3 c1 c2 c3 x4 L A c vs) (hb : Below w.heap.size w w1) : Wk g n kp w0 w1 b base A1 A2 A3 c1 c2 c3 x4 L A c vs :=
  ⟨h.box.below hb, h.cl.below hb, h.bel.call hb, h.kb, h.kt, Nat.le_trans h.size hb.size⟩
end

/-- one clause more, wherever it lies -/
theorem putWk3_any (g : G) (n : Nat) (kp : Nat → Prop) (w0 : World) (b base : Nat) (A1 A2 A3 : Option Addr) (c1 c2 c3 : Nat) (x4 : Value) (L : List (List Int)) (A : Option Addr) (c : Nat) (vs : List (Option Addr × Nat)) (l : List Int) (B : Option Addr) (d : Nat) (w : World)
    (h1 : Wk g n kp w0 w b base A1 A2 A3 c1 c2 c3 x4 L A c vs) (hl : OwnL w base B l) (hlt : b < base) (hsm : L.length ≤ 100000000000) :
    Calls Try.prog 36 #[.pointer (some ⟨b, 0, none⟩), .slice B l.length d] w fun e w' => (∃ v, e = .returned v) ∧ Only (fun k => k = b ∨ blockOf A k) w w' ∧ ∃ A' c', Wk g n kp w0 w' b base A1 A2 A3 c1 c2 c3 x4 (L ++ [l]) A' c' (vs ++ [(B, d)]) := by
  refine (putW_any b base _ A c L vs B d l _ h1.box rfl h1.cl hl hlt h1.size hsm).mono ?_
  rintro e w' ⟨hv, A', c', hA, hC, hO⟩
  have hs := hO.size
  refine ⟨hv, hO, A', c', ⟨hA.congr (fun j hj => ?_), hC, ?_, h1.kb, h1.kt, Nat.le_trans h1.size hs⟩⟩
  · obtain rfl | rfl | rfl | rfl | rfl | rfl | rfl : j = 0 ∨ j = 1 ∨ j = 2 ∨ j = 3 ∨ j = 4 ∨ j = 5 ∨ j = 6 := by omega
    all_goals rfl
  · refine h1.bel.then_ hO (fun i hi c hk => ?_)
    rcases c with rfl | c
    · exact h1.kb hk
    · obtain ⟨h0, h2⟩ := h1.kt i hk
      have hbi := own_base h1.cl.own i c
      rcases h2 with h2 | h2
      · omega
      · obtain ⟨a, ha, rfl⟩ := c
        subst ha
        rcases h1.cl.own.2 with ⟨hv, _⟩ | ⟨q, cap, cur, hv, _, hh, _⟩
        · cases hv
        · injection hv with e1
          injection e1 with e1
          subst e1
          have he := h1.bel.block q h0 (fun hn => hn hk)
          exact (h2 cur).1 (he.symm.trans hh)
/-- one clause more, made on the spot -/
theorem putWk2_any (g : G) (n : Nat) (kp : Nat → Prop) (w0 : World) (b base : Nat) (A1 A2 A3 : Option Addr) (c1 c2 c3 : Nat) (x4 : Value) (L : List (List Int)) (A : Option Addr) (c : Nat) (vs : List (Option Addr × Nat)) (l : List Int) (us : Array Value) (w : World)
    (h : Wk g n kp w0 w b base A1 A2 A3 c1 c2 c3 x4 L A c vs) (hus : us = (l.map (Value.int .i64)).toArray) (hlt : b < base) (hsm : L.length ≤ 100000000000) :
    Calls Try.prog 36 #[.pointer (some ⟨b, 0, none⟩), .slice (some ⟨w.heap.size, 0, none⟩) l.length l.length] (w.alloc (.cells us 3)) fun e w' => (∃ v, e = .returned v) ∧ w.heap.size ≤ w'.heap.size ∧ (∀ (B' : Option Addr) (m d' : Nat) (xs : List Value), w.ownsRow base 3 1 (.slice B' m d') m xs → Off vs L B' → w'.ownsRow base 3 1 (.slice B' m d') m xs ∧ Off (vs ++ [(some ⟨w.heap.size, 0, none⟩, l.length)]) (L ++ [l]) B') ∧ ∃ A' c', Wk g n kp w0 w' b base A1 A2 A3 c1 c2 c3 x4 (L ++ [l]) A' c' (vs ++ [(some ⟨w.heap.size, 0, none⟩, l.length)]) := by
  have hal : Below w.heap.size w (w.alloc (.cells us 3)) := (Below.refl _ _).alloc (Nat.le_refl _) _
  have h1 := h.call hal
  refine (putWk3_any g n kp w0 b base A1 A2 A3 c1 c2 c3 x4 L A c vs l _ l.length _ h1 (OwnL.new w base l us hus h.size) hlt hsm).mono ?_
  rintro e w' ⟨hv, hO, hM⟩
  have hs := hO.size
  refine ⟨hv, by simp at hs; omega, fun B' m d' xs ho hoff => ⟨own_only (own_below ho hal) hO (fun k hk c => c.elim (fun e => by have := own_base ho k hk; omega) (fun c => own_apart (own_below ho hal) h1.cl.own (by decide) k hk c)), hoff.push h.cl.len (fun k hk hb => ?_)⟩, hM⟩
  obtain ⟨a, ha, rfl⟩ := hk
  injection ha with ha
  subst ha
  have := own_lt ho _ hb
  exact Nat.lt_irrefl _ this

/-- .. in short -/
theorem putWk_any (g : G) (n : Nat) (kp : Nat → Prop) (w0 : World) (b base : Nat) (A1 A2 A3 : Option Addr) (c1 c2 c3 : Nat) (x4 : Value) (L : List (List Int)) (A : Option Addr) (c : Nat) (vs : List (Option Addr × Nat)) (l : List Int) (us : Array Value) (w : World)
    (h : Wk g n kp w0 w b base A1 A2 A3 c1 c2 c3 x4 L A c vs) (hus : us = (l.map (Value.int .i64)).toArray) (hlt : b < base) (hsm : L.length ≤ 100000000000) :
    Calls Try.prog 36 #[.pointer (some ⟨b, 0, none⟩), .slice (some ⟨w.heap.size, 0, none⟩) l.length l.length] (w.alloc (.cells us 3)) fun e w' => (∃ v, e = .returned v) ∧ w.heap.size ≤ w'.heap.size ∧ ∃ A' c' vs', Wk g n kp w0 w' b base A1 A2 A3 c1 c2 c3 x4 (L ++ [l]) A' c' vs' := by
  refine (putWk2_any g n kp w0 b base A1 A2 A3 c1 c2 c3 x4 L A c vs l us w h hus hlt hsm).mono ?_
  rintro e w' ⟨h1, h2, _, A', c', h3⟩
  exact ⟨h1, h2, A', c', _, h3⟩

theorem SomeRow.pushW {w w1 : World} {base i d d' n : Nat} {g : G} {frs : Int} {B B' : Option Addr} {vs : List (Option Addr × Nat)} {L : List (List Int)} {x : Int} {b : Nat} {kp : Nat → Prop} {w0 : World} {A1 A2 A3 A : Option Addr} {c1 c2 c3 c : Nat} {x4 : Value}
    (h : SomeRow w base g frs i B d vs L) (hM : Wk g n kp w0 w b base A1 A2 A3 c1 c2 c3 x4 L A c vs) (hlt : b < base) (hx : newV g frs i = x) (o : Obj)
    (ho : w1.ownsRow base 3 1 (.slice B' (i + 1) d') (i + 1) (((List.range i).map (newV g frs)).map (Value.int .i64) ++ [.int .i64 x])) (hk : Only (blockOf B) (w.alloc o) w1) (hb : ∀ k, blockOf B' k → blockOf B k ∨ k = (w.alloc o).heap.size) :
    Wk g n kp w0 w1 b base A1 A2 A3 c1 c2 c3 x4 L A c vs ∧ SomeRow w1 base g frs (i + 1) B' d' vs L := by
  obtain ⟨h1, h2⟩ := h
  have hal : Below w.heap.size w (w.alloc o) := (Below.refl _ _).alloc (Nat.le_refl _) _
  have hMa := hM.call hal
  have hba := own_base h1
  have h1a := own_below h1 hal
  refine ⟨⟨hMa.box.only hk (fun c => by have := hba _ c; omega), hMa.cl.off hk h2 (fun k c e => own_apart h1a hMa.cl.own (by decide) k e c), hMa.bel.then_ hk (fun k hk0 c hkp => ?_), hM.kb, hM.kt, Nat.le_trans hMa.size hk.size⟩, ?_, ?_⟩
  · rcases hM.kt k hkp with ⟨q1, q2⟩
    have := hba _ c
    rcases q2 with q2 | q2
    · omega
    · obtain ⟨a, ha, rfl⟩ := c
      subst ha
      rcases h1.2 with ⟨hv, _⟩ | ⟨q, cap, cur, hv, _, hh, _⟩
      · cases hv
      · injection hv with e1
        injection e1 with e1
        subst e1
        exact (q2 cur).2 ((hM.bel.block q q1 (fun hn => hn hkp)).symm.trans hh)
  · rw [List.range_succ, List.map_append, List.map_append]
    subst hx
    exact ho
  · exact h2.moved hM.cl (fun k c => (hb k c).imp id (fun e => by subst e; simp))


theorem atWk_any (g : G) (n b : Nat) (fr : Nat) (l : Int) (w : World) (hc : w.cell? ⟨b, 4, none⟩ = some (.int .i64 n)) (hm : g.Made n) (hf : fr ≤ 2) (h0 : 0 ≤ l) (h1 : l ≤ 2 * n) :
    Calls Try.prog 37 #[.pointer (some ⟨b, 0, none⟩), .int .i64 fr, .int .i64 l] w fun e w' => e = .returned (.int .i64 (atC g.vars fr l)) ∧ w' = w := by
  have hn := hm.hn
  obtain ⟨k, rfl⟩ := Int.eq_ofNat_of_zero_le h0
  rw [hm.vars]
  exact (atW_any b n fr k w hc (by omega) hf (by omega)).mono fun e w' h => ⟨h.1, h.2.symm⟩
end Go.Proofs.Ytkanekacjefcbaa
namespace Go.Proofs.Ytkanekacjefcbaa
open Go.RowKit

set_option maxHeartbeats 8000000 in
set_option maxRecDepth 100000 in
theorem frameW_any (g : G) (n : Nat) (kp : Nat → Prop) (w0 : World) (b base : Nat) (A1 A2 A3 : Option Addr) (c1 c2 c3 : Nat) (x4 : Value) (L : List (List Int)) (A : Option Addr) (c : Nat) (vs : List (Option Addr × Nat)) (fr : Nat) (w : World)
    (h : Wk g n kp w0 w b base A1 A2 A3 c1 c2 c3 x4 L A c vs) (hg : ∀ w', Only (fun k => ¬ kp k) w0 w' → g.At w' A1 A2 A3) (hm : g.Made n) (hf : fr ≤ 2) (hlt : b < base) (hsm : L.length + 3 * g.n2 + 1 ≤ 90000000000) :
    Calls Try.prog 35 #[.pointer (some ⟨b, 0, none⟩), .int .i64 fr] w fun e w' => (∃ v, e = .returned v) ∧ w.heap.size ≤ w'.heap.size ∧ ∃ A' c' vs', Wk g n kp w0 w' b base A1 A2 A3 c1 c2 c3 x4 (L ++ frameC g fr) A' c' vs' := by
  have HG := Lib.hid hg; clear hg
  have hv : (n : Int) = 1 + g.ins + g.n1 + g.n2 := by rw [← hm.vars]; rfl
  have HVN := Lib.hid hv; clear hv
  have hn := hm.hn
  have hins := hm.ins
  have hinb : g.ins + g.n1 + g.n2 < n := by have := HVN.out; omega
  have hone : (1 : Int) ≤ 2 * n := by have := HVN.out; omega
  go_enter Try.func35, Try.ntmps35
  go_wp2_with fail
  refine (atWk_any g n b fr 1 _ (h.box.cell (k := 4) (by omega)) hm hf (by omega) hone).mono ?_
  rintro e w1 ⟨rfl, rfl⟩
  go_wp2_with fail
  refine (putWk_any g n kp w0 b base A1 A2 A3 c1 c2 c3 x4 L A c vs [atC g.vars fr 1] _ _ h rfl hlt (by omega)).mono ?_
  rintro e w2 ⟨⟨v2, rfl⟩, hs2, A2', c2', vs2, h2⟩
  have b2 : w2.cell? ⟨b, 2, none⟩ = some (.slice A2 g.n2 c2) := h2.box.cell (k := 2) (by omega)
  go_wp2_with fail
  have hwl : w1.heap.size ≤ w2.heap.size := hs2
  go_loopw [21] (fun ix wi => ∃ i : Nat, i ≤ g.n2 ∧ ix = .int .i64 i ∧ w1.heap.size ≤ wi.heap.size ∧ Hid (∃ A c vs, Wk g n kp w0 wi b base A1 A2 A3 c1 c2 c3 x4 (L ++ [[atC g.vars fr 1]] ++ upC (gateC g fr) i) A c vs)) (fun ix _ => g.n2 - (intOf ix).toNat)
  case atStart => exact ⟨0, by omega, rfl, hwl, ⟨_, _, _, by rw [upC, List.append_nil]; exact h2⟩⟩
  case round =>
    clear h h2 b2 hwl hs2
    obtain ⟨i, hi, rfl, hwi, HM⟩ := hrel
    obtain ⟨A', c', vs', H⟩ := HM.out
    clear HM
    have hgr := HG.out _ H.bel
    by_cases hlt2 : i < g.n2
    · have hii : (i : Int) < g.n2 := by omega
      obtain ⟨ba, oa, hA, x0, x1⟩ := hgr.ands.at2 hlt2
      simp only [two] at x0 x1
      obtain ⟨r0, r1, r2, r3⟩ := hm.x i hlt2
      have hll : (L ++ [[atC g.vars fr 1]] ++ upC (gateC g fr) i).length ≤ L.length + 1 + 3 * g.n2 := by simp [upC_len]; omega
      have HGC : Hid (upC (gateC g fr) (i + 1) = upC (gateC g fr) i ++ gateC g fr i) := rfl
      have HF : Hid ((fr : Int) = 0 ∨ (fr : Int) = 1 ∨ (fr : Int) = 2) := Lib.hid (by omega)
      have HNN : Hid (g.vars = n) := hm.vars
      generalize hLL : L ++ [[atC g.vars fr 1]] ++ upC (gateC g fr) i = LL at *
      have HLL := Lib.hid hLL; clear hLL
      subst hA
      go_upto_region 4 with (fail)
      have z0 := (BoxAt.new wr [.int .i64 (g.X i), .int .i64 (g.Y i)] 49) 0 _ rfl
      have z1 := (BoxAt.new wr [.int .i64 (g.X i), .int .i64 (g.Y i)] 49) 1 _ rfl
      have Ha := H.call ((Below.refl _ _).alloc (Nat.le_refl _) (.cells #[.int .i64 (g.X i), .int .i64 (g.Y i)] 49))
      have hza : wr.heap.size ≤ (wr.alloc (.cells #[.int .i64 (g.X i), .int .i64 (g.Y i)] 49)).heap.size := by simp
      generalize wr.alloc (.cells #[.int .i64 (g.X i), .int .i64 (g.Y i)] 49) = wa at *
      generalize hnb : wr.heap.size = nb at *
      clear hnb x0 x1
      have b0 : wa.cell? ⟨b, 0, none⟩ = some (.int .i64 g.ins) := Ha.box.cell (k := 0) (by omega)
      have b1 : wa.cell? ⟨b, 1, none⟩ = some (.slice A1 g.n1 c1) := Ha.box.cell (k := 1) (by omega)
      have b4 : wa.cell? ⟨b, 4, none⟩ = some (.int .i64 n) := Ha.box.cell (k := 4) (by omega)
      have hlo : (0 : Int) ≤ 2 * (1 + g.ins + g.n1 + i) := by omega
      have hhi : 2 * (1 + g.ins + (g.n1 : Int) + i) ≤ 2 * n := by omega
      have hxx : g.X i ≤ 2 * n := by omega
      have hyy : g.Y i ≤ 2 * n := by omega
      have e1 : IntKind.i64.wrap (1 + g.ins) = 1 + g.ins := IntWalk.i64_in _ (by omega)
      have e2 : IntKind.i64.wrap (1 + g.ins + (g.n1 : Int)) = 1 + g.ins + g.n1 := IntWalk.i64_in _ (by omega)
      have e3 : IntKind.i64.wrap (1 + g.ins + (g.n1 : Int) + i) = 1 + g.ins + g.n1 + i := IntWalk.i64_in _ (by omega)
      have e4 : IntKind.i64.wrap (2 * (1 + g.ins + (g.n1 : Int) + i)) = 2 * (1 + g.ins + g.n1 + i) := IntWalk.i64_in _ (by omega)
      go_quiet ((go_at_call 37; first | exact Calls.quiet_of_same (atWk_any g n b fr _ _ b4 hm hf hlo hhi) | exact Calls.quiet_of_same (atWk_any g n b fr _ _ b4 hm hf r0 hxx) | exact Calls.quiet_of_same (atWk_any g n b fr _ _ b4 hm hf r2 hyy)))
      clear e1 e2 e3 e4 b0 b1 b4 z0 z1
      have Hc := Ha.call (drawn_below wa nq)
      have hzc : nb ≤ (wa.drewN nq).heap.size := hza
      generalize wa.drewN nq = wc at *
      have hX := atC_bd (n := g.vars) (fr := fr) (l := 2 * (1 + g.ins + g.n1 + i)) (by rw [HNN.out]; omega) (by rw [HNN.out]; omega) HF.out hlo (by rw [HNN.out]; exact hhi)
      have hP := atC_bd (n := g.vars) (fr := fr) (l := g.X i) (by rw [HNN.out]; omega) (by rw [HNN.out]; omega) HF.out r0 (by rw [HNN.out]; omega)
      have hQ := atC_bd (n := g.vars) (fr := fr) (l := g.Y i) (by rw [HNN.out]; omega) (by rw [HNN.out]; omega) HF.out r2 (by rw [HNN.out]; omega)
      have HGT : Hid (gateC g fr i = [[-atC g.vars fr (2 * (1 + g.ins + g.n1 + i)), atC g.vars fr (g.X i)], [-atC g.vars fr (2 * (1 + g.ins + g.n1 + i)), atC g.vars fr (g.Y i)], [atC g.vars fr (2 * (1 + g.ins + g.n1 + i)), -atC g.vars fr (g.X i), -atC g.vars fr (g.Y i)]]) := rfl
      generalize atC g.vars fr (2 * (1 + g.ins + g.n1 + i)) = X at *
      generalize atC g.vars fr (g.X i) = P at *
      generalize atC g.vars fr (g.Y i) = Q at *
      go_wp2_with fail
      refine (putWk_any g n kp w0 b base A1 _ A3 c1 c2 c3 x4 _ _ _ _ [-X, P] _ _ Hc rfl hlt (by omega)).mono ?_
      rintro e wd ⟨⟨v3, rfl⟩, hzd, Ad, cd, vd, Hd⟩
      go_wp2_with fail
      refine (putWk_any g n kp w0 b base A1 _ A3 c1 c2 c3 x4 _ _ _ _ [-X, Q] _ _ Hd rfl hlt (by simp; omega)).mono ?_
      rintro e we ⟨⟨v4, rfl⟩, hze, Ae, ce, ve, He⟩
      go_wp2_with fail
      refine (putWk_any g n kp w0 b base A1 _ A3 c1 c2 c3 x4 _ _ _ _ [X, -P, -Q] _ _ He rfl hlt (by simp; omega)).mono ?_
      rintro e wf ⟨⟨v5, rfl⟩, hzf, Af, cf, vf, Hf⟩
      have HS : Hid (∃ A c vs, Wk g n kp w0 wf b base A1 (some ⟨ba, oa, none⟩) A3 c1 c2 c3 x4 (L ++ [[atC g.vars fr 1]] ++ upC (gateC g fr) (i + 1)) A c vs) := Lib.hid ⟨Af, cf, vf, by
        have e1 : L ++ [[atC g.vars fr 1]] ++ upC (gateC g fr) (i + 1) = LL ++ [[-X, P]] ++ [[-X, Q]] ++ [[X, -P, -Q]] := by
          rw [HGC.out, HGT.out, ← List.append_assoc, HLL.out]
          simp
        rw [e1]
        exact Hf⟩
      clear H Ha Hc Hd He Hf
      go_wp2_with fail
      go_roundw
      case rel => exact ⟨i + 1, by omega, by go_num, by omega, HS⟩
      case measure => simp [intOf]; omega
    · obtain rfl : i = g.n2 := by omega
      go_wp2_with fail
      go_end0
      refine ⟨⟨_, rfl⟩, hwi, A', c', vs', ?_⟩
      have e1 : L ++ frameC g fr = L ++ [[atC g.vars fr 1]] ++ upC (gateC g fr) g.n2 := by simp [frameC]
      rw [e1]
      exact H
end Go.Proofs.Ytkanekacjefcbaa
namespace Go.Proofs.Ytkanekacjefcbaa
open Go.RowKit

set_option maxHeartbeats 8000000 in
set_option maxRecDepth 100000 in
theorem alikeW_any (g : G) (n : Nat) (kp : Nat → Prop) (w0 : World) (b base : Nat) (A1 A2 A3 : Option Addr) (c1 c2 c3 : Nat) (x4 : Value) (L : List (List Int)) (A : Option Addr) (c : Nat) (vs : List (Option Addr × Nat)) (fr : Nat) (PA : Option Addr) (np pc : Nat) (P Q : Nat → Int) (w : World)
    (h : Wk g n kp w0 w b base A1 A2 A3 c1 c2 c3 x4 L A c vs) (hp : ∀ w', Only (fun k => ¬ kp k) w0 w' → RowS w' 2 PA np (fun k => two (.int .i64 (P k)) (.int .i64 (Q k)))) (hpr : ∀ i, i < np → 0 ≤ P i ∧ P i < 2 * n ∧ 0 ≤ Q i ∧ Q i < 2 * n)
    (hm : g.Made n) (hf : fr ≤ 2) (hlt : b < base) (hsm : L.length + 2 * np ≤ 90000000000) :
    Calls Try.prog 40 #[.pointer (some ⟨b, 0, none⟩), .int .i64 fr, .slice PA np pc] w fun e w' => (∃ v, e = .returned v) ∧ w.heap.size ≤ w'.heap.size ∧ ∃ A' c' vs', Wk g n kp w0 w' b base A1 A2 A3 c1 c2 c3 x4 (L ++ upC (sameC g fr P Q) np) A' c' vs' := by
  have HP := Lib.hid hp; clear hp
  have HPR := Lib.hid hpr; clear hpr
  have hn := hm.hn
  have hnp : np ≤ 90000000000 := by omega
  go_enter Try.func40, Try.ntmps40
  go_wp2_with fail
  go_loopw [12] (fun ix wi => ∃ i : Nat, i ≤ np ∧ ix = .int .i64 i ∧ w.heap.size ≤ wi.heap.size ∧ Hid (∃ A c vs, Wk g n kp w0 wi b base A1 A2 A3 c1 c2 c3 x4 (L ++ upC (sameC g fr P Q) i) A c vs)) (fun ix _ => np - (intOf ix).toNat)
  case atStart => exact ⟨0, by omega, rfl, Nat.le_refl _, ⟨_, _, _, by rw [upC, List.append_nil]; exact h⟩⟩
  case round =>
    clear h
    obtain ⟨i, hi, rfl, hwi, HM⟩ := hrel
    obtain ⟨A', c', vs', H⟩ := HM.out
    clear HM
    by_cases hlt2 : i < np
    · have hii : (i : Int) < np := by omega
      obtain ⟨ba, oa, hA, x0, x1⟩ := (HP.out _ H.bel).at2 hlt2
      simp only [two] at x0 x1
      obtain ⟨r0, r1, r2, r3⟩ := HPR.out i hlt2
      have hll : (L ++ upC (sameC g fr P Q) i).length ≤ L.length + 2 * np := by simp [sameC_len]; omega
      have HGC : Hid (upC (sameC g fr P Q) (i + 1) = upC (sameC g fr P Q) i ++ sameC g fr P Q i) := rfl
      have HF : Hid ((fr : Int) = 0 ∨ (fr : Int) = 1 ∨ (fr : Int) = 2) := Lib.hid (by omega)
      have HNN : Hid (g.vars = n) := hm.vars
      generalize hLL : L ++ upC (sameC g fr P Q) i = LL at *
      have HLL := Lib.hid hLL; clear hLL
      subst hA
      go_upto_region 3 with (fail)
      have z0 := (BoxAt.new wr [.int .i64 (P i), .int .i64 (Q i)] 49) 0 _ rfl
      have z1 := (BoxAt.new wr [.int .i64 (P i), .int .i64 (Q i)] 49) 1 _ rfl
      have Ha := H.call ((Below.refl _ _).alloc (Nat.le_refl _) (.cells #[.int .i64 (P i), .int .i64 (Q i)] 49))
      have hza : wr.heap.size ≤ (wr.alloc (.cells #[.int .i64 (P i), .int .i64 (Q i)] 49)).heap.size := by simp
      generalize wr.alloc (.cells #[.int .i64 (P i), .int .i64 (Q i)] 49) = wa at *
      generalize hnb : wr.heap.size = nb at *
      clear hnb x0 x1
      have b4 : wa.cell? ⟨b, 4, none⟩ = some (.int .i64 n) := Ha.box.cell (k := 4) (by omega)
      have hxx : P i ≤ 2 * n := by omega
      have hyy : Q i ≤ 2 * n := by omega
      go_quiet ((go_at_call 37; first | exact Calls.quiet_of_same (atWk_any g n b fr _ _ b4 hm hf r0 hxx) | exact Calls.quiet_of_same (atWk_any g n b fr _ _ b4 hm hf r2 hyy)))
      clear b4 z0 z1
      have Hb := Ha.call (drawn_below wa nq)
      have hzb : nb ≤ (wa.drewN nq).heap.size := hza
      generalize wa.drewN nq = wb at *
      have hP := atC_bd (n := g.vars) (fr := fr) (l := P i) (by rw [HNN.out]; omega) (by rw [HNN.out]; omega) HF.out r0 (by rw [HNN.out]; omega)
      have hQ := atC_bd (n := g.vars) (fr := fr) (l := Q i) (by rw [HNN.out]; omega) (by rw [HNN.out]; omega) HF.out r2 (by rw [HNN.out]; omega)
      have HGT : Hid (sameC g fr P Q i = [[-atC g.vars fr (P i), atC g.vars fr (Q i)], [atC g.vars fr (P i), -atC g.vars fr (Q i)]]) := rfl
      generalize atC g.vars fr (P i) = X at *
      generalize atC g.vars fr (Q i) = Y at *
      go_wp2_with fail
      refine (putWk_any g n kp w0 b base A1 A2 A3 c1 c2 c3 x4 _ _ _ _ [-X, Y] _ _ Hb rfl hlt (by omega)).mono ?_
      rintro e wd ⟨⟨v3, rfl⟩, hzd, Ad, cd, vd, Hd⟩
      go_wp2_with fail
      refine (putWk_any g n kp w0 b base A1 A2 A3 c1 c2 c3 x4 _ _ _ _ [X, -Y] _ _ Hd rfl hlt (by simp; omega)).mono ?_
      rintro e wf ⟨⟨v5, rfl⟩, hzf, Af, cf, vf, Hf⟩
      have HS : Hid (∃ A c vs, Wk g n kp w0 wf b base A1 A2 A3 c1 c2 c3 x4 (L ++ upC (sameC g fr P Q) (i + 1)) A c vs) := Lib.hid ⟨Af, cf, vf, by
        have e1 : L ++ upC (sameC g fr P Q) (i + 1) = LL ++ [[-X, Y]] ++ [[X, -Y]] := by
          rw [HGC.out, HGT.out, ← List.append_assoc, HLL.out]
          simp
        rw [e1]
        exact Hf⟩
      clear H Ha Hb Hd Hf
      go_wp2_with fail
      go_roundw
      case rel => exact ⟨i + 1, by omega, by go_num, by omega, HS⟩
      case measure => simp [intOf]; omega
    · obtain rfl : i = np := by omega
      go_wp2_with fail
      go_end0
      exact ⟨⟨_, rfl⟩, hwi, A', c', vs', H⟩

set_option maxHeartbeats 8000000 in
set_option maxRecDepth 100000 in
theorem unlikeW_any (g : G) (n : Nat) (kp : Nat → Prop) (w0 : World) (b base : Nat) (A1 A2 A3 : Option Addr) (c1 c2 c3 : Nat) (x4 : Value) (L : List (List Int)) (A : Option Addr) (c : Nat) (vs : List (Option Addr × Nat)) (fr frs : Nat) (PA : Option Addr) (np pc : Nat) (P Q : Nat → Int) (w : World)
    (h : Wk g n kp w0 w b base A1 A2 A3 c1 c2 c3 x4 L A c vs) (hp : ∀ w', Only (fun k => ¬ kp k) w0 w' → RowS w' 2 PA np (fun k => two (.int .i64 (P k)) (.int .i64 (Q k)))) (hpr : ∀ i, i < np → 0 ≤ P i ∧ P i < 2 * n ∧ 0 ≤ Q i ∧ Q i < 2 * n)
    (hm : g.Made n) (hf : fr ≤ 2) (hfs : frs ≤ 2) (hlt : b < base) (hsm : L.length + 2 * np ≤ 90000000000) :
    Calls Try.prog 39 #[.pointer (some ⟨b, 0, none⟩), .int .i64 fr, .slice PA np pc, .int .i64 frs] w fun e w' => (∃ v, e = .returned v) ∧ w.heap.size ≤ w'.heap.size ∧ ∃ A' c' vs', Wk g n kp w0 w' b base A1 A2 A3 c1 c2 c3 (.int .i64 (frs * g.vars + np)) (L ++ unlikeC g fr frs np P Q) A' c' vs' := by
  have HP := Lib.hid hp; clear hp
  have HPR := Lib.hid hpr; clear hpr
  have hn := hm.hn
  have HV0 := Lib.hid hm.vars
  have hnp : np ≤ 90000000000 := by omega
  obtain ⟨m, hmm⟩ : ∃ m : Nat, m = frs * n := ⟨_, rfl⟩
  have hmul : (frs : Int) * n = m := by rw [hmm]; simp
  have hmb : m ≤ 2000000000 := by
    rw [hmm]
    exact Nat.le_trans (Nat.mul_le_mul hfs hn) (by decide)
  have HMUL := Lib.hid hmul
  clear hmm hmul
  go_enter Try.func39, Try.ntmps39
  go_wp2_with fail
  go_loopw [8, 16] (fun sv ix wi => ∃ (i : Nat) (B : Option Addr) (d : Nat), i ≤ np ∧ ix = .int .i64 i ∧ sv = .slice B i d ∧ w.heap.size ≤ wi.heap.size ∧ Hid (∃ A c vs, Wk g n kp w0 wi b base A1 A2 A3 c1 c2 c3 x4 (L ++ upC (diffC g fr frs P Q) i) A c vs ∧ SomeRow wi base g frs i B d vs (L ++ upC (diffC g fr frs P Q) i))) (fun _ ix _ => np - (intOf ix).toNat)
  case atStart => exact ⟨0, none, 0, by omega, rfl, rfl, Nat.le_refl _, ⟨_, _, _, by rw [upC, List.append_nil]; exact h, World.ownsRow_nil _ _ _ _, by rw [upC, List.append_nil]; exact Off.nil _ _⟩⟩
  case round =>
    clear h
    obtain ⟨i, B, d, hi, rfl, rfl, hwi, HM⟩ := hrel
    obtain ⟨A', c', vs', H, HS⟩ := HM.out
    clear HM
    have HSH := Lib.hid HS; clear HS
    by_cases hlt2 : i < np
    · have hii : (i : Int) < np := by omega
      obtain ⟨ba, oa, hA, x0, x1⟩ := (HP.out _ H.bel).at2 hlt2
      simp only [two] at x0 x1
      obtain ⟨r0, r1, r2, r3⟩ := HPR.out i hlt2
      have hll : (L ++ upC (diffC g fr frs P Q) i).length ≤ L.length + 2 * np := by simp [diffC_len]; omega
      have HGC : Hid (upC (diffC g fr frs P Q) (i + 1) = upC (diffC g fr frs P Q) i ++ diffC g fr frs P Q i) := rfl
      have HF : Hid ((fr : Int) = 0 ∨ (fr : Int) = 1 ∨ (fr : Int) = 2) := Lib.hid (by omega)
      have HNW : Hid (newV g frs i = m + 1 + i) := Lib.hid (by unfold newV; rw [HV0.out, HMUL.out])
      generalize hLL : L ++ upC (diffC g fr frs P Q) i = LL at *
      have HLL := Lib.hid hLL; clear hLL
      subst hA
      go_upto_region 4 with (fail)
      have z0 := (BoxAt.new wr [.int .i64 (P i), .int .i64 (Q i)] 49) 0 _ rfl
      have z1 := (BoxAt.new wr [.int .i64 (P i), .int .i64 (Q i)] 49) 1 _ rfl
      have hal : Below wr.heap.size wr (wr.alloc (.cells #[.int .i64 (P i), .int .i64 (Q i)] 49)) := (Below.refl _ _).alloc (Nat.le_refl _) _
      have Ha := H.call hal
      have HSa : Hid (SomeRow (wr.alloc (.cells #[.int .i64 (P i), .int .i64 (Q i)] 49)) base g frs i B d vs' LL) := Lib.hid ⟨own_below HSH.out.1 hal, HSH.out.2⟩
      have hza : wr.heap.size ≤ (wr.alloc (.cells #[.int .i64 (P i), .int .i64 (Q i)] 49)).heap.size := by simp
      clear hal
      generalize wr.alloc (.cells #[.int .i64 (P i), .int .i64 (Q i)] 49) = wa at *
      generalize hnb : wr.heap.size = nb at *
      clear hnb x0 x1
      have b4 : wa.cell? ⟨b, 4, none⟩ = some (.int .i64 n) := Ha.box.cell (k := 4) (by omega)
      have hxx : P i ≤ 2 * n := by omega
      have hyy : Q i ≤ 2 * n := by omega
      have e1 : IntKind.i64.wrap ((frs : Int) * n) = m := by rw [HMUL.out]; exact IntWalk.i64_in _ (by omega)
      have e2 : IntKind.i64.wrap ((m : Int) + 1) = m + 1 := IntWalk.i64_in _ (by omega)
      have e3 : IntKind.i64.wrap ((m : Int) + 1 + i) = m + 1 + i := IntWalk.i64_in _ (by omega)
      go_quiet ((go_at_call 37; first | exact Calls.quiet_of_same (atWk_any g n b fr _ _ b4 hm hf r0 hxx) | exact Calls.quiet_of_same (atWk_any g n b fr _ _ b4 hm hf r2 hyy)))
      clear b4 z0 z1 e1 e2 e3
      have Hb := Ha.call (drawn_below wa nq)
      have HSb : Hid (SomeRow (wa.drewN nq) base g frs i B d vs' LL) := Lib.hid ⟨own_below HSa.out.1 (drawn_below wa nq), HSa.out.2⟩
      have hzb : nb ≤ (wa.drewN nq).heap.size := hza
      generalize wa.drewN nq = wb at *
      have hP := atC_bd (n := g.vars) (fr := fr) (l := P i) (by rw [HV0.out]; omega) (by rw [HV0.out]; omega) HF.out r0 (by rw [HV0.out]; omega)
      have hQ := atC_bd (n := g.vars) (fr := fr) (l := Q i) (by rw [HV0.out]; omega) (by rw [HV0.out]; omega) HF.out r2 (by rw [HV0.out]; omega)
      have HGT : Hid (diffC g fr frs P Q i = [[-((m : Int) + 1 + i), atC g.vars fr (P i), atC g.vars fr (Q i)], [-((m : Int) + 1 + i), -atC g.vars fr (P i), -atC g.vars fr (Q i)]]) := Lib.hid (by unfold diffC; rw [HNW.out])
      generalize atC g.vars fr (P i) = X at *
      generalize atC g.vars fr (Q i) = Y at *
      go_wp2_with fail
      refine (putWk2_any g n kp w0 b base A1 A2 A3 c1 c2 c3 x4 _ _ _ _ [-((m : Int) + 1 + i), X, Y] _ _ Hb rfl hlt (by omega)).mono ?_
      rintro e wd ⟨⟨v3, rfl⟩, hzd, hkd, Ad, cd, Hd⟩
      have HSd : Hid (SomeRow wd base g frs i B d _ _) := Lib.hid (hkd B i d _ HSb.out.1 HSb.out.2)
      clear hkd
      go_wp2_with fail
      refine (putWk2_any g n kp w0 b base A1 A2 A3 c1 c2 c3 x4 _ _ _ _ [-((m : Int) + 1 + i), -X, -Y] _ _ Hd rfl hlt (by simp; omega)).mono ?_
      rintro e wf ⟨⟨v5, rfl⟩, hzf, hkf, Af, cf, Hf⟩
      have HSf : Hid (SomeRow wf base g frs i B d _ _) := Lib.hid (hkf B i d _ HSd.out.1 HSd.out.2)
      clear hkf
      clear H Ha Hb Hd HSd HSb HSa HSH
      go_wp2_with (at_builtin; refine wp_append rfl (.tmp 56) (.tmp 58) _ rfl elIntJ base B i d _ rfl (HSf.out.1.alloc _) _ 1 1 [.int .i64 ((m : Int) + 1 + i)] rfl (src_new _ _ _ rfl) (by omega) (sz_alloc Hf.size) ?_; intro B' d' w8 ho hk' hb'; have H8 := Lib.hid (HSf.out.pushW Hf hlt HNW.out _ ho hk' hb'); have hz8 := hk'.size; clear ho hk' hb')
      go_roundw
      case rel => exact ⟨i + 1, B', d', by omega, by go_num, rfl, (by simp at hz8; omega), Lib.hid ⟨Af, cf, _, by
        have e1 : L ++ upC (diffC g fr frs P Q) (i + 1) = LL ++ [[-((m : Int) + 1 + i), X, Y]] ++ [[-((m : Int) + 1 + i), -X, -Y]] := by
          rw [HGC.out, HGT.out, ← List.append_assoc, HLL.out]
          simp
        rw [e1]
        exact H8.out⟩⟩
      case measure => simp [intOf]; omega
    · obtain rfl : i = np := by omega
      have hlen : ((List.range i).map (newV g frs)).length = i := by simp
      have C := putWk3_any g n kp w0 b base A1 A2 A3 c1 c2 c3 x4 _ A' c' vs' ((List.range i).map (newV g frs)) B d wr H (OwnL.of_own HSH.out.1 hlen) hlt (by simp [diffC_len]; omega)
      rw [hlen] at C
      have HU : Hid (L ++ unlikeC g fr frs i P Q = L ++ upC (diffC g fr frs P Q) i ++ [(List.range i).map (newV g frs)]) := Lib.hid (by simp [unlikeC])
      clear hlen
      generalize (List.range i).map (newV g frs) = sl at *
      generalize L ++ upC (diffC g fr frs P Q) i = LL at *
      have HC := Lib.hid C; clear C
      clear H
      go_wp2_with fail
      refine HC.out.mono ?_
      rintro e wv ⟨⟨v0, rfl⟩, hO, A9, c9, Hv⟩
      have hza := hO.size
      clear hO HC
      have b4 : wv.cell? ⟨b, 4, none⟩ = some (.int .i64 n) := Hv.box.cell (k := 4) (by omega)
      have p5 : wv.cell? ⟨b, 5, none⟩ = some x4 := Hv.box.cell (k := 5) (by omega)
      have f5 := Hv.box.thaw 5
      have hmul2 : (frs : Int) * n = m := HMUL.out
      go_wp2_with fail
      clear hmul2
      go_end0
      refine ⟨⟨_, rfl⟩, by simp [World.setCell]; omega, A9, c9, vs' ++ [(B, d)], ?_⟩
      rw [HU.out, HV0.out, HMUL.out]
      have hOs : Only (fun k => k = b) wv (wv.setCell ⟨b, 5, none⟩ (.int .i64 ((m : Int) + i))) := (Only.refl (fun k => k = b) wv).setCell (p := ⟨b, 5, none⟩) (fun _ => rfl) _
      exact ⟨Hv.box.set (fun j hj hne => (by
          obtain rfl | rfl | rfl | rfl | rfl | rfl : j = 0 ∨ j = 1 ∨ j = 2 ∨ j = 3 ∨ j = 4 ∨ j = 6 := by omega
          all_goals rfl)) rfl, Hv.cl.only hOs (fun k hk e => by omega), Hv.bel.then_ hOs (fun k hk c hkp => by subst c; exact Hv.kb hkp), Hv.kb, Hv.kt, Nat.le_trans Hv.size hOs.size⟩
end Go.Proofs.Ytkanekacjefcbaa
