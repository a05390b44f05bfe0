/- The reference's maker of formulas: a frame, walked. Conditions: the maker and its graph lie in memory. -/
import Derived.Test.YtkanekacjefcbaaJfM
import Derived.Test.YtkanekacjefcbaaStep
namespace Go.Proofs.Ytkanekacjefcbaa
open Go.RowKit

/-- a graph that a formula is made of: small, its literals in range -/
structure G.Made (g : G) (n : Nat) : Prop where
  ins : 0 ≤ g.ins
  vars : g.vars = n
  hn : n ≤ 1000000000
  x : ∀ i, i < g.n2 → 0 ≤ g.X i ∧ g.X i < 2 * n ∧ 0 ≤ g.Y i ∧ g.Y i < 2 * n
  l : ∀ i, i < g.n1 → 0 ≤ g.L i ∧ g.L i < 2 * n
  o : ∀ i, i < g.n3 → 0 ≤ g.O i ∧ g.O i < 2 * n

def mkV (g : G) (A1 A2 A3 : Option Addr) (c1 c2 c3 : Nat) (x4 x5 : Value) (j : Nat) : Value :=
  [Value.int .i64 g.ins, .slice A1 g.n1 c1, .slice A2 g.n2 c2, .slice A3 g.n3 c3, x4, x5].getD j undef
/-- the reference's maker in block b, its clauses so far -/
structure Mk (g : G) (kp : Nat → Prop) (w0 w : World) (b base : Nat) (A1 A2 A3 : Option Addr) (c1 c2 c3 : Nat) (x4 : Value) (L : List (List Int)) (A : Option Addr) (c : Nat) (vs : List (Option Addr × Nat)) : Prop where
  box : Arr w b 83 6 (mkV g A1 A2 A3 c1 c2 c3 x4 (.slice A L.length c))
  cl : Cl w base A c L vs
  bel : Only (fun k => ¬ kp k) w0 w
  kb : ¬ kp b
  kt : ∀ k, kp k → k < w0.heap.size ∧ (k < base ∨ ∀ cur, w0.heap[k]? ≠ some (.cells cur 26 (0, 0)) ∧ w0.heap[k]? ≠ some (.cells cur 3 (0, 0)))
  size : base ≤ w.heap.size
section
variable {g : G} {kp : Nat → Prop} {w0 w w1 : World} {b base c1 c2 c3 c : Nat} {A1 A2 A3 A : Option Addr} {x4 : Value} {L : List (List Int)} {vs : List (Option Addr × Nat)}
theorem Mk.call (h : Mk g kp w0 w b base A1 A2 A3 c1 c2 c3 x4 L A c vs) (hb : Below w.heap.size w w1) : Mk g kp w0 w1 b base A1 A2 A3 c1 c2 c3 x4 L A c vs :=
  ⟨h.box.below hb, h.cl.below hb, h.bel.call hb, h.kb, h.kt, Nat.le_trans h.size hb.size⟩
end

theorem drawn_below (w : World) (q : Nat) : Below w.heap.size w (w.drewN q) := ⟨rfl, rfl, rfl, Nat.le_refl _, fun _ _ => rfl⟩
/-- one clause more, wherever it lies -/
theorem putMk3_any (g : G) (kp : Nat → Prop) (w0 : World) (b base : Nat) (A1 A2 A3 : Option Addr) (c1 c2 c3 : Nat) (x4 : Value) (L : List (List Int)) (A : Option Addr) (c : Nat) (vs : List (Option Addr × Nat)) (l : List Int) (B : Option Addr) (d : Nat) (w : World)
    (h1 : Mk g kp w0 w b base A1 A2 A3 c1 c2 c3 x4 L A c vs) (hl : OwnL w base B l) (hlt : b < base) (hsm : L.length ≤ 100000000000) :
    Calls Try.prog 46 #[.pointer (some ⟨b, 0, none⟩), .slice B l.length d] w fun e w' => (∃ v, e = .returned v) ∧ Only (fun k => k = b ∨ blockOf A k) w w' ∧ ∃ A' c', Mk g kp w0 w' b base A1 A2 A3 c1 c2 c3 x4 (L ++ [l]) A' c' (vs ++ [(B, d)]) := by
  refine (putM_any b base _ A c L vs B d l _ h1.box rfl h1.cl hl hlt h1.size hsm).mono ?_
  rintro e w' ⟨hv, A', c', hA, hC, hO⟩
  have hs := hO.size
  refine ⟨hv, hO, A', c', ⟨hA.congr (fun j hj => ?_), hC, ?_, h1.kb, h1.kt, Nat.le_trans h1.size hs⟩⟩
  · obtain rfl | rfl | rfl | rfl | rfl | rfl : j = 0 ∨ j = 1 ∨ j = 2 ∨ j = 3 ∨ j = 4 ∨ j = 5 := by omega
    all_goals rfl
  · refine h1.bel.then_ hO (fun i hi c hk => ?_)
    rcases c with rfl | c
    · exact h1.kb hk
    · obtain ⟨h0, h2⟩ := h1.kt i hk
      have hbi := own_base h1.cl.own i c
      rcases h2 with h2 | h2
      · omega
      · obtain ⟨a, ha, rfl⟩ := c
        subst ha
        rcases h1.cl.own.2 with ⟨hv, _⟩ | ⟨q, cap, cur, hv, _, hh, _⟩
        · cases hv
        · injection hv with e1
          injection e1 with e1
          subst e1
          have he := h1.bel.block q h0 (fun hn => hn hk)
          exact (h2 cur).1 (he.symm.trans hh)
/-- one clause more, made on the spot -/
theorem putMk2_any (g : G) (kp : Nat → Prop) (w0 : World) (b base : Nat) (A1 A2 A3 : Option Addr) (c1 c2 c3 : Nat) (x4 : Value) (L : List (List Int)) (A : Option Addr) (c : Nat) (vs : List (Option Addr × Nat)) (l : List Int) (us : Array Value) (w : World)
    (h : Mk g kp w0 w b base A1 A2 A3 c1 c2 c3 x4 L A c vs) (hus : us = (l.map (Value.int .i64)).toArray) (hlt : b < base) (hsm : L.length ≤ 100000000000) :
    Calls Try.prog 46 #[.pointer (some ⟨b, 0, none⟩), .slice (some ⟨w.heap.size, 0, none⟩) l.length l.length] (w.alloc (.cells us 3)) fun e w' => (∃ v, e = .returned v) ∧ w.heap.size ≤ w'.heap.size ∧ (∀ (B' : Option Addr) (m d' : Nat) (xs : List Value), w.ownsRow base 3 1 (.slice B' m d') m xs → Off vs L B' → w'.ownsRow base 3 1 (.slice B' m d') m xs ∧ Off (vs ++ [(some ⟨w.heap.size, 0, none⟩, l.length)]) (L ++ [l]) B') ∧ ∃ A' c', Mk g kp w0 w' b base A1 A2 A3 c1 c2 c3 x4 (L ++ [l]) A' c' (vs ++ [(some ⟨w.heap.size, 0, none⟩, l.length)]) := by
  have hal : Below w.heap.size w (w.alloc (.cells us 3)) := (Below.refl _ _).alloc (Nat.le_refl _) _
  have h1 := h.call hal
  refine (putMk3_any g kp w0 b base A1 A2 A3 c1 c2 c3 x4 L A c vs l _ l.length _ h1 (OwnL.new w base l us hus h.size) hlt hsm).mono ?_
  rintro e w' ⟨hv, hO, hM⟩
  have hs := hO.size
  refine ⟨hv, by simp at hs; omega, fun B' m d' xs ho hoff => ⟨own_only (own_below ho hal) hO (fun k hk c => c.elim (fun e => by have := own_base ho k hk; omega) (fun c => own_apart (own_below ho hal) h1.cl.own (by decide) k hk c)), hoff.push h.cl.len (fun k hk hb => ?_)⟩, hM⟩
  obtain ⟨a, ha, rfl⟩ := hk
  injection ha with ha
  subst ha
  have := own_lt ho _ hb
  exact Nat.lt_irrefl _ this

/-- .. in short -/
theorem putMk_any (g : G) (kp : Nat → Prop) (w0 : World) (b base : Nat) (A1 A2 A3 : Option Addr) (c1 c2 c3 : Nat) (x4 : Value) (L : List (List Int)) (A : Option Addr) (c : Nat) (vs : List (Option Addr × Nat)) (l : List Int) (us : Array Value) (w : World)
    (h : Mk g kp w0 w b base A1 A2 A3 c1 c2 c3 x4 L A c vs) (hus : us = (l.map (Value.int .i64)).toArray) (hlt : b < base) (hsm : L.length ≤ 100000000000) :
    Calls Try.prog 46 #[.pointer (some ⟨b, 0, none⟩), .slice (some ⟨w.heap.size, 0, none⟩) l.length l.length] (w.alloc (.cells us 3)) fun e w' => (∃ v, e = .returned v) ∧ w.heap.size ≤ w'.heap.size ∧ ∃ A' c' vs', Mk g kp w0 w' b base A1 A2 A3 c1 c2 c3 x4 (L ++ [l]) A' c' vs' := by
  refine (putMk2_any g kp w0 b base A1 A2 A3 c1 c2 c3 x4 L A c vs l us w h hus hlt hsm).mono ?_
  rintro e w' ⟨h1, h2, _, A', c', h3⟩
  exact ⟨h1, h2, A', c', _, h3⟩

theorem atC_bd {n fr l : Int} (h0 : 0 ≤ n) (h1 : n ≤ 1000000000) (hf : fr = 0 ∨ fr = 1 ∨ fr = 2) (hl : 0 ≤ l) (hl2 : l ≤ 2 * n) : -10000000000 ≤ atC n fr l ∧ atC n fr l ≤ 10000000000 := by
  unfold atC
  rcases hf with rfl | rfl | rfl
  all_goals split <;> omega
theorem upC_len {g : G} {fr : Int} : ∀ k, (upC (gateC g fr) k).length = 3 * k
  | 0 => rfl
  | k + 1 => by simp only [upC, List.length_append, upC_len k]; simp [gateC]; omega
theorem atMk_any (g : G) (n : Nat) (kp : Nat → Prop) (w0 : World) (b base : Nat) (A1 A2 A3 : Option Addr) (c1 c2 c3 : Nat) (x4 : Value) (L : List (List Int)) (A : Option Addr) (c : Nat) (vs : List (Option Addr × Nat)) (fr : Nat) (l : Int) (w : World)
    (h : Mk g kp w0 w b base A1 A2 A3 c1 c2 c3 x4 L A c vs) (hm : g.Made n) (hf : fr ≤ 2) (h0 : 0 ≤ l) (h1 : l ≤ 2 * n) :
    Calls Try.prog 47 #[.pointer (some ⟨b, 0, none⟩), .int .i64 fr, .int .i64 l] w fun e w' => e = .returned (.int .i64 (atC g.vars fr l)) ∧ Below w.heap.size w w' := by
  have hn := hm.hn
  obtain ⟨k, rfl⟩ := Int.eq_ofNat_of_zero_le h0
  rw [hm.vars]
  exact atM_any g b fr k A1 A2 A3 c1 c2 c3 n w (h.box.cell (k := 0) (by omega)) (h.box.cell (k := 1) (by omega)) (h.box.cell (k := 2) (by omega)) (h.box.cell (k := 3) (by omega)) hm.ins hm.vars (by omega) hf (by omega)

set_option maxHeartbeats 8000000 in
set_option maxRecDepth 100000 in
theorem frameM_any (g : G) (n : Nat) (kp : Nat → Prop) (w0 : World) (b base : Nat) (A1 A2 A3 : Option Addr) (c1 c2 c3 : Nat) (x4 : Value) (L : List (List Int)) (A : Option Addr) (c : Nat) (vs : List (Option Addr × Nat)) (fr : Nat) (w : World)
    (h : Mk g kp w0 w b base A1 A2 A3 c1 c2 c3 x4 L A c vs) (hg : ∀ w', Only (fun k => ¬ kp k) w0 w' → g.At w' A1 A2 A3) (hm : g.Made n) (hf : fr ≤ 2) (hlt : b < base) (hsm : L.length + 3 * g.n2 + 1 ≤ 90000000000) :
    Calls Try.prog 45 #[.pointer (some ⟨b, 0, none⟩), .int .i64 fr] w fun e w' => (∃ v, e = .returned v) ∧ w.heap.size ≤ w'.heap.size ∧ ∃ A' c' vs', Mk g kp w0 w' b base A1 A2 A3 c1 c2 c3 x4 (L ++ frameC g fr) A' c' vs' := by
  have HG := Lib.hid hg; clear hg
  have hv : (n : Int) = 1 + g.ins + g.n1 + g.n2 := by rw [← hm.vars]; rfl
  have HVN := Lib.hid hv; clear hv
  have hn := hm.hn
  have hins := hm.ins
  have hinb : g.ins + g.n1 + g.n2 < n := by have := HVN.out; omega
  go_enter Try.func45, Try.ntmps45
  go_wp2_with fail
  refine (atMk_any g n kp w0 b base A1 A2 A3 c1 c2 c3 x4 L A c vs fr 1 _ h hm hf (by omega) (by have := HVN.out; omega)).mono ?_
  rintro e w1 ⟨rfl, hb1⟩
  have h1 := h.call hb1
  have hs1 := hb1.size
  go_wp2_with fail
  refine (putMk_any g kp w0 b base A1 A2 A3 c1 c2 c3 x4 L A c vs [atC g.vars fr 1] _ _ h1 rfl hlt (by omega)).mono ?_
  rintro e w2 ⟨⟨v2, rfl⟩, hs2, A2', c2', vs2, h2⟩
  have hws : w.heap.size ≤ w2.heap.size := by omega
  have b0 : w2.cell? ⟨b, 0, none⟩ = some (.int .i64 g.ins) := h2.box.cell (k := 0) (by omega)
  have b1 : w2.cell? ⟨b, 1, none⟩ = some (.slice A1 g.n1 c1) := h2.box.cell (k := 1) (by omega)
  go_wp2_with fail
  go_quiet (fail)
  have h3 := h2.call (drawn_below w2 nq)
  have hsl : w.heap.size ≤ (w2.drewN nq).heap.size := hws
  go_wp2_with fail
  generalize w2.drewN nq = wl at *
  have hwl : w.heap.size ≤ wl.heap.size := hsl
  go_loopw [5] (fun ix wi => ∃ i : Nat, i ≤ g.n2 ∧ ix = .int .i64 i ∧ w.heap.size ≤ wi.heap.size ∧ Hid (∃ A c vs, Mk g kp w0 wi b base A1 A2 A3 c1 c2 c3 x4 (L ++ [[atC g.vars fr 1]] ++ upC (gateC g fr) i) A c vs)) (fun ix _ => g.n2 - (intOf ix).toNat)
  case atStart => exact ⟨0, by omega, rfl, hwl, ⟨_, _, _, by rw [upC, List.append_nil]; exact h3⟩⟩
  case round =>
    clear h h1 h2 h3 b0 b1 hwl hs2 hs1
    obtain ⟨i, hi, rfl, hwi, HM⟩ := hrel
    obtain ⟨A', c', vs', H⟩ := HM.out
    clear HM
    have hgr := HG.out _ H.bel
    have b2 : wr.cell? ⟨b, 2, none⟩ = some (.slice A2 g.n2 c2) := H.box.cell (k := 2) (by omega)
    by_cases hlt2 : i < g.n2
    · have hii : (i : Int) < g.n2 := by omega
      obtain ⟨ba, oa, hA, x0, x1⟩ := hgr.ands.at2 hlt2
      simp only [two] at x0 x1
      obtain ⟨r0, r1, r2, r3⟩ := hm.x i hlt2
      have hll : (L ++ [[atC g.vars fr 1]] ++ upC (gateC g fr) i).length ≤ L.length + 1 + 3 * g.n2 := by simp [upC_len]; omega
      have HGC : Hid (upC (gateC g fr) (i + 1) = upC (gateC g fr) i ++ gateC g fr i) := rfl
      have HF : Hid ((fr : Int) = 0 ∨ (fr : Int) = 1 ∨ (fr : Int) = 2) := Lib.hid (by omega)
      have HNN : Hid (g.vars = n) := hm.vars
      generalize hLL : L ++ [[atC g.vars fr 1]] ++ upC (gateC g fr) i = LL at *
      have HLL := Lib.hid hLL; clear hLL
      subst hA
      go_wp2_with fail
      refine (atMk_any g n kp w0 b base A1 _ A3 c1 c2 c3 x4 _ _ _ _ fr (2 * (1 + g.ins + g.n1 + i)) _ H hm hf (by omega) (by have := HVN.out; omega)).mono ?_
      rintro e wa ⟨rfl, hba⟩
      have Ha := H.call hba
      have y0 := Keeps.of_below hba _ _ x0
      have y1 := Keeps.of_below hba _ _ x1
      have d2 : wa.cell? ⟨b, 2, none⟩ = some (.slice (some ⟨ba, oa, none⟩) g.n2 c2) := Ha.box.cell (k := 2) (by omega)
      have hza := hba.size
      have hX := atC_bd (n := g.vars) (fr := fr) (l := 2 * (1 + g.ins + g.n1 + i)) (by rw [HNN.out]; omega) (by rw [HNN.out]; omega) HF.out (by omega) (by rw [HNN.out]; have := HVN.out; omega)
      clear x0 x1 b2 hba
      go_wp2_with fail
      refine (atMk_any g n kp w0 b base A1 _ A3 c1 c2 c3 x4 _ _ _ _ fr (g.X i) _ Ha hm hf r0 (by omega)).mono ?_
      rintro e wb ⟨rfl, hbb⟩
      have Hb := Ha.call hbb
      have z1 := Keeps.of_below hbb _ _ y1
      have e2 : wb.cell? ⟨b, 2, none⟩ = some (.slice (some ⟨ba, oa, none⟩) g.n2 c2) := Hb.box.cell (k := 2) (by omega)
      have hzb := hbb.size
      have hP := atC_bd (n := g.vars) (fr := fr) (l := g.X i) (by rw [HNN.out]; omega) (by rw [HNN.out]; omega) HF.out r0 (by rw [HNN.out]; omega)
      clear y0 y1 d2 hbb
      go_wp2_with fail
      refine (atMk_any g n kp w0 b base A1 _ A3 c1 c2 c3 x4 _ _ _ _ fr (g.Y i) _ Hb hm hf r2 (by omega)).mono ?_
      rintro e wc ⟨rfl, hbc⟩
      have Hc := Hb.call hbc
      have hzc := hbc.size
      have hQ := atC_bd (n := g.vars) (fr := fr) (l := g.Y i) (by rw [HNN.out]; omega) (by rw [HNN.out]; omega) HF.out r2 (by rw [HNN.out]; omega)
      clear z1 e2 hbc
      have HGT : Hid (gateC g fr i = [[-atC g.vars fr (2 * (1 + g.ins + g.n1 + i)), atC g.vars fr (g.X i)], [-atC g.vars fr (2 * (1 + g.ins + g.n1 + i)), atC g.vars fr (g.Y i)], [atC g.vars fr (2 * (1 + g.ins + g.n1 + i)), -atC g.vars fr (g.X i), -atC g.vars fr (g.Y i)]]) := rfl
      generalize atC g.vars fr (2 * (1 + g.ins + g.n1 + i)) = X at *
      generalize atC g.vars fr (g.X i) = P at *
      generalize atC g.vars fr (g.Y i) = Q at *
      go_wp2_with fail
      refine (putMk_any g kp w0 b base A1 _ A3 c1 c2 c3 x4 _ _ _ _ [-X, P] _ _ Hc rfl hlt (by omega)).mono ?_
      rintro e wd ⟨⟨v3, rfl⟩, hzd, Ad, cd, vd, Hd⟩
      go_wp2_with fail
      refine (putMk_any g kp w0 b base A1 _ A3 c1 c2 c3 x4 _ _ _ _ [-X, Q] _ _ Hd rfl hlt (by simp; omega)).mono ?_
      rintro e we ⟨⟨v4, rfl⟩, hze, Ae, ce, ve, He⟩
      go_wp2_with fail
      refine (putMk_any g kp w0 b base A1 _ A3 c1 c2 c3 x4 _ _ _ _ [X, -P, -Q] _ _ He rfl hlt (by simp; omega)).mono ?_
      rintro e wf ⟨⟨v5, rfl⟩, hzf, Af, cf, vf, Hf⟩
      have HS : Hid (∃ A c vs, Mk g kp w0 wf b base A1 (some ⟨ba, oa, none⟩) A3 c1 c2 c3 x4 (L ++ [[atC g.vars fr 1]] ++ upC (gateC g fr) (i + 1)) A c vs) := Lib.hid ⟨Af, cf, vf, by
        have e1 : L ++ [[atC g.vars fr 1]] ++ upC (gateC g fr) (i + 1) = LL ++ [[-X, P]] ++ [[-X, Q]] ++ [[X, -P, -Q]] := by
          rw [HGC.out, HGT.out, ← List.append_assoc, HLL.out]
          simp
        rw [e1]
        exact Hf⟩
      clear H Ha Hb Hc Hd He Hf
      go_wp2_with fail
      go_roundw
      case rel => exact ⟨i + 1, by omega, by go_num, by omega, HS⟩
      case measure => simp [intOf]; omega
    · obtain rfl : i = g.n2 := by omega
      go_wp2_with fail
      go_end0
      refine ⟨⟨_, rfl⟩, hwi, A', c', vs', ?_⟩
      have e1 : L ++ frameC g fr = L ++ [[atC g.vars fr 1]] ++ upC (gateC g fr) g.n2 := by simp [frameC]
      rw [e1]
      exact H

theorem sameC_len {g : G} {fr : Int} {P Q : Nat → Int} : ∀ k, (upC (sameC g fr P Q) k).length = 2 * k
  | 0 => rfl
  | k + 1 => by simp only [upC, List.length_append, sameC_len k]; simp [sameC]; omega
set_option maxHeartbeats 8000000 in
set_option maxRecDepth 100000 in
theorem sameM_any (g : G) (n : Nat) (kp : Nat → Prop) (w0 : World) (b base : Nat) (A1 A2 A3 : Option Addr) (c1 c2 c3 : Nat) (x4 : Value) (L : List (List Int)) (A : Option Addr) (c : Nat) (vs : List (Option Addr × Nat)) (fr : Nat) (PA : Option Addr) (np pc : Nat) (P Q : Nat → Int) (w : World)
    (h : Mk g kp w0 w b base A1 A2 A3 c1 c2 c3 x4 L A c vs) (hp : ∀ w', Only (fun k => ¬ kp k) w0 w' → RowS w' 2 PA np (fun k => two (.int .i64 (P k)) (.int .i64 (Q k)))) (hpr : ∀ i, i < np → 0 ≤ P i ∧ P i < 2 * n ∧ 0 ≤ Q i ∧ Q i < 2 * n)
    (hm : g.Made n) (hf : fr ≤ 2) (hlt : b < base) (hsm : L.length + 2 * np ≤ 90000000000) :
    Calls Try.prog 49 #[.pointer (some ⟨b, 0, none⟩), .int .i64 fr, .slice PA np pc] w fun e w' => (∃ v, e = .returned v) ∧ w.heap.size ≤ w'.heap.size ∧ ∃ A' c' vs', Mk g kp w0 w' b base A1 A2 A3 c1 c2 c3 x4 (L ++ upC (sameC g fr P Q) np) A' c' vs' := by
  have HP := Lib.hid hp; clear hp
  have HPR := Lib.hid hpr; clear hpr
  have hn := hm.hn
  go_enter Try.func49, Try.ntmps49
  go_wp2_with fail
  go_loopw [6] (fun ix wi => ∃ i : Nat, i ≤ np ∧ ix = .int .i64 i ∧ w.heap.size ≤ wi.heap.size ∧ Hid (∃ A c vs, Mk g kp w0 wi b base A1 A2 A3 c1 c2 c3 x4 (L ++ upC (sameC g fr P Q) i) A c vs)) (fun ix _ => np - (intOf ix).toNat)
  case atStart => exact ⟨0, by omega, rfl, Nat.le_refl _, ⟨_, _, _, by rw [upC, List.append_nil]; exact h⟩⟩
  case round =>
    clear h
    obtain ⟨i, hi, rfl, hwi, HM⟩ := hrel
    obtain ⟨A', c', vs', H⟩ := HM.out
    clear HM
    by_cases hlt2 : i < np
    · have hii : (i : Int) < np := by omega
      obtain ⟨ba, oa, hA, x0, x1⟩ := (HP.out _ H.bel).at2 hlt2
      simp only [two] at x0 x1
      obtain ⟨r0, r1, r2, r3⟩ := HPR.out i hlt2
      have hll : (L ++ upC (sameC g fr P Q) i).length ≤ L.length + 2 * np := by simp [sameC_len]; omega
      have HGC : Hid (upC (sameC g fr P Q) (i + 1) = upC (sameC g fr P Q) i ++ sameC g fr P Q i) := rfl
      have HF : Hid ((fr : Int) = 0 ∨ (fr : Int) = 1 ∨ (fr : Int) = 2) := Lib.hid (by omega)
      have HNN : Hid (g.vars = n) := hm.vars
      generalize hLL : L ++ upC (sameC g fr P Q) i = LL at *
      have HLL := Lib.hid hLL; clear hLL
      subst hA
      go_wp2_with fail
      refine (atMk_any g n kp w0 b base A1 A2 A3 c1 c2 c3 x4 _ _ _ _ fr (P i) _ H hm hf r0 (by omega)).mono ?_
      rintro e wa ⟨rfl, hba⟩
      have Ha := H.call hba
      have y1 := Keeps.of_below hba _ _ x1
      have hza := hba.size
      have hP := atC_bd (n := g.vars) (fr := fr) (l := P i) (by rw [HNN.out]; omega) (by rw [HNN.out]; omega) HF.out r0 (by rw [HNN.out]; omega)
      clear x0 x1 hba
      go_wp2_with fail
      refine (atMk_any g n kp w0 b base A1 A2 A3 c1 c2 c3 x4 _ _ _ _ fr (Q i) _ Ha hm hf r2 (by omega)).mono ?_
      rintro e wb ⟨rfl, hbb⟩
      have Hb := Ha.call hbb
      have hzb := hbb.size
      have hQ := atC_bd (n := g.vars) (fr := fr) (l := Q i) (by rw [HNN.out]; omega) (by rw [HNN.out]; omega) HF.out r2 (by rw [HNN.out]; omega)
      clear y1 hbb
      have HGT : Hid (sameC g fr P Q i = [[-atC g.vars fr (P i), atC g.vars fr (Q i)], [atC g.vars fr (P i), -atC g.vars fr (Q i)]]) := rfl
      generalize atC g.vars fr (P i) = X at *
      generalize atC g.vars fr (Q i) = Y at *
      go_wp2_with fail
      refine (putMk_any g kp w0 b base A1 A2 A3 c1 c2 c3 x4 _ _ _ _ [-X, Y] _ _ Hb rfl hlt (by omega)).mono ?_
      rintro e wd ⟨⟨v3, rfl⟩, hzd, Ad, cd, vd, Hd⟩
      go_wp2_with fail
      refine (putMk_any g kp w0 b base A1 A2 A3 c1 c2 c3 x4 _ _ _ _ [X, -Y] _ _ Hd rfl hlt (by simp; omega)).mono ?_
      rintro e wf ⟨⟨v5, rfl⟩, hzf, Af, cf, vf, Hf⟩
      have HS : Hid (∃ A c vs, Mk g kp w0 wf b base A1 A2 A3 c1 c2 c3 x4 (L ++ upC (sameC g fr P Q) (i + 1)) A c vs) := Lib.hid ⟨Af, cf, vf, by
        have e1 : L ++ upC (sameC g fr P Q) (i + 1) = LL ++ [[-X, Y]] ++ [[X, -Y]] := by
          rw [HGC.out, HGT.out, ← List.append_assoc, HLL.out]
          simp
        rw [e1]
        exact Hf⟩
      clear H Ha Hb Hd Hf
      go_wp2_with fail
      go_roundw
      case rel => exact ⟨i + 1, by omega, by go_num, by omega, HS⟩
      case measure => simp [intOf]; omega
    · obtain rfl : i = np := by omega
      go_wp2_with fail
      go_end0
      exact ⟨⟨_, rfl⟩, hwi, A', c', vs', H⟩
end Go.Proofs.Ytkanekacjefcbaa
