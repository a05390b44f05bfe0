/- The program's writer of formulas: its box, one clause more. Conditions: the writer lies in memory. -/
import Derived.Test.YtkanekacjefcbaaJfU
import Derived.Deep.QuietTactic
import Derived.BigQuiet
namespace Go.Proofs.Ytkanekacjefcbaa
open Go.RowKit

def wkV (g : G) (n : Nat) (A1 A2 A3 : Option Addr) (c1 c2 c3 : Nat) (x4 x5 : Value) (j : Nat) : Value :=
  [Value.int .i64 g.ins, .slice A1 g.n1 c1, .slice A2 g.n2 c2, .slice A3 g.n3 c3, .int .i64 n, x4, x5].getD j undef
/-- the program's writer in block b, its clauses so far -/
structure Wk (g : G) (n : Nat) (kp : Nat → Prop) (w0 w : World) (b base : Nat) (A1 A2 A3 : Option Addr) (c1 c2 c3 : Nat) (x4 : Value) (L : List (List Int)) (A : Option Addr) (c : Nat) (vs : List (Option Addr × Nat)) : Prop where
  box : Arr w b 73 7 (wkV g n A1 A2 A3 c1 c2 c3 x4 (.slice A L.length c))
  cl : Cl w base A c L vs
  bel : Only (fun k => ¬ kp k) w0 w
  kb : ¬ kp b
  kt : ∀ k, kp k → k < w0.heap.size ∧ (k < base ∨ ∀ cur, w0.heap[k]? ≠ some (.cells cur 26 (0, 0)) ∧ w0.heap[k]? ≠ some (.cells cur 3 (0, 0)))
  size : base ≤ w.heap.size
section
variable {g : G} {n : Nat} {kp : Nat → Prop} {w0 w w1 : World} {b base c1 c2 c3 c : Nat} {A1 A2 A3 A : Option Addr} {x4 : Value} {L : List (List Int)} {vs : List (Option Addr × Nat)}
theorem Wk.call (h : Wk g n kp w0 w b base A1 A2 A3 c1 c2 c3 x4 L A c vs) (hb : Below w.heap.size w w1) : Wk g n kp w0 w1 b base A1 A2 A3 c1 c2 c3 x4 L A c vs :=
  ⟨h.box.below hb, h.cl.below hb, h.bel.call hb, h.kb, h.kt, Nat.le_trans h.size hb.size⟩
end

/-- one clause more, wherever it lies -/
theorem putWk3_any (g : G) (n : Nat) (kp : Nat → Prop) (w0 : World) (b base : Nat) (A1 A2 A3 : Option Addr) (c1 c2 c3 : Nat) (x4 : Value) (L : List (List Int)) (A : Option Addr) (c : Nat) (vs : List (Option Addr × Nat)) (l : List Int) (B : Option Addr) (d : Nat) (w : World)
    (h1 : Wk g n kp w0 w b base A1 A2 A3 c1 c2 c3 x4 L A c vs) (hl : OwnL w base B l) (hlt : b < base) (hsm : L.length ≤ 100000000000) :
    Calls Try.prog 36 #[.pointer (some ⟨b, 0, none⟩), .slice B l.length d] w fun e w' => (∃ v, e = .returned v) ∧ Only (fun k => k = b ∨ blockOf A k) w w' ∧ ∃ A' c', Wk g n kp w0 w' b base A1 A2 A3 c1 c2 c3 x4 (L ++ [l]) A' c' (vs ++ [(B, d)]) := by
  refine (putW_any b base _ A c L vs B d l _ h1.box rfl h1.cl hl hlt h1.size hsm).mono ?_
  rintro e w' ⟨hv, A', c', hA, hC, hO⟩
  have hs := hO.size
  refine ⟨hv, hO, A', c', ⟨hA.congr (fun j hj => ?_), hC, ?_, h1.kb, h1.kt, Nat.le_trans h1.size hs⟩⟩
  · obtain rfl | rfl | rfl | rfl | rfl | rfl | rfl : j = 0 ∨ j = 1 ∨ j = 2 ∨ j = 3 ∨ j = 4 ∨ j = 5 ∨ j = 6 := by omega
    all_goals rfl
  · refine h1.bel.then_ hO (fun i hi c hk => ?_)
    rcases c with rfl | c
    · exact h1.kb hk
    · obtain ⟨h0, h2⟩ := h1.kt i hk
      have hbi := own_base h1.cl.own i c
      rcases h2 with h2 | h2
      · omega
      · obtain ⟨a, ha, rfl⟩ := c
        subst ha
        rcases h1.cl.own.2 with ⟨hv, _⟩ | ⟨q, cap, cur, hv, _, hh, _⟩
        · cases hv
        · injection hv with e1
          injection e1 with e1
          subst e1
          have he := h1.bel.block q h0 (fun hn => hn hk)
          exact (h2 cur).1 (he.symm.trans hh)
/-- one clause more, made on the spot -/
theorem putWk2_any (g : G) (n : Nat) (kp : Nat → Prop) (w0 : World) (b base : Nat) (A1 A2 A3 : Option Addr) (c1 c2 c3 : Nat) (x4 : Value) (L : List (List Int)) (A : Option Addr) (c : Nat) (vs : List (Option Addr × Nat)) (l : List Int) (us : Array Value) (w : World)
    (h : Wk g n kp w0 w b base A1 A2 A3 c1 c2 c3 x4 L A c vs) (hus : us = (l.map (Value.int .i64)).toArray) (hlt : b < base) (hsm : L.length ≤ 100000000000) :
    Calls Try.prog 36 #[.pointer (some ⟨b, 0, none⟩), .slice (some ⟨w.heap.size, 0, none⟩) l.length l.length] (w.alloc (.cells us 3)) fun e w' => (∃ v, e = .returned v) ∧ w.heap.size ≤ w'.heap.size ∧ (∀ (B' : Option Addr) (m d' : Nat) (xs : List Value), w.ownsRow base 3 1 (.slice B' m d') m xs → Off vs L B' → w'.ownsRow base 3 1 (.slice B' m d') m xs ∧ Off (vs ++ [(some ⟨w.heap.size, 0, none⟩, l.length)]) (L ++ [l]) B') ∧ ∃ A' c', Wk g n kp w0 w' b base A1 A2 A3 c1 c2 c3 x4 (L ++ [l]) A' c' (vs ++ [(some ⟨w.heap.size, 0, none⟩, l.length)]) := by
  have hal : Below w.heap.size w (w.alloc (.cells us 3)) := (Below.refl _ _).alloc (Nat.le_refl _) _
  have h1 := h.call hal
  refine (putWk3_any g n kp w0 b base A1 A2 A3 c1 c2 c3 x4 L A c vs l _ l.length _ h1 (OwnL.new w base l us hus h.size) hlt hsm).mono ?_
  rintro e w' ⟨hv, hO, hM⟩
  have hs := hO.size
  refine ⟨hv, by simp at hs; omega, fun B' m d' xs ho hoff => ⟨own_only (own_below ho hal) hO (fun k hk c => c.elim (fun e => by have := own_base ho k hk; omega) (fun c => own_apart (own_below ho hal) h1.cl.own (by decide) k hk c)), hoff.push h.cl.len (fun k hk hb => ?_)⟩, hM⟩
  obtain ⟨a, ha, rfl⟩ := hk
  injection ha with ha
  subst ha
  have := own_lt ho _ hb
  exact Nat.lt_irrefl _ this

/-- .. in short -/
theorem putWk_any (g : G) (n : Nat) (kp : Nat → Prop) (w0 : World) (b base : Nat) (A1 A2 A3 : Option Addr) (c1 c2 c3 : Nat) (x4 : Value) (L : List (List Int)) (A : Option Addr) (c : Nat) (vs : List (Option Addr × Nat)) (l : List Int) (us : Array Value) (w : World)
    (h : Wk g n kp w0 w b base A1 A2 A3 c1 c2 c3 x4 L A c vs) (hus : us = (l.map (Value.int .i64)).toArray) (hlt : b < base) (hsm : L.length ≤ 100000000000) :
    Calls Try.prog 36 #[.pointer (some ⟨b, 0, none⟩), .slice (some ⟨w.heap.size, 0, none⟩) l.length l.length] (w.alloc (.cells us 3)) fun e w' => (∃ v, e = .returned v) ∧ w.heap.size ≤ w'.heap.size ∧ ∃ A' c' vs', Wk g n kp w0 w' b base A1 A2 A3 c1 c2 c3 x4 (L ++ [l]) A' c' vs' := by
  refine (putWk2_any g n kp w0 b base A1 A2 A3 c1 c2 c3 x4 L A c vs l us w h hus hlt hsm).mono ?_
  rintro e w' ⟨h1, h2, _, A', c', h3⟩
  exact ⟨h1, h2, A', c', _, h3⟩

theorem SomeRow.pushW {w w1 : World} {base i d d' n : Nat} {g : G} {frs : Int} {B B' : Option Addr} {vs : List (Option Addr × Nat)} {L : List (List Int)} {x : Int} {b : Nat} {kp : Nat → Prop} {w0 : World} {A1 A2 A3 A : Option Addr} {c1 c2 c3 c : Nat} {x4 : Value}
    (h : SomeRow w base g frs i B d vs L) (hM : Wk g n kp w0 w b base A1 A2 A3 c1 c2 c3 x4 L A c vs) (hlt : b < base) (hx : newV g frs i = x) (o : Obj)
    (ho : w1.ownsRow base 3 1 (.slice B' (i + 1) d') (i + 1) (((List.range i).map (newV g frs)).map (Value.int .i64) ++ [.int .i64 x])) (hk : Only (blockOf B) (w.alloc o) w1) (hb : ∀ k, blockOf B' k → blockOf B k ∨ k = (w.alloc o).heap.size) :
    Wk g n kp w0 w1 b base A1 A2 A3 c1 c2 c3 x4 L A c vs ∧ SomeRow w1 base g frs (i + 1) B' d' vs L := by
  obtain ⟨h1, h2⟩ := h
  have hal : Below w.heap.size w (w.alloc o) := (Below.refl _ _).alloc (Nat.le_refl _) _
  have hMa := hM.call hal
  have hba := own_base h1
  have h1a := own_below h1 hal
  refine ⟨⟨hMa.box.only hk (fun c => by have := hba _ c; omega), hMa.cl.off hk h2 (fun k c e => own_apart h1a hMa.cl.own (by decide) k e c), hMa.bel.then_ hk (fun k hk0 c hkp => ?_), hM.kb, hM.kt, Nat.le_trans hMa.size hk.size⟩, ?_, ?_⟩
  · rcases hM.kt k hkp with ⟨q1, q2⟩
    have := hba _ c
    rcases q2 with q2 | q2
    · omega
    · obtain ⟨a, ha, rfl⟩ := c
      subst ha
      rcases h1.2 with ⟨hv, _⟩ | ⟨q, cap, cur, hv, _, hh, _⟩
      · cases hv
      · injection hv with e1
        injection e1 with e1
        subst e1
        exact (q2 cur).2 ((hM.bel.block q q1 (fun hn => hn hkp)).symm.trans hh)
  · rw [List.range_succ, List.map_append, List.map_append]
    subst hx
    exact ho
  · exact h2.moved hM.cl (fun k c => (hb k c).imp id (fun e => by subst e; simp))


theorem atWk_any (g : G) (n b : Nat) (fr : Nat) (l : Int) (w : World) (hc : w.cell? ⟨b, 4, none⟩ = some (.int .i64 n)) (hm : g.Made n) (hf : fr ≤ 2) (h0 : 0 ≤ l) (h1 : l ≤ 2 * n) :
    Calls Try.prog 37 #[.pointer (some ⟨b, 0, none⟩), .int .i64 fr, .int .i64 l] w fun e w' => e = .returned (.int .i64 (atC g.vars fr l)) ∧ w' = w := by
  have hn := hm.hn
  obtain ⟨k, rfl⟩ := Int.eq_ofNat_of_zero_le h0
  rw [hm.vars]
  exact (atW_any b n fr k w hc (by omega) hf (by omega)).mono fun e w' h => ⟨h.1, h.2.symm⟩
end Go.Proofs.Ytkanekacjefcbaa
