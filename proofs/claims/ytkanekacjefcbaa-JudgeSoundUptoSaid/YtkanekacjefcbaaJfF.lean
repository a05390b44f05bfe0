/- The joint graph of two valid graphs is one that formulas are made of; what a formula's contract says. No condition. -/
import Derived.Test.YtkanekacjefcbaaJfW
import Derived.Test.YtkanekacjefcbaaJointS
import Derived.Test.YtkanekacjefcbaaOutletsJ
import Derived.Test.YtkanekacjefcbaaLatchJ
namespace Go.Proofs.Ytkanekacjefcbaa
open Go.RowKit

theorem mv1_in {a b : G} {l : Int} (h0 : 0 ≤ l) (h1 : l < 2 * (1 + a.ins + a.n1 + a.n2)) : 0 ≤ mv1 a b l ∧ mv1 a b l < 2 * (1 + a.ins + (a.n1 + b.n1 : Nat) + (a.n2 + b.n2 : Nat)) := by
  unfold mv1
  split <;> omega
theorem mv2_in {a b : G} {l : Int} (hi : a.ins = b.ins) (h0 : 0 ≤ l) (h1 : l < 2 * (1 + b.ins + b.n1 + b.n2)) : 0 ≤ mv2 a b l ∧ mv2 a b l < 2 * (1 + a.ins + (a.n1 + b.n1 : Nat) + (a.n2 + b.n2 : Nat)) := by
  unfold mv2
  split
  · omega
  · split <;> omega
theorem joint_made {a b : G} (ha : a.Valid) (hb : b.Valid) (hi : a.ins = b.ins) : ∃ n : Nat, n ≤ 200000 ∧ (joint a b).Made n := by
  obtain ⟨u1, u2, u3, u4, u5⟩ := ha.small
  obtain ⟨v1, v2, v3, v4, v5⟩ := hb.small
  obtain ⟨n, hn⟩ := Int.eq_ofNat_of_zero_le (show 0 ≤ (joint a b).vars by unfold G.vars; show 0 ≤ 1 + a.ins + ((a.n1 + b.n1 : Nat) : Int) + ((a.n2 + b.n2 : Nat) : Int); omega)
  have hv : (1 + a.ins + ((a.n1 + b.n1 : Nat) : Int) + ((a.n2 + b.n2 : Nat) : Int)) = n := hn
  have hin : ∀ l : Int, (∃ x, l = mv1 a b x ∧ 0 ≤ x ∧ x < 2 * (1 + a.ins + a.n1 + a.n2)) ∨ (∃ x, l = mv2 a b x ∧ 0 ≤ x ∧ x < 2 * (1 + b.ins + b.n1 + b.n2)) → 0 ≤ l ∧ l < 2 * n := fun l h => by
    rcases h with ⟨x, rfl, h0, h1⟩ | ⟨x, rfl, h0, h1⟩
    · have := mv1_in (b := b) h0 h1; omega
    · have := mv2_in hi h0 h1; omega
  refine ⟨n, by omega, ⟨u2, hn, by omega, fun i h => ?_, fun i h => ?_, fun i h => ?_⟩⟩
  · have h' : i < a.n2 + b.n2 := h
    have hX : 0 ≤ (joint a b).X i ∧ (joint a b).X i < 2 * n := by
      refine hin _ ?_
      by_cases c : i < a.n2
      · have := (ha.ands i c).1
        exact .inl ⟨_, joint_X1 a b c, this.1, by omega⟩
      · obtain ⟨k, rfl⟩ : ∃ k, i = a.n2 + k := ⟨i - a.n2, by omega⟩
        have := (hb.ands k (by omega)).1
        exact .inr ⟨_, joint_X2 a b k, this.1, by omega⟩
    have hY : 0 ≤ (joint a b).Y i ∧ (joint a b).Y i < 2 * n := by
      refine hin _ ?_
      by_cases c : i < a.n2
      · have := (ha.ands i c).2
        exact .inl ⟨_, joint_Y1 a b c, this.1, by omega⟩
      · obtain ⟨k, rfl⟩ : ∃ k, i = a.n2 + k := ⟨i - a.n2, by omega⟩
        have := (hb.ands k (by omega)).2
        exact .inr ⟨_, joint_Y2 a b k, this.1, by omega⟩
    exact ⟨hX.1, hX.2, hY.1, hY.2⟩
  · have h' : i < a.n1 + b.n1 := h
    refine hin _ ?_
    by_cases c : i < a.n1
    · exact .inl ⟨_, joint_L1 a b c, ha.lat i c⟩
    · obtain ⟨k, rfl⟩ : ∃ k, i = a.n1 + k := ⟨i - a.n1, by omega⟩
      exact .inr ⟨_, joint_L2 a b k, hb.lat k (by omega)⟩
  · have h' : i < a.n3 + b.n3 := h
    refine hin _ ?_
    by_cases c : i < a.n3
    · exact .inl ⟨_, joint_O1 a b c, ha.outs i c⟩
    · obtain ⟨k, rfl⟩ : ∃ k, i = a.n3 + k := ⟨i - a.n3, by omega⟩
      exact .inr ⟨_, joint_O2 a b k, hb.outs k (by omega)⟩

theorem atC_odd (n fr x : Int) : atC n fr (2 * x + 1) = -atC n fr (2 * x) := by
  unfold atC
  rw [if_pos (by omega), if_neg (by omega), show (2 * x + 1) / 2 = x by omega, show 2 * x / 2 = x by omega]
theorem initC_len {g : G} : ∀ k, (upC (initC g) k).length = k
  | 0 => rfl
  | k + 1 => by simp only [upC, List.length_append, initC_len k]; simp [initC]
theorem nextC_len {g : G} : ∀ k, (upC (nextC g) k).length = 2 * k
  | 0 => rfl
  | k + 1 => by simp only [upC, List.length_append, nextC_len k]; simp [nextC]; omega
theorem frameC_len {g : G} {fr : Int} : (frameC g fr).length = 1 + 3 * g.n2 := by simp [frameC, upC_len]; omega

/-- what was there below B stays -/
theorem Keeps.low {w0 w1 w' : World} {B : Nat} {kp : Nat → Prop} {o : Obj} (hB : w0.heap.size = B) (h1 : w1 = w0.alloc o) (h : Only (fun k => ¬ kp k) w1 w') (hk : ∀ k, k < B → kp k) : Keeps w0 w' := fun p v hc => by
  have hb := World.block_lt_of_cell? w0 p hc
  subst h1
  exact h.cell (Keeps.alloc w0 o p v hc) (fun c => c (hk _ (by omega)))
/-- behind a call that made a row of pairs: that row is kept too -/
theorem Mk.rebase {g : G} {w5 w8 wo : World} {B n8 m qc : Nat} {J1 J2 J3 A8 QA : Option Addr} {k1 k2 k3 : Nat} {x4 : Value} {L : List (List Int)} {vs : List (Option Addr × Nat)} {f : Nat → Nat → Value}
    (h : Mk g (fun k => k < B) w5 w8 B (B + 1) J1 J2 J3 k1 k2 k3 x4 L A8 n8 vs) (ho : wo.ownsRow w8.heap.size 49 2 (.slice QA m qc) m (flat2 f m)) (hb : Below w8.heap.size w8 wo) :
    ∃ kp : Nat → Prop, Mk g kp wo wo B (B + 1) J1 J2 J3 k1 k2 k3 x4 L A8 n8 vs ∧ (∀ k, k < B → kp k) ∧ ∀ w', Only (fun k => ¬ kp k) wo w' → RowS w' 2 QA m f := by
  have h1 := h.call hb
  refine ⟨fun k => k < B ∨ blockOf QA k, ⟨h1.box, h1.cl, Only.refl _ _, fun c => ?_, fun k hk => ?_, h1.size⟩, fun k hk => .inl hk, fun w' hO => ?_⟩
  · rcases c with c | c
    · omega
    · have := own_base ho B c
      have := h.size
      omega
  · have hz := h1.size
    rcases hk with hk | hk
    · exact ⟨by omega, .inl (by omega)⟩
    · refine ⟨own_lt ho k hk, .inr fun cur => ⟨fun c => own_type ho (by decide) k cur c hk, fun c => own_type ho (by decide) k cur c hk⟩⟩
  · exact (own_rows2 (own_only ho hO (fun k hk c => c (.inr hk)))).row
/-- .. of the writer's: behind a call that made a row of pairs: that row is kept too -/
theorem Wk.rebase {g : G} {w5 w8 wo : World} {B n n8 m qc : Nat} {J1 J2 J3 A8 QA : Option Addr} {k1 k2 k3 : Nat} {x4 : Value} {L : List (List Int)} {vs : List (Option Addr × Nat)} {f : Nat → Nat → Value}
    (h : Wk g n (fun k => k < B) w5 w8 B (B + 1) J1 J2 J3 k1 k2 k3 x4 L A8 n8 vs) (ho : wo.ownsRow w8.heap.size 49 2 (.slice QA m qc) m (flat2 f m)) (hb : Below w8.heap.size w8 wo) :
    ∃ kp : Nat → Prop, Wk g n kp wo wo B (B + 1) J1 J2 J3 k1 k2 k3 x4 L A8 n8 vs ∧ (∀ k, k < B → kp k) ∧ ∀ w', Only (fun k => ¬ kp k) wo w' → RowS w' 2 QA m f := by
  have h1 := h.call hb
  refine ⟨fun k => k < B ∨ blockOf QA k, ⟨h1.box, h1.cl, Only.refl _ _, fun c => ?_, fun k hk => ?_, h1.size⟩, fun k hk => .inl hk, fun w' hO => ?_⟩
  · rcases c with c | c
    · omega
    · have := own_base ho B c
      have := h.size
      omega
  · have hz := h1.size
    rcases hk with hk | hk
    · exact ⟨by omega, .inl (by omega)⟩
    · refine ⟨own_lt ho k hk, .inr fun cur => ⟨fun c => own_type ho (by decide) k cur c hk, fun c => own_type ho (by decide) k cur c hk⟩⟩
  · exact (own_rows2 (own_only ho hO (fun k hk c => c (.inr hk)))).row
/-- a formula handed back -/
def FormP (vars : Int) (L : List (List Int)) (w : World) (e : Ending) (w' : World) : Prop :=
  ∃ (A : Option Addr) (c : Nat) (vs : List (Option Addr × Nat)) (base : Nat), e = .returned (.agg #[.int .i64 vars, .slice A L.length c]) ∧ Cl w' base A c L vs ∧ Below w.heap.size w w'
theorem Cl.far {w w1 : World} {base c q : Nat} {A : Option Addr} {L : List (List Int)} {vs : List (Option Addr × Nat)} (h : Cl w base A c L vs) (k : Only (fun j => j = q) w w1) (hq : q < base) : Cl w1 base A c L vs := h.only k (fun b hb e => by omega)
theorem latchWk_any (b i : Nat) (ins : Int) (w : World) (hb : w.cell? ⟨b, 0, none⟩ = some (.int .i64 ins)) (h0 : 0 ≤ ins) (h1 : ins ≤ 1000000000000) (hi : i ≤ 1000000000000) :
    Calls Try.prog 38 #[.pointer (some ⟨b, 0, none⟩), .int .i64 i] w fun e w' => e = .returned (.int .i64 (2 * (1 + ins + i))) ∧ w' = w := (latch_any b i ins w hb h0 h1 hi).mono fun _ _ h => ⟨h.1, h.2.symm⟩
theorem atWk0_any (g : G) (n b : Nat) (l : Int) (w : World) (hc : w.cell? ⟨b, 4, none⟩ = some (.int .i64 n)) (hm : g.Made n) (h0 : 0 ≤ l) (h1 : l ≤ 2 * n) :
    Calls Try.prog 37 #[.pointer (some ⟨b, 0, none⟩), .int .i64 0, .int .i64 l] w fun e w' => e = .returned (.int .i64 (atC g.vars 0 l)) ∧ w' = w := atWk_any g n b 0 l w hc hm (by omega) h0 h1
theorem atWk1_any (g : G) (n b : Nat) (l : Int) (w : World) (hc : w.cell? ⟨b, 4, none⟩ = some (.int .i64 n)) (hm : g.Made n) (h0 : 0 ≤ l) (h1 : l ≤ 2 * n) :
    Calls Try.prog 37 #[.pointer (some ⟨b, 0, none⟩), .int .i64 1, .int .i64 l] w fun e w' => e = .returned (.int .i64 (atC g.vars 1 l)) ∧ w' = w := atWk_any g n b 1 l w hc hm (by omega) h0 h1
end Go.Proofs.Ytkanekacjefcbaa
