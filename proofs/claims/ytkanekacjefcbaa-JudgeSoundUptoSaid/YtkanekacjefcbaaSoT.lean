/- Where a certificate holds, both graphs show the same at every trace. No condition. -/
import Derived.Test.YtkanekacjefcbaaHoP
import Derived.Test.YtkanekacjefcbaaSoF
namespace Go.Proofs.Ytkanekacjefcbaa
open Go.RowKit

theorem joint_ands {a b : G} (hva : a.Valid) (hvb : b.Valid) (hi : a.ins = b.ins) : ∀ i, i < (joint a b).n2 → (joint a b).AndOk i := by
  intro i h
  have hn2 : i < a.n2 + b.n2 := h
  have h0 := hva.i0
  have ei : (joint a b).ins = a.ins := rfl
  have en : (joint a b).n1 = a.n1 + b.n1 := rfl
  unfold G.AndOk
  rw [ei, en]
  by_cases hk : i < a.n2
  · have hx := hva.ands i hk
    unfold G.AndOk at hx
    simp only [joint, after]
    rw [if_pos hk, if_pos hk]
    unfold mv1
    refine ⟨?_, ?_⟩
    · split <;> omega
    · split <;> omega
  · have hx := hvb.ands (i - a.n2) (by omega)
    unfold G.AndOk at hx
    simp only [joint, after]
    rw [if_neg hk, if_neg hk]
    unfold mv2
    refine ⟨?_, ?_⟩
    · split <;> first | omega | (split <;> omega)
    · split <;> first | omega | (split <;> omega)
theorem joint_sane {a b : G} (hva : a.Valid) (hvb : b.Valid) (hi : a.ins = b.ins) {n : Nat} (hm : (joint a b).Made n) : (joint a b).Sane n := by
  refine ⟨hm.ins, hm.vars, joint_ands hva hvb hi, fun i h => ?_⟩
  have h1 := hm.l i h
  have h2 := hm.vars
  unfold G.vars at h2
  unfold G.LitOk
  omega
theorem holds_sound {a b : G} {np : Nat} {P Q : Nat → Int} {St : Nat → List (List Int)} (h : HoldsP a b np P Q St) (T : Nat → Nat → Bool) : ∀ c i, i < a.n3 → a.row T c i = b.row T c i := by
  obtain ⟨⟨hva, hvb, hi, h3⟩, hp, hk⟩ := h
  obtain ⟨n, _, hm⟩ := joint_made hva hvb hi
  have hs := joint_sane hva hvb hi hm
  have hP : InR n P np := fun i hi => by have := (hp i hi).1; rwa [hm.vars] at this
  have hQ : InR n Q np := fun i hi => by have := (hp i hi).2; rwa [hm.vars] at this
  have hO : InR n (joint a b).O a.n3 := fun i hi => hm.o i (show i < a.n3 + b.n3 by omega)
  have hO2 : InR n (fun i => (joint a b).O (a.n3 + i)) a.n3 := fun i hi => hm.o (a.n3 + i) (show a.n3 + i < a.n3 + b.n3 by omega)
  have hall : ∀ c, Same P Q np ((joint a b).vals (T c) ((joint a b).state T c)) := fun c => by
    induction c with
    | zero => exact base_sound hs hP hQ (hk 0 (by omega)) (T 0)
    | succ c ih => exact step_sound hs hP hQ (hk 1 (by omega)) (T c) (T (c + 1)) ((joint a b).state T c) ih
  intro c i hi'
  have := outlet_sound hs hP hQ hO hO2 (hk 2 (by omega)) (T c) ((joint a b).state T c) (hall c) i hi'
  rw [← joint_row1 hva hvb hi T c i hi', ← joint_row2 hva hvb hi T c i (by omega)]
  exact this
end Go.Proofs.Ytkanekacjefcbaa
