/- The two halves that judge.Join goes through, in plain Lean, and where they lie. No condition. -/
import Derived.Test.YtkanekacjefcbaaJointS
namespace Go.Proofs.Ytkanekacjefcbaa
open Go.RowKit

theorem Arr.step {w w7 : World} {q n m c base s : Nat} {ty e : TypeId} {V : Nat → Value} {A : Option Addr} {xs : List Value} (h : Arr w q ty n V) (ho : w.ownsRow base e s (.slice A m c) m xs) (hne : ty ≠ e) (hk : Only (blockOf A) w w7) : Arr w7 q ty n V := by
  refine h.only hk ?_
  obtain ⟨cur, hh, _⟩ := h
  exact own_type ho hne q cur hh
theorem Arr.put_far {w : World} {q n b i : Nat} {ty : TypeId} {V : Nat → Value} {v : Value} (h : Arr w q ty n V) (hne : q ≠ b) : Arr (w.setCell ⟨b, i, none⟩ v) q ty n V :=
  h.only ((Only.refl (fun j => j = b) w).setCell (p := ⟨b, i, none⟩) (fun _ => rfl) v) hne

theorem getD_ar (l : List Value) (j : Nat) : l.toArray.getD j undef = l.getD j undef := by simp [List.getD_eq_getElem?_getD]
/-- where a half's list begins in the joint graph -/
def st (n m : Nat) : Nat → Nat
  | 0 => 0
  | 1 => n
  | _ => n + m
/-- half i of the two: graph h at these addresses, its joiner's numbers -/
structure HalfOk (a b : G) (w : World) (i : Nat) (h : G) (X1 X2 X3 : Option Addr) (ji jl ja jg : Nat) : Prop where
  at_ : h.At w X1 X2 X3
  valid : h.Valid
  ins : h.ins ≤ 60000
  bi : ji ≤ 60000
  bl : jl ≤ 6000
  ba : ja ≤ 6000
  bg : jg ≤ 66000
  i1 : i < 2
  s1 : st a.n1 b.n1 (i + 1) = st a.n1 b.n1 i + h.n1
  s2 : st a.n2 b.n2 (i + 1) = st a.n2 b.n2 i + h.n2
  s3 : st a.n3 b.n3 (i + 1) = st a.n3 b.n3 i + h.n3
  L : ∀ k, k < h.n1 → ∀ l : Nat, h.L k = l → (joint a b).L (st a.n1 b.n1 i + k) = (mvJ ji jl ja jg l : Nat)
  I : ∀ k, k < h.n1 → (joint a b).I (st a.n1 b.n1 i + k) = h.I k
  X : ∀ k, k < h.n2 → ∀ l : Nat, h.X k = l → (joint a b).X (st a.n2 b.n2 i + k) = (mvJ ji jl ja jg l : Nat)
  Y : ∀ k, k < h.n2 → ∀ l : Nat, h.Y k = l → (joint a b).Y (st a.n2 b.n2 i + k) = (mvJ ji jl ja jg l : Nat)
  O : ∀ k, k < h.n3 → ∀ l : Nat, h.O k = l → (joint a b).O (st a.n3 b.n3 i + k) = (mvJ ji jl ja jg l : Nat)
theorem HalfOk.keeps {a b h : G} {w w1 : World} {i ji jl ja jg : Nat} {X1 X2 X3 : Option Addr} (H : HalfOk a b w i h X1 X2 X3 ji jl ja jg) (k : Keeps w w1) : HalfOk a b w1 i h X1 X2 X3 ji jl ja jg :=
  { H with at_ := H.at_.keeps k }
/-- the cells of the array of both halves -/
def halvesV (a b : G) (A1 A2 A3 B1 B2 B3 : Option Addr) (c1 c2 c3 d1 d2 d3 : Nat) : List Value :=
  [.int .i64 a.ins, .slice A1 a.n1 c1, .slice A2 a.n2 c2, .slice A3 a.n3 c3, .int .i64 a.ins, .int .i64 a.n1, .int .i64 0, .int .i64 b.n1,
   .int .i64 b.ins, .slice B1 b.n1 d1, .slice B2 b.n2 d2, .slice B3 b.n3 d3, .int .i64 b.ins, .int .i64 b.n1, .int .i64 a.n1, .int .i64 ((a.n1 : Int) + a.n2)]
def halfV (h : G) (X1 X2 X3 : Option Addr) (e1 e2 e3 ji jl ja jg : Nat) : List Value :=
  [.int .i64 h.ins, .slice X1 h.n1 e1, .slice X2 h.n2 e2, .slice X3 h.n3 e3, .int .i64 ji, .int .i64 jl, .int .i64 ja, .int .i64 jg]
theorem half_ok (a b : G) (A1 A2 A3 B1 B2 B3 : Option Addr) (c1 c2 c3 d1 d2 d3 : Nat) (w : World) (ha : a.At w A1 A2 A3) (hb : b.At w B1 B2 B3) (hva : a.Valid) (hvb : b.Valid) (i : Nat) (hi : i < 2) :
    ∃ (h : G) (X1 X2 X3 : Option Addr) (e1 e2 e3 ji jl ja jg : Nat), HalfOk a b w i h X1 X2 X3 ji jl ja jg ∧
      ∀ j, j < 8 → (halvesV a b A1 A2 A3 B1 B2 B3 c1 c2 c3 d1 d2 d3).getD (i * 8 + j) undef = (halfV h X1 X2 X3 e1 e2 e3 ji jl ja jg).getD j undef := by
  obtain ⟨u1, u2, u3, u4, u5⟩ := hva.small
  obtain ⟨v1, v2, v3, v4, v5⟩ := hvb.small
  obtain ⟨m, hm⟩ := Int.eq_ofNat_of_zero_le u2
  obtain ⟨n, hn⟩ := Int.eq_ofNat_of_zero_le v2
  obtain rfl | rfl : i = 0 ∨ i = 1 := by omega
  · refine ⟨a, A1, A2, A3, c1, c2, c3, m, a.n1, 0, b.n1, ⟨ha, hva, by omega, by omega, by omega, by omega, by omega, by omega, by simp [st], by simp [st], by simp [st], fun k hk l hl => ?_, fun k hk => ?_, fun k hk l hl => ?_, fun k hk l hl => ?_, fun k hk l hl => ?_⟩, ?_⟩
    · simp only [st, Nat.zero_add]; rw [joint_L1 a b hk, hl, mvJ_one a b m a.n1 l hm rfl]
    · simp only [st, Nat.zero_add]; rw [joint_I1 a b hk]
    · simp only [st, Nat.zero_add]; rw [joint_X1 a b hk, hl, mvJ_one a b m a.n1 l hm rfl]
    · simp only [st, Nat.zero_add]; rw [joint_Y1 a b hk, hl, mvJ_one a b m a.n1 l hm rfl]
    · simp only [st, Nat.zero_add]; rw [joint_O1 a b hk, hl, mvJ_one a b m a.n1 l hm rfl]
    · intro j hj
      obtain rfl | rfl | rfl | rfl | rfl | rfl | rfl | rfl : j = 0 ∨ j = 1 ∨ j = 2 ∨ j = 3 ∨ j = 4 ∨ j = 5 ∨ j = 6 ∨ j = 7 := by omega
      all_goals simp [halvesV, halfV, hm]
  · refine ⟨b, B1, B2, B3, d1, d2, d3, n, b.n1, a.n1, a.n1 + a.n2, ⟨hb, hvb, by omega, by omega, by omega, by omega, by omega, by omega, by simp [st], by simp [st], by simp [st], fun k hk l hl => ?_, fun k hk => ?_, fun k hk l hl => ?_, fun k hk l hl => ?_, fun k hk l hl => ?_⟩, ?_⟩
    · simp only [st]; rw [joint_L2 a b, hl, mvJ_two a b n l hn]
    · simp only [st]; rw [joint_I2 a b]
    · simp only [st]; rw [joint_X2 a b, hl, mvJ_two a b n l hn]
    · simp only [st]; rw [joint_Y2 a b, hl, mvJ_two a b n l hn]
    · simp only [st]; rw [joint_O2 a b, hl, mvJ_two a b n l hn]
    · intro j hj
      obtain rfl | rfl | rfl | rfl | rfl | rfl | rfl | rfl : j = 0 ∨ j = 1 ∨ j = 2 ∨ j = 3 ∨ j = 4 ∨ j = 5 ∨ j = 6 ∨ j = 7 := by omega
      all_goals simp [halvesV, halfV, hn]
end Go.Proofs.Ytkanekacjefcbaa
