/- The decimal numeral of a number; lines of numbers; strings by their bytes. Plain Lean. A graph's text, by its lines. Plain Lean. -/
import Derived.Test.YtngjbiipgbeemaaDoorBase
import Derived.Lib.ItoaMem
import Derived.Laws.Concat
import Derived.Test.YtngjbiipgbeemaaDoorGraph
namespace Go.Proofs.YtngjbiipgbeemaaDoor
open Go.RowKit

/-- a string by its bytes -/
def str (l : List UInt8) : ByteArray := ⟨l.toArray⟩
theorem str_size (l : List UInt8) : (str l).size = l.length := rfl
theorem str_append (a b : List UInt8) : str a ++ str b = str (a ++ b) := ByteArray.mk_append_mk a b
theorem str_inj {a b : List UInt8} (h : a = b) : str a = str b := by rw [h]
theorem ret_str {a b : List UInt8} (h : a = b) : Ending.returned (.string (str a)) = .returned (.string (str b)) := by rw [h]

/-- two strings one behind the other -/
theorem run_cat {P : Program} (a b : List UInt8) (h : a.length + b.length ≤ 1000000000) (w : World) : (Op.stringOp .add (str a) (str b)).run P w = .ok (.string (str (a ++ b))) w := by
  rw [run_string_add_sum w _ _ (by rw [str_size, str_size]; omega), str_append]
theorem run_catc {P : Program} (a b : List UInt8) (h : a.length + b.length ≤ 1000000000) (w : World) : (Op.stringOp .add (str a) ⟨b.toArray⟩).run P w = .ok (.string (str (a ++ b))) w := run_cat a b h w
theorem run_ccat {P : Program} (a b : List UInt8) (h : a.length + b.length ≤ 1000000000) (w : World) : (Op.stringOp .add ⟨a.toArray⟩ (str b)).run P w = .ok (.string (str (a ++ b))) w := run_cat a b h w

theorem dec_step {n : Nat} (h : ¬ n < 10) : Lib.decDigits n = Lib.decDigits (n / 10) ++ [UInt8.ofNat (48 + n % 10)] := by
  rw [Lib.decDigits, dif_neg h]
theorem dec_last {n : Nat} (h : n < 10) : Lib.decDigits n = [UInt8.ofNat (48 + n)] := by
  rw [Lib.decDigits, dif_pos h]
theorem dec_len (n k : Nat) (h : n < 10 ^ (k + 1)) : (Lib.decDigits n).length ≤ k + 1 := by
  induction k generalizing n with
  | zero => rw [dec_last (by simpa using h)]; simp
  | succ k ih =>
    by_cases h10 : n < 10
    · rw [dec_last h10]; simp
    · rw [dec_step h10]
      have := ih (n / 10) (by rw [Nat.pow_succ] at h; omega)
      simp; omega
theorem dec_len20 (n : Nat) (h : n < 18446744073709551616) : (Lib.decDigits n).length ≤ 20 := dec_len n 19 (by omega)

/-- these bytes one behind the other, for 0, 1, .. -/
def cat (f : Nat → List UInt8) : Nat → List UInt8
  | 0 => []
  | k + 1 => cat f k ++ f k
theorem cat_congr {f g : Nat → List UInt8} : ∀ n, (∀ k, k < n → f k = g k) → cat f n = cat g n
  | 0, _ => rfl
  | n + 1, h => by simp only [cat]; rw [cat_congr n (fun k hk => h k (by omega)), h n (by omega)]
theorem cat_len {f : Nat → List UInt8} {B : Nat} : ∀ n, (∀ k, k < n → (f k).length ≤ B) → (cat f n).length ≤ n * B
  | 0, _ => by simp [cat]
  | n + 1, h => by
    have h1 := cat_len n (fun k hk => h k (by omega))
    have h2 := h n (by omega)
    simp only [cat, List.length_append, Nat.succ_mul]; omega
theorem cat_mono {f : Nat → List UInt8} : ∀ {m n : Nat}, m ≤ n → (cat f m).length ≤ (cat f n).length
  | m, 0, h => by obtain rfl : m = 0 := by omega
                  exact Nat.le_refl _
  | m, n + 1, h => by
    rcases Nat.lt_or_ge n m with h1 | h1
    · obtain rfl : m = n + 1 := by omega
      exact Nat.le_refl _
    · have := cat_mono (f := f) h1
      simp only [cat, List.length_append]; omega

/-- the first k of these numbers, a blank between two -/
def upTo (X : Nat → Int) : Nat → List UInt8
  | 0 => []
  | k + 1 => upTo X k ++ (if 0 < k then [32] else []) ++ Lib.itoa (X k)
def lineOf (l : List Int) : List UInt8 := upTo (fun k => l.getD k 0) l.length ++ [10]
theorem line1 (a : Int) : lineOf [a] = Lib.itoa a ++ [10] := by simp [lineOf, upTo]
theorem line2 (a b : Int) : lineOf [a, b] = Lib.itoa a ++ [32] ++ Lib.itoa b ++ [10] := by simp [lineOf, upTo]
theorem line3 (a b c : Int) : lineOf [a, b, c] = Lib.itoa a ++ [32] ++ Lib.itoa b ++ [32] ++ Lib.itoa c ++ [10] := by simp [lineOf, upTo]
theorem line5 (a b c d e : Int) : lineOf [a, b, c, d, e] = Lib.itoa a ++ [32] ++ Lib.itoa b ++ [32] ++ Lib.itoa c ++ [32] ++ Lib.itoa d ++ [32] ++ Lib.itoa e ++ [10] := by simp [lineOf, upTo]

theorem itoa_len (n : Int) (h0 : -9223372036854775808 ≤ n) (h1 : n ≤ 9223372036854775807) : (Lib.itoa n).length ≤ 21 := by
  unfold Lib.itoa
  split
  · have := dec_len20 n.natAbs (by omega)
    simp; omega
  · have := dec_len20 n.toNat (by omega)
    omega
theorem upTo_len {X : Nat → Int} : ∀ n, (∀ k, k < n → -9223372036854775808 ≤ X k ∧ X k ≤ 9223372036854775807) → (upTo X n).length ≤ n * 22
  | 0, _ => by simp [upTo]
  | n + 1, h => by
    have h1 := upTo_len n (fun k hk => h k (by omega))
    have h2 := itoa_len _ (h n (by omega)).1 (h n (by omega)).2
    simp only [upTo, List.length_append, Nat.succ_mul]
    split <;> simp <;> omega
end Go.Proofs.YtngjbiipgbeemaaDoor
namespace Go.Proofs.YtngjbiipgbeemaaDoor
open Go.RowKit

/-- the first line -/
def G.headT (word : List UInt8) (g : G) : List UInt8 := word ++ [32] ++ lineOf [1 + g.ins + g.n1 + g.n2 - 1, g.ins, g.n1, g.n3, g.n2]
def G.latL (g : G) (i : Nat) : List Int := if g.I i = true then [2 * (1 + g.ins + i), g.L i, 1] else [2 * (1 + g.ins + i), g.L i]
def G.andL (g : G) (i : Nat) : List Int := [2 * (1 + g.ins + g.n1 + i), g.X i, g.Y i]
def G.insT (g : G) (k : Nat) : List UInt8 := g.headT [97, 97, 103] ++ cat (fun i => lineOf [2 * (1 + (i : Int))]) k
def G.latT (g : G) (k : Nat) : List UInt8 := g.insT g.ins.toNat ++ cat (fun i => lineOf (g.latL i)) k
def G.outT (g : G) (k : Nat) : List UInt8 := g.latT g.n1 ++ cat (fun i => lineOf [g.O i]) k
def G.text (g : G) (k : Nat) : List UInt8 := g.outT g.n3 ++ cat (fun i => lineOf (g.andL i)) k

theorem lineOf_len {l : List Int} (h : ∀ x ∈ l, -9223372036854775808 ≤ x ∧ x ≤ 9223372036854775807) : (lineOf l).length ≤ l.length * 22 + 1 := by
  have := upTo_len (X := fun k => l.getD k 0) l.length (fun k hk => by
    show _ ≤ l.getD k 0 ∧ l.getD k 0 ≤ _
    have e : l.getD k 0 = l[k] := by rw [List.getD_eq_getElem?_getD, List.getElem?_eq_getElem hk]; rfl
    rw [e]; exact h _ (List.getElem_mem hk))
  simp only [lineOf, List.length_append, List.length_singleton]; omega

/-- all the numbers of the lines are small -/
structure G.Small (g : G) : Prop where
  v : g.Valid
  lat : ∀ i, i < g.n1 → 0 ≤ g.L i ∧ g.L i ≤ 120000
  outs : ∀ i, i < g.n3 → 0 ≤ g.O i ∧ g.O i ≤ 120000
  ands : ∀ i, i < g.n2 → 0 ≤ g.X i ∧ g.X i ≤ 120000 ∧ 0 ≤ g.Y i ∧ g.Y i ≤ 120000
theorem G.Valid.small {g : G} (h : g.Valid) : g.Small := by
  have hn := h.n; have h0 := h.i0
  refine ⟨h, fun i hi => ?_, fun i hi => ?_, fun i hi => ?_⟩
  · have := h.lat i hi; unfold G.LitOk at this; omega
  · have := h.outs i hi; unfold G.LitOk at this; omega
  · have := h.ands i hi; unfold G.AndOk at this; omega

theorem G.head_len {g : G} (h : g.Small) (word : List UInt8) (hw : word.length ≤ 100) : (g.headT word).length ≤ 300 := by
  have := h.v.i0; have := h.v.i1; have := h.v.n; have := h.v.n1; have := h.v.n3
  have := lineOf_len (l := [1 + g.ins + g.n1 + g.n2 - 1, g.ins, g.n1, g.n3, g.n2]) (fun x hx => by simp at hx; rcases hx with rfl | rfl | rfl | rfl | rfl <;> omega)
  simp only [G.headT, List.length_append, List.length_cons, List.length_nil] at *
  omega
theorem G.insT_len {g : G} (h : g.Small) {k : Nat} (hk : k ≤ 60000) : (g.insT k).length ≤ 2000000 := by
  have h1 := G.head_len h [97, 97, 103] (by simp)
  have h2 := cat_len (f := fun i => lineOf [2 * (1 + (i : Int))]) (B := 23) k (fun i hi => by
    have := lineOf_len (l := [2 * (1 + (i : Int))]) (fun x hx => by simp at hx; subst hx; omega)
    simpa using this)
  unfold G.insT; simp only [List.length_append]; omega
theorem G.latL_len {g : G} (h : g.Small) {i : Nat} (hi : i < g.n1) : (lineOf (g.latL i)).length ≤ 67 := by
  have := h.v.i0; have := h.v.i1; have := h.v.n; have := h.v.n1
  have hl := h.lat i hi
  have h1 := lineOf_len (l := g.latL i) (fun x hx => by
    unfold G.latL at hx
    split at hx
    · simp at hx; rcases hx with rfl | rfl | rfl <;> omega
    · simp at hx; rcases hx with rfl | rfl <;> omega)
  have h2 : (g.latL i).length ≤ 3 := by unfold G.latL; split <;> simp
  omega
theorem G.latT_len {g : G} (h : g.Small) {k : Nat} (hk : k ≤ g.n1) : (g.latT k).length ≤ 3000000 := by
  have := h.v.n1; have := h.v.i0; have := h.v.i1
  have h1 := G.insT_len h (k := g.ins.toNat) (by omega)
  have h2 := cat_len (f := fun i => lineOf (g.latL i)) (B := 67) k (fun i hi => G.latL_len h (by omega))
  unfold G.latT; simp only [List.length_append]; omega
theorem G.outT_len {g : G} (h : g.Small) {k : Nat} (hk : k ≤ g.n3) : (g.outT k).length ≤ 5000000 := by
  have := h.v.n3
  have h1 := G.latT_len h (k := g.n1) (Nat.le_refl _)
  have h2 := cat_len (f := fun i => lineOf [g.O i]) (B := 23) k (fun i hi => by
    have := h.outs i (by omega)
    have := lineOf_len (l := [g.O i]) (fun x hx => by simp at hx; subst hx; omega)
    simpa using this)
  unfold G.outT; simp only [List.length_append]; omega
theorem G.text_len {g : G} (h : g.Small) {k : Nat} (hk : k ≤ g.n2) : (g.text k).length ≤ 10000000 := by
  have := h.v.n; have := h.v.i0
  have h1 := G.outT_len h (k := g.n3) (Nat.le_refl _)
  have h2 := cat_len (f := fun i => lineOf (g.andL i)) (B := 67) k (fun i hi => by
    have := h.ands i (by omega)
    have := lineOf_len (l := g.andL i) (fun x hx => by unfold G.andL at hx; simp at hx; rcases hx with rfl | rfl | rfl <;> omega)
    simpa [G.andL] using this)
  unfold G.text; simp only [List.length_append]; omega
end Go.Proofs.YtngjbiipgbeemaaDoor
