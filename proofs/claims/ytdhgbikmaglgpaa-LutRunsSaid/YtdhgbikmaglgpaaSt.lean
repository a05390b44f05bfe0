/- Words for a slice of bools of the call's own that is stored into; rows that grow by rows; a trace cut off behind its rows. No condition. -/
import Derived.Test.YtdhgbikmaglgpaaToldRef
namespace Go.Proofs.Ytdhgbikmaglgpaa
open Go.RowKit

/-- a row of inputs, cut off behind its length -/
def cut (TL : Nat → Nat) (T : Nat → Nat → Bool) (c i : Nat) : Bool := decide (i < TL c) && T c i

/-- a slice of bools in a block of the call's own from base on, as the head of an array -/
def St (w : World) (base : Nat) (A : Option Addr) (n : Nat) (V : Nat → Bool) : Prop :=
  0 < n → ∃ (b m : Nat) (U : Nat → Value), A = some ⟨b, 0, none⟩ ∧ base ≤ b ∧ n ≤ m ∧ Arr w b 4 m U ∧ ∀ k, k < n → U k = .bool (V k)
section
variable {w w1 : World} {base n : Nat} {A : Option Addr} {V V' : Nat → Bool}
theorem St.of_own {c : Nat} (h : OwnBits w base A n c V) : St w base A n V := fun hn => by
  obtain ⟨b, off, cur, rfl, hp, hh, hc⟩ := own_rowT h hn
  obtain ⟨hb, e⟩ := hp
  injection e with e; injection e with _ e _; subst e
  have hsz : n ≤ cur.size := by
    have h1 := hc (n - 1) (by omega) 0 (by omega)
    have := (Array.getElem?_eq_some_iff.1 h1).1
    omega
  refine ⟨b, cur.size, fun k => cur.getD k undef, rfl, hb, hsz, ⟨cur, hh, rfl, fun k hk => by simp [hk]⟩, fun k hk => ?_⟩
  have h1 := hc k hk 0 (by omega)
  simp only [Nat.zero_add, Nat.mul_one, Nat.add_zero] at h1
  simp only [Array.getD_eq_getD_getElem?, h1]
  simp [hk]
theorem St.bits (h : St w base A n V) : Bits w A n V := fun hn => by
  obtain ⟨b, m, U, rfl, _, hm, hA, hU⟩ := h hn
  exact ⟨b, 0, rfl, fun k hk => by rw [Nat.zero_add, hA.cell (by omega), hU k hk]⟩
theorem St.below (h : St w base A n V) (k : Below w.heap.size w w1) : St w1 base A n V := fun hn => by
  obtain ⟨b, m, U, e, hb, hm, hA, hU⟩ := h hn
  exact ⟨b, m, U, e, hb, hm, hA.below k, hU⟩
theorem St.only {S : Nat → Prop} (h : St w base A n V) (k : Only S w w1) (hs : ∀ b, b < w.heap.size → blockOf A b → ¬ S b) : St w1 base A n V := fun hn => by
  obtain ⟨b, m, U, e, hb, hm, hA, hU⟩ := h hn
  exact ⟨b, m, U, e, hb, hm, hA.only k (hs b hA.lt ⟨_, e, rfl⟩), hU⟩
theorem St.alloc (h : St w base A n V) (o : Obj) : St (w.alloc o) base A n V := h.below ((Below.refl _ _).alloc (Nat.le_refl _) o)
theorem St.congr (h : St w base A n V) (hV : ∀ j, j < n → V' j = V j) : St w base A n V' := fun hn => by
  obtain ⟨b, m, U, e, hb, hm, hA, hU⟩ := h hn
  exact ⟨b, m, U, e, hb, hm, hA, fun k hk => by rw [hU k hk, hV k hk]⟩
theorem St.at_ (h : St w base A n V) {k : Nat} (hk : k < n) : ∃ b, A = some ⟨b, 0, none⟩ ∧ base ≤ b ∧ w.cell? ⟨b, k, none⟩ = some (.bool (V k)) ∧ w.frozen? ⟨b, k, none⟩ = false ∧
    ∀ (x : Bool) (V' : Nat → Bool), (∀ j, j < n → j ≠ k → V' j = V j) → V' k = x → St (w.setCell ⟨b, k, none⟩ (.bool x)) base A n V' := by
  obtain ⟨b, m, U, e, hb, hm, hA, hU⟩ := h (by omega)
  refine ⟨b, e, hb, by rw [hA.cell (by omega), hU k hk], hA.thaw k, fun x V' h1 h2 _ => ⟨b, m, fun j => if j = k then .bool x else U j, e, hb, hm, hA.set (fun j _ hj => by simp [hj]) (by simp), fun j hj => ?_⟩⟩
  by_cases e : j = k
  · simp only [if_pos e]; rw [e, h2]
  · simp only [if_neg e]; rw [hU j hj, h1 j hj e]
theorem GrowB.app {wb wr : World} {m c c' : Nat} {A' : Option Addr} {S : Nat → Bool} (h : GrowB wb A n c V wr)
    (ho : w1.ownsRow wb.heap.size 4 1 (.slice A' (n + m) c') (n + m) (((List.range n).map fun k => .bool (V k)) ++ (List.range m).map fun k => .bool (S k))) (hk : Only (blockOf A) wr w1)
    (hV : ∀ k, k < n → V' k = V k) (hx : ∀ k, k < m → V' (n + k) = S k) : GrowB wb A' (n + m) c' V' w1 := by
  refine Grow.push h ?_ hk
  rw [List.range_add, List.map_append, List.map_map, List.map_congr_left (g := fun k => .bool (V k)) (fun k hk => by rw [hV k (by simpa using hk)]),
    List.map_congr_left (l := List.range m) (g := fun k => .bool (S k)) (fun k hk => by simp only [Function.comp]; rw [hx k (by simpa using hk)])]
  exact ho
theorem GrowB.two (wb : World) (V : Nat → Bool) (h0 : V 0 = false) (h1 : V 1 = true) : GrowB wb (some ⟨wb.heap.size, 0, none⟩) 2 2 V (wb.alloc (.cells #[.bool false, .bool true] 4)) :=
  ⟨⟨rfl, .inr ⟨_, 2, #[.bool false, .bool true], rfl, Nat.le_refl _, heap_alloc_new _ _, by omega, by simp [maxLen], rfl, by simp [h0, h1, List.range_succ]⟩⟩, (Below.refl _ _).alloc (Nat.le_refl _) _⟩
theorem GrowB.congr {wb wr : World} {c : Nat} (h : GrowB wb A n c V wr) (hV : ∀ k, k < n → V' k = V k) : GrowB wb A n c V' wr := by
  unfold GrowB at *
  rw [List.map_congr_left (g := fun k => .bool (V k)) (fun k hk => by rw [hV k (by simpa using hk)])]
  exact h
end
end Go.Proofs.Ytdhgbikmaglgpaa
