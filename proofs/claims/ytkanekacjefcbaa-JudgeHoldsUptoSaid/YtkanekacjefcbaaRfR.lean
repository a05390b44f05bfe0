/- The reference's formed, Held.is, put and open, walked. Conditions: what they read lies in memory; the numbers are literals. -/
import Derived.Test.YtkanekacjefcbaaRfC
import Derived.Laws.MakeOwn
namespace Go.Proofs.Ytkanekacjefcbaa
open Go.RowKit

set_option maxHeartbeats 1000000 in
theorem fmd_any (A : Option Addr) (d : Nat) (c : List Int) (vars : Int) (w : World) (hc : ClRow w A c) (hn : c.length ≤ 1000000000000000) (h0 : 0 ≤ vars) (h1 : vars ≤ 100000) :
    Calls Try.prog 16 #[.slice A c.length d, .int .i64 vars] w fun e w' => e = .returned (.bool (tf (LitsOk vars c))) ∧ w' = w := by
  have HIF : Hid (LitsOk vars c ↔ ∀ k, k < c.length → LitOk1 vars (c.getD k 0)) := Lib.hid litsOk_iff
  go_enter Try.func16, Try.ntmps16
  go_wp2
  go_loop [5] (fun ix => ∃ k : Nat, k ≤ c.length ∧ ix = .int .i64 k ∧ Hid (∀ j, j < k → LitOk1 vars (c.getD j 0))) (fun ix => c.length - (intOf ix).toNat)
  case atStart => exact ⟨0, by omega, rfl, Lib.hid (fun j hj => by omega)⟩
  case round =>
    obtain ⟨k, hk, rfl, HK⟩ := hrel
    by_cases hlt : k < c.length
    · have hki : (k : Int) < c.length := by omega
      obtain ⟨b, o, hA, x0⟩ := hc.at_ hlt
      have HNO : Hid (¬ LitOk1 vars (c.getD k 0) → tf (LitsOk vars c) = false) := Lib.hid (fun h => tf_no (fun hl => h (HIF.out.1 hl k hlt)))
      have HYE : Hid (LitOk1 vars (c.getD k 0) → ∀ j, j < k + 1 → LitOk1 vars (c.getD j 0)) := Lib.hid (fun h j hj => by
        by_cases e : j < k
        · exact HK.out j e
        · obtain rfl : j = k := by omega
          exact h)
      generalize c.getD k 0 = x at *
      subst hA
      by_cases hz : x = 0
      · have HF := Lib.hid (HNO.out (fun h => h.1 hz))
        subst hz
        go_wp2
        go_ret
        exact ⟨ret_bool HF.out.symm, rfl⟩
      · have hz' : (x == 0) = false := by simpa using hz
        by_cases hg : vars < x
        · have HF := Lib.hid (HNO.out (fun h => by have := h.2.2; omega))
          go_wp2
          go_ret
          exact ⟨ret_bool HF.out.symm, rfl⟩
        · by_cases hs : x < -vars
          · have HF := Lib.hid (HNO.out (fun h => by have := h.2.1; omega))
            go_wp2
            go_ret
            exact ⟨ret_bool HF.out.symm, rfl⟩
          · have HN := Lib.hid (HYE.out ⟨hz, by omega, by omega⟩)
            go_wp2
            go_round
            case rel => exact ⟨k + 1, by omega, by go_num, HN⟩
            case measure => simp [intOf]; omega
    · obtain rfl : k = c.length := by omega
      have HT := Lib.hid (tf_yes (HIF.out.2 HK.out))
      go_wp2
      go_ret
      exact ⟨ret_bool HT.out.symm, rfl⟩

/-- what the array of sides says -/
def Sd (V : Nat) (sd : Nat → Int) (S : Int → Bool) : Prop := ∀ v : Nat, 1 ≤ v → v ≤ V → S (v : Int) = decide (0 < sd v) ∧ S (-(v : Int)) = decide (sd v < 0)
/-- the reference's Held in memory: its box bh, its array bs -/
structure Side (w : World) (bh bs V : Nat) (S : Int → Bool) : Prop where
  box : Arr w bh 66 1 (fun _ => .slice (some ⟨bs, 0, none⟩) (V + 1) (V + 1))
  arr : ∃ sd : Nat → Int, Arr w bs 3 (V + 1) (fun j => .int .i64 (sd j)) ∧ Sd V sd S
theorem Side.below {w w1 : World} {bh bs V : Nat} {S : Int → Bool} (h : Side w bh bs V S) (k : Below w.heap.size w w1) : Side w1 bh bs V S :=
  ⟨h.box.below k, let ⟨sd, h1, h2⟩ := h.arr; ⟨sd, h1.below k, h2⟩⟩
theorem Sd.put {V v : Nat} {sd : Nat → Int} {S : Int → Bool} {x s : Int} (h : Sd V sd S) (hv : 1 ≤ v) (hx : (x = v ∧ s = 1) ∨ (x = -(v : Int) ∧ s = -1)) (hn : S (-x) = false) : Sd V (fun j => if j = v then s else sd j) (put1 S x) := by
  intro u hu hV
  obtain ⟨h1, h2⟩ := h u hu hV
  by_cases e : u = v
  · subst e
    rcases hx with ⟨rfl, rfl⟩ | ⟨rfl, rfl⟩
    · have e1 : (-(u : Int) == (u : Int)) = false := by rw [beq_eq_false_iff_ne]; omega
      simp [put1, hn, e1]
    · have e1 : ((u : Int) == -(u : Int)) = false := by rw [beq_eq_false_iff_ne]; omega
      simp only [Int.neg_neg] at hn
      simp [put1, hn, e1]
  · have e1 : ((u : Int) == x) = false := by rw [beq_eq_false_iff_ne]; omega
    have e2 : (-(u : Int) == x) = false := by rw [beq_eq_false_iff_ne]; omega
    simp only [put1, e1, e2, Bool.or_false, if_neg e]
    exact ⟨h1, h2⟩

set_option maxHeartbeats 1000000 in
theorem is_any (bh bs V : Nat) (S : Int → Bool) (l : Int) (w : World) (h : Side w bh bs V S) (hl : LitOk1 V l) (hV : V ≤ 100000) :
    Calls Try.prog 30 #[.pointer (some ⟨bh, 0, none⟩), .int .i64 l] w fun e w' => e = .returned (.bool (S l)) ∧ w = w' := by
  obtain ⟨hl0, hl1, hl2⟩ := hl
  have c0 := h.box.cell (k := 0) (by omega)
  obtain ⟨sd, ha, hs⟩ := h.arr
  by_cases hn : l < 0
  · obtain ⟨v, hv⟩ : ∃ v : Nat, l = -(v : Int) := ⟨(-l).toNat, by omega⟩
    subst hv
    have ca := ha.cell (k := v) (by omega)
    have HS := Lib.hid (hs v (by omega) (by omega)).2
    clear h ha hs
    have e1 : (v : Int) < V + 1 := by omega
    go_enter Try.func30, Try.ntmps30
    go_wp2
    go_ret
    exact ⟨ret_bool HS.out.symm, rfl⟩
  · obtain ⟨v, hv⟩ : ∃ v : Nat, l = (v : Int) := ⟨l.toNat, by omega⟩
    subst hv
    have ca := ha.cell (k := v) (by omega)
    have HS := Lib.hid (hs v (by omega) (by omega)).1
    clear h ha hs
    have e1 : (v : Int) < V + 1 := by omega
    go_enter Try.func30, Try.ntmps30
    go_wp2
    go_ret
    exact ⟨ret_bool HS.out.symm, rfl⟩

set_option maxHeartbeats 1000000 in
theorem putR_any (bh bs V : Nat) (S : Int → Bool) (l : Int) (w : World) (h : Side w bh bs V S) (hne : bh ≠ bs) (hl : LitOk1 V l) (hV : V ≤ 100000) (hf : S (-l) = false) :
    Calls Try.prog 31 #[.pointer (some ⟨bh, 0, none⟩), .int .i64 l] w fun e w' => (∃ v, e = .returned v) ∧ Side w' bh bs V (put1 S l) ∧ Only (fun k => k = bs) w w' := by
  obtain ⟨hl0, hl1, hl2⟩ := hl
  have c0 := h.box.cell (k := 0) (by omega)
  obtain ⟨sd, ha, hs⟩ := h.arr
  by_cases hn : l < 0
  · obtain ⟨v, hv⟩ : ∃ v : Nat, l = -(v : Int) := ⟨(-l).toNat, by omega⟩
    subst hv
    have ca := ha.cell (k := v) (by omega)
    have fa := ha.thaw v
    have HN : Hid (Side (w.setCell ⟨bs, v, none⟩ (.int .i64 (-1))) bh bs V (put1 S (-(v : Int))) ∧ Only (fun k => k = bs) w (w.setCell ⟨bs, v, none⟩ (.int .i64 (-1)))) := Lib.hid
      ⟨⟨h.box.only ((Only.refl (fun k => k = bs) w).setCell (p := ⟨bs, v, none⟩) (fun _ => rfl) _) hne, _, ha.set (fun j hj hne => by simp [hne]) (by simp), hs.put (by omega) (.inr ⟨rfl, rfl⟩) hf⟩, (Only.refl (fun k => k = bs) w).setCell (p := ⟨bs, v, none⟩) (fun _ => rfl) _⟩
    clear h ha hs hf
    have e1 : (v : Int) < V + 1 := by omega
    go_enter Try.func31, Try.ntmps31
    go_wp2
    go_end0
    exact ⟨⟨_, rfl⟩, HN.out⟩
  · obtain ⟨v, hv⟩ : ∃ v : Nat, l = (v : Int) := ⟨l.toNat, by omega⟩
    subst hv
    have ca := ha.cell (k := v) (by omega)
    have fa := ha.thaw v
    have HN : Hid (Side (w.setCell ⟨bs, v, none⟩ (.int .i64 1)) bh bs V (put1 S (v : Int)) ∧ Only (fun k => k = bs) w (w.setCell ⟨bs, v, none⟩ (.int .i64 1))) := Lib.hid
      ⟨⟨h.box.only ((Only.refl (fun k => k = bs) w).setCell (p := ⟨bs, v, none⟩) (fun _ => rfl) _) hne, _, ha.set (fun j hj hne => by simp [hne]) (by simp), hs.put (by omega) (.inl ⟨rfl, rfl⟩) hf⟩, (Only.refl (fun k => k = bs) w).setCell (p := ⟨bs, v, none⟩) (fun _ => rfl) _⟩
    clear h ha hs hf
    have e1 : (v : Int) < V + 1 := by omega
    go_enter Try.func31, Try.ntmps31
    go_wp2
    go_end0
    exact ⟨⟨_, rfl⟩, HN.out⟩

/-- what the reference's open tells -/
def openR (S : Int → Bool) : List Int → Nat → Int → Nat × Int
  | [], n, x => (n, x)
  | l :: r, n, x => if S (-l) = true ∨ (0 < n ∧ l = x) then openR S r n x else openR S r (n + 1) l
theorem openR_ge (S : Int → Bool) : ∀ (c : List Int) (n : Nat) (x : Int), n ≤ (openR S c n x).1 ∧ (openR S c n x).1 ≤ n + c.length
  | [], n, x => by simp [openR]
  | l :: r, n, x => by
    unfold openR
    split
    · have := openR_ge S r n x; simp; omega
    · have := openR_ge S r (n + 1) l; simp; omega
theorem openR_is (S : Int → Bool) : ∀ (c p : List Int) (n : Nat) (x : Int), OpenIs S p x n → OpenIs S (p ++ c) (openR S c n x).2 (openR S c n x).1
  | [], p, n, x, h => by simpa [openR] using h
  | l :: r, p, n, x, h => by
    have e : p ++ l :: r = (p ++ [l]) ++ r := by simp
    rw [e]
    unfold openR
    split
    · rename_i hc
      refine openR_is S r (p ++ [l]) n x ?_
      rcases h with ⟨h0, h1⟩ | ⟨h0, h1, h2, h3⟩ | ⟨h0, a, b, ha, hb, r'⟩
      · refine .inl ⟨h0, fun m hm => ?_⟩
        rcases List.mem_append.1 hm with hm | hm
        · exact h1 m hm
        · simp at hm; subst hm
          rcases hc with hc | ⟨hc, _⟩
          · exact hc
          · omega
      · refine .inr (.inl ⟨h0, List.mem_append_left _ h1, h2, fun m hm => ?_⟩)
        rcases List.mem_append.1 hm with hm | hm
        · exact h3 m hm
        · simp at hm; subst hm
          rcases hc with hc | ⟨_, hc⟩
          · exact .inl hc
          · exact .inr hc
      · exact .inr (.inr ⟨h0, a, b, List.mem_append_left _ ha, List.mem_append_left _ hb, r'⟩)
    · rename_i hc
      have hc' := not_or.1 hc
      have hl : S (-l) = false := by simpa using hc'.1
      refine openR_is S r (p ++ [l]) (n + 1) l ?_
      rcases h with ⟨h0, h1⟩ | ⟨h0, h1, h2, h3⟩ | ⟨h0, a, b, ha, hb, r'⟩
      · refine .inr (.inl ⟨by omega, by simp, hl, fun m hm => ?_⟩)
        rcases List.mem_append.1 hm with hm | hm
        · exact .inl (h1 m hm)
        · simp at hm; exact .inr hm
      · refine .inr (.inr ⟨by omega, x, l, List.mem_append_left _ h1, by simp, fun e => hc'.2 ⟨by omega, e.symm⟩, h2, hl⟩)
      · exact .inr (.inr ⟨by omega, a, b, List.mem_append_left _ ha, List.mem_append_left _ hb, r'⟩)
theorem openR_start (S : Int → Bool) (c : List Int) : OpenIs S c (openR S c 0 0).2 (openR S c 0 0).1 := by
  have := openR_is S c [] 0 0 (.inl ⟨rfl, by simp⟩)
  simpa using this
end Go.Proofs.Ytkanekacjefcbaa
