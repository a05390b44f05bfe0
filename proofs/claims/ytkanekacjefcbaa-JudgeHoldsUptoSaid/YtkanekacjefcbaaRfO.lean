/- refute's right and open, the reference's formed, walked. Conditions: the clause lies in memory; its numbers are literals. -/
import Derived.Test.YtkanekacjefcbaaRfM
import Derived.Deep.QuietTactic
import Derived.BigQuiet
namespace Go.Proofs.Ytkanekacjefcbaa
open Go.RowKit

def ClRow (w : World) (A : Option Addr) (c : List Int) : Prop := Row1 w A c.length (fun j => .int .i64 (c.getD j 0))
theorem getD_mem {c : List Int} {k : Nat} (h : k < c.length) : c.getD k 0 ∈ c := by
  rw [List.getD_eq_getElem?_getD, List.getElem?_eq_getElem h]; exact List.getElem_mem h
theorem mem_getD {c : List Int} {x : Int} (h : x ∈ c) : ∃ k, k < c.length ∧ c.getD k 0 = x := by
  obtain ⟨k, hk, e⟩ := List.mem_iff_getElem.1 h
  exact ⟨k, hk, by rw [List.getD_eq_getElem?_getD, List.getElem?_eq_getElem hk]; exact e⟩
def LitOk1 (vars x : Int) : Prop := x ≠ 0 ∧ -vars ≤ x ∧ x ≤ vars
theorem litsOk_iff {vars : Int} {c : List Int} : LitsOk vars c ↔ ∀ k, k < c.length → LitOk1 vars (c.getD k 0) :=
  ⟨fun h k hk => h _ (getD_mem hk), fun h x hx => by obtain ⟨k, hk, rfl⟩ := mem_getD hx; exact h k hk⟩

set_option maxHeartbeats 1000000 in
theorem right_any (A : Option Addr) (d : Nat) (c : List Int) (vars : Int) (w : World) (hc : ClRow w A c) (hn : c.length ≤ 1000000000000000) (h0 : 0 ≤ vars) (h1 : vars ≤ 100000) :
    Calls Try.prog 12 #[.slice A c.length d, .int .i64 vars] w fun e w' => e = .returned (.bool (tf (LitsOk vars c))) ∧ w = w' := by
  have HIF : Hid (LitsOk vars c ↔ ∀ k, k < c.length → LitOk1 vars (c.getD k 0)) := Lib.hid litsOk_iff
  go_enter Try.func12, Try.ntmps12
  go_wp2
  go_loop [9] (fun ix => ∃ k : Nat, k ≤ c.length ∧ ix = .int .i64 k ∧ Hid (∀ j, j < k → LitOk1 vars (c.getD j 0))) (fun ix => c.length - (intOf ix).toNat)
  case atStart => exact ⟨0, by omega, rfl, Lib.hid (fun j hj => by omega)⟩
  case round =>
    obtain ⟨k, hk, rfl, HK⟩ := hrel
    by_cases hlt : k < c.length
    · have hki : (k : Int) < c.length := by omega
      obtain ⟨b, o, hA, x0⟩ := hc.at_ hlt
      have HNO : Hid (¬ LitOk1 vars (c.getD k 0) → tf (LitsOk vars c) = false) := Lib.hid (fun h => tf_no (fun hl => h (HIF.out.1 hl k hlt)))
      have HYE : Hid (LitOk1 vars (c.getD k 0) → ∀ j, j < k + 1 → LitOk1 vars (c.getD j 0)) := Lib.hid (fun h j hj => by
        by_cases e : j < k
        · exact HK.out j e
        · obtain rfl : j = k := by omega
          exact h)
      generalize c.getD k 0 = x at *
      subst hA
      by_cases hz : x = 0
      · have HF := Lib.hid (HNO.out (fun h => h.1 hz))
        subst hz
        go_wp2
        go_ret
        exact ⟨ret_bool HF.out.symm, rfl⟩
      · have hz' : (x == 0) = false := by simpa using hz
        by_cases hg : vars < x
        · have HF := Lib.hid (HNO.out (fun h => by have := h.2.2; omega))
          go_wp2
          go_ret
          exact ⟨ret_bool HF.out.symm, rfl⟩
        · by_cases hs : x < -vars
          · have HF := Lib.hid (HNO.out (fun h => by have := h.2.1; omega))
            go_wp2
            go_ret
            exact ⟨ret_bool HF.out.symm, rfl⟩
          · have HN := Lib.hid (HYE.out ⟨hz, by omega, by omega⟩)
            go_wp2
            go_round
            case rel => exact ⟨k + 1, by omega, by go_num, HN⟩
            case measure => simp [intOf]; omega
    · obtain rfl : k = c.length := by omega
      have HT := Lib.hid (tf_yes (HIF.out.2 HK.out))
      go_wp2
      go_ret
      exact ⟨ret_bool HT.out.symm, rfl⟩

/-- what refute's open tells -/
def openF (S : Int → Bool) : List Int → Int → Int × Int
  | [], x => if x = 0 then (0, 0) else (x, 1)
  | l :: r, x => if S (-l) = true ∨ l = x then openF S r x else if x = 0 then openF S r l else (x, 2)
theorem openF_some (S : Int → Bool) : ∀ (c : List Int) (x : Int), x ≠ 0 → (∀ l, l ∈ c → l ≠ 0) →
    ((openF S c x = (x, 1) ∧ ∀ l, l ∈ c → S (-l) = true ∨ l = x) ∨ (openF S c x = (x, 2) ∧ ∃ l, l ∈ c ∧ S (-l) = false ∧ l ≠ x))
  | [], x, hx, _ => .inl ⟨by simp [openF, hx], by simp⟩
  | l :: r, x, hx, hz => by
    unfold openF
    by_cases h : S (-l) = true ∨ l = x
    · rw [if_pos h]
      rcases openF_some S r x hx (fun m hm => hz m (List.mem_cons_of_mem _ hm)) with ⟨h1, h2⟩ | ⟨h1, m, hm, h2⟩
      · exact .inl ⟨h1, fun m hm => (List.mem_cons.1 hm).elim (fun e => by subst e; exact h) (h2 m)⟩
      · exact .inr ⟨h1, m, List.mem_cons_of_mem _ hm, h2⟩
    · rw [if_neg h, if_neg hx]
      have h' := not_or.1 h
      exact .inr ⟨rfl, l, List.mem_cons_self .., by simpa using h'.1, h'.2⟩
theorem openF_is (S : Int → Bool) : ∀ (c : List Int), (∀ l, l ∈ c → l ≠ 0) → OpenIs S c (openF S c 0).1 (openF S c 0).2 ∧ (0 ≤ (openF S c 0).2 ∧ (openF S c 0).2 ≤ 2) ∧ ((openF S c 0).1 = 0 ∨ (openF S c 0).1 ∈ c)
  | [], _ => by simp [openF, OpenIs]
  | l :: r, hz => by
    have hl := hz l (List.mem_cons_self ..)
    have hr : ∀ m, m ∈ r → m ≠ 0 := fun m hm => hz m (List.mem_cons_of_mem _ hm)
    unfold openF
    by_cases h : S (-l) = true
    · rw [if_pos (.inl h)]
      obtain ⟨h1, h2, h3⟩ := openF_is S r hr
      refine ⟨?_, h2, h3.imp id (List.mem_cons_of_mem _)⟩
      rcases h1 with ⟨a, b⟩ | ⟨a, b, c, d⟩ | ⟨a, x, y, b, c, d⟩
      · exact .inl ⟨a, fun m hm => (List.mem_cons.1 hm).elim (fun e => by subst e; exact h) (b m)⟩
      · exact .inr (.inl ⟨a, List.mem_cons_of_mem _ b, c, fun m hm => (List.mem_cons.1 hm).elim (fun e => by subst e; exact .inl h) (d m)⟩)
      · exact .inr (.inr ⟨a, x, y, List.mem_cons_of_mem _ b, List.mem_cons_of_mem _ c, d⟩)
    · rw [if_neg (by simp [h, hl]), if_pos rfl]
      have hf : S (-l) = false := by simpa using h
      rcases openF_some S r l hl hr with ⟨h1, h2⟩ | ⟨h1, m, hm, h2, h3⟩
      · rw [h1]
        exact ⟨.inr (.inl ⟨rfl, List.mem_cons_self .., hf, fun m hm => (List.mem_cons.1 hm).elim (fun e => .inr e) (h2 m)⟩), ⟨by simp, by simp⟩, .inr (List.mem_cons_self ..)⟩
      · rw [h1]
        exact ⟨.inr (.inr ⟨by simp, l, m, List.mem_cons_self .., List.mem_cons_of_mem _ hm, fun e => h3 e.symm, hf, h2⟩), ⟨by simp, by simp⟩, .inr (List.mem_cons_self ..)⟩
theorem drop_getD {c : List Int} {k : Nat} (h : k < c.length) : c.drop k = c.getD k 0 :: c.drop (k + 1) := by
  rw [List.drop_eq_getElem_cons h, List.getD_eq_getElem?_getD, List.getElem?_eq_getElem h]; rfl

set_option maxHeartbeats 1000000 in
theorem open_any (p : Value) (A : Option Addr) (d : Nat) (c : List Int) (b n : Nat) (S : Int → Bool) (w : World) (hc : ClRow w A c) (hn : c.length ≤ 1000000000000000) (hl : LitsOk 100000 c) (hm : HeldM w b n S) :
    Calls Try.prog 27 #[p, .slice A c.length d, .map (some b)] w fun e w' => e = .returned (.tuple #[.int .i64 (openF S c 0).1, .int .i64 (openF S c 0).2]) ∧ w = w' := by
  have HM := Lib.hid hm; clear hm
  have HL := Lib.hid (litsOk_iff.1 hl); clear hl
  go_enter Try.func27, Try.ntmps27
  go_wp2
  go_loop [8, 13] (fun xv ix => ∃ (k : Nat) (x : Int), k ≤ c.length ∧ ix = .int .i64 k ∧ xv = .int .i64 x ∧ Hid (openF S c 0 = openF S (c.drop k) x)) (fun _ ix => c.length - (intOf ix).toNat)
  case atStart => exact ⟨0, 0, by omega, rfl, rfl, Lib.hid rfl⟩
  case round =>
    obtain ⟨k, x, hk, rfl, rfl, HK⟩ := hrel
    by_cases hlt : k < c.length
    · have hki : (k : Int) < c.length := by omega
      obtain ⟨ba, oa, hA, x0⟩ := hc.at_ hlt
      obtain ⟨hy0, hy1, hy2⟩ := HL.out k hlt
      have HD : Hid (openF S (c.drop k) x = if S (-(c.getD k 0)) = true ∨ c.getD k 0 = x then openF S (c.drop (k + 1)) x else if x = 0 then openF S (c.drop (k + 1)) (c.getD k 0) else (x, 2)) := Lib.hid (by rw [drop_getD hlt]; rfl)
      generalize c.getD k 0 = y at *
      have hrun := HM.out.look (l := -y) (wf_lit (by omega) (by omega))
      subst hA
      by_cases hS : S (-y) = true
      · rw [if_pos hS] at hrun
        have HN : Hid (openF S c 0 = openF S (c.drop (k + 1)) x) := Lib.hid (by rw [HK.out, HD.out, if_pos (.inl hS)])
        clear hS
        go_wp2
        go_round
        case rel => exact ⟨k + 1, x, by omega, by go_num, rfl, HN⟩
        case measure => simp [intOf]; omega
      · rw [if_neg hS] at hrun
        by_cases hyx : y = x
        · subst hyx
          have HN : Hid (openF S c 0 = openF S (c.drop (k + 1)) y) := Lib.hid (by rw [HK.out, HD.out, if_pos (.inr rfl)])
          have hq : (y == y) = true := by simp
          clear hS
          go_wp2
          go_round
          case rel => exact ⟨k + 1, y, by omega, by go_num, rfl, HN⟩
          case measure => simp [intOf]; omega
        · have hq : (y == x) = false := by simpa using hyx
          have HC : Hid (¬ (S (-y) = true ∨ y = x)) := Lib.hid (by simp [hS, hyx])
          by_cases hx0 : x = 0
          · have HN : Hid (openF S c 0 = openF S (c.drop (k + 1)) y) := Lib.hid (by rw [HK.out, HD.out, if_neg HC.out, if_pos hx0])
            clear hS
            subst hx0
            go_wp2
            go_round
            case rel => exact ⟨k + 1, y, by omega, by go_num, rfl, HN⟩
            case measure => simp [intOf]; omega
          · have HN : Hid (openF S c 0 = (x, 2)) := Lib.hid (by rw [HK.out, HD.out, if_neg HC.out, if_neg hx0])
            have hq2 : (x != 0) = true := by simpa using hx0
            clear hS
            go_wp2
            go_ret2
            exact ⟨by rw [HN.out]; rfl, rfl⟩
    · obtain rfl : k = c.length := by omega
      have HN : Hid (openF S c 0 = if x = 0 then (0, 0) else (x, 1)) := Lib.hid (by rw [HK.out, List.drop_length]; rfl)
      by_cases hx0 : x = 0
      · subst hx0
        go_wp2
        go_ret2
        exact ⟨by rw [HN.out]; simp, rfl⟩
      · have hq : (x == 0) = false := by simpa using hx0
        go_wp2
        go_ret2
        exact ⟨by rw [HN.out, if_neg hx0]; rfl, rfl⟩
end Go.Proofs.Ytkanekacjefcbaa
