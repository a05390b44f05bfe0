/- What the fabric shows on which tables are placed: what the tables show; where they must fit, in plain Lean. No condition. -/
import Derived.Test.YtlmcbhmaccncbaaDoorPcP
namespace Go.Proofs.YtlmcbhmaccncbaaDoor
open Go.RowKit

theorem rowB_mod (X : Nat → Bool) (n : Nat) : ∀ m, n ≤ m → rowB X m % 2 ^ n = rowB X n := fun m hm => by
  induction m with
  | zero => obtain rfl : n = 0 := by omega
            exact Nat.mod_eq_of_lt (rowB_lt X 0)
  | succ m ih =>
    by_cases e : n = m + 1
    · subst e; exact Nat.mod_eq_of_lt (rowB_lt X _)
    · rw [← ih (by omega)]
      simp only [rowB]
      split
      · rw [show 2 ^ m = 2 ^ n * 2 ^ (m - n) by rw [← Nat.pow_add]; congr 1; omega, Nat.add_mul_mod_self_left]
      · rw [Nat.add_zero]
theorem bitAt_nat (n r : Nat) : bitAt (n : Int) r = (n / 2 ^ r % 2 == 1) := by
  unfold bitAt
  have h : (n : Int) / 2 ^ r % 2 = ((n / 2 ^ r % 2 : Nat) : Int) := by push_cast; rfl
  rw [h]
  by_cases e : n / 2 ^ r % 2 = 1
  · rw [e]; rfl
  · have h1 : (n / 2 ^ r % 2 == 1) = false := by simpa using e
    have h2 : (((n / 2 ^ r % 2 : Nat) : Int) == 1) = false := by rw [beq_eq_false_iff_ne]; omega
    rw [h1, h2]
theorem bitAt_pass (X : Nat → Bool) : bitAt 43690 (rowB X 4) = X 0 := by
  simp only [rowB]
  cases X 0 <;> cases X 1 <;> cases X 2 <;> cases X 3 <;> decide
section
variable {g : Tb} {s : Nat → Int}
theorem bitAt_tab (t : Int) (n : Nat) (X : Nat → Bool) (hn : n ≤ 4) : bitAt ((bitsT t n 16 : Nat) : Int) (rowB X 4) = bitAt t (rowB X n) := by
  have h := rowB_lt X 4
  rw [bitAt_nat, bitsT_at t n 16 _ (by omega), rowB_mod X n 4 hn]
  cases bitAt t (rowB X n) <;> rfl
theorem cyc_fix (inp st : Nat → Bool) {x k : Nat} (h : x < g.pre + k) : ∀ m, k ≤ m → g.cyc inp st m x = g.cyc inp st k x := fun m hm => by
  induction m with
  | zero => obtain rfl : k = 0 := by omega
            rfl
  | succ m ih =>
    by_cases e : k = m + 1
    · subst e; rfl
    · rw [Tb.cyc_lo _ _ _ _ _ (by omega), ih (by omega)]
theorem vals_tab (hv : g.Valid) (inp st : Nat → Bool) {i : Nat} (hi : i < g.n2) : g.vals inp st (g.pre + i) = bitAt (g.tb i) (rowB (fun j => g.vals inp st (g.tw i j).toNat) (g.tl i)) := by
  unfold Tb.vals
  rw [cyc_fix inp st (k := i + 1) (by omega) _ (by omega), Tb.cyc_at]
  refine congrArg (bitAt _) (rowB_congr _ (fun j hj => ?_))
  exact (cyc_fix inp st (in_lt hv hi hj) _ (by omega)).symm
/-- a signal stands behind column c -/
def Tb.Here (g : Tb) (s : Nat → Int) (c x : Nat) : Prop := x < 2 ∨ (c = 0 ∧ x < g.pre) ∨ (0 < c ∧ x < g.num ∧ g.inCol s c x = true)
theorem D_zero {x : Nat} (hx : x < g.num) (h : g.D x ≤ 0) : x < g.pre := by
  by_cases h2 : x < g.pre
  · exact h2
  · have := D_pos (g := g) (i := x - g.pre) (by unfold Tb.num at hx; omega)
    rw [show g.pre + (x - g.pre) = x by omega] at this; omega
theorem here_of {c x : Nat} (hx : x < g.num) (hL : (c : Int) ≤ g.L s x) (hD : g.D x ≤ c) : g.Here s c x := by
  by_cases e : c = 0
  · subst e; exact .inr (.inl ⟨rfl, D_zero hx (by simpa using hD)⟩)
  · exact .inr (.inr ⟨by omega, hx, decide_eq_true ⟨hL, hD⟩⟩)
theorem sig_sel (hv : g.Valid) (h : g.FitOk s) {inp st inp' st' : Nat → Bool} (hi : ∀ i, i < g.ins.toNat → inp' i = inp i) (hst : ∀ i, i < g.n1 → st' i = st i) :
    ∀ c x, g.Here s c x → (g.place s).sig inp' st' c (g.sel s c x) = g.vals inp st x
  | c, x, hh => by
    have h0 := h.sh.sh.s0; have h1 := h.sh.i; have h2 := h.sh.r; have h4 := hv.i0; have h5 := h.sh.sh.s2
    by_cases hx2 : x < 2
    · have e : g.sel s c x = x := by unfold Tb.sel; rw [if_pos hx2]
      rw [e, Tb.vals_lo _ _ _ _ (by unfold Tb.pre; omega)]
      unfold Tb.head
      obtain rfl | rfl : x = 0 ∨ x = 1 := by omega
      · cases c <;> rfl
      · cases c <;> rfl
    · cases c with
      | zero =>
        have hp : x < g.pre := by
          rcases hh with hh | hh | hh
          · omega
          · exact hh.2
          · omega
        rw [Tb.vals_lo _ _ _ _ hp]
        show (if g.sel s 0 x = 0 then false else if g.sel s 0 x = 1 then true else if g.sel s 0 x < 2 + (s 0).toNat then inp' (g.sel s 0 x - 2) else st' (g.sel s 0 x - 2 - (s 0).toNat)) = _
        unfold Tb.sel Tb.head
        rw [if_neg hx2, if_pos rfl, if_neg (show ¬ x = 0 by omega), if_neg (show ¬ x = 1 by omega)]
        by_cases hin : x < 2 + g.ins.toNat
        · rw [if_pos hin, if_neg (by omega), if_neg (by omega), if_pos (by omega), if_pos hin]
          exact hi _ (by omega)
        · rw [if_neg hin, if_pos hp, if_neg (by omega), if_neg (by omega), if_neg (by omega), if_neg hin, if_pos hp]
          rw [show 2 + (s 0).toNat + (x - 2 - g.ins.toNat) - 2 - (s 0).toNat = x - 2 - g.ins.toNat by omega]
          exact hst _ (by unfold Tb.pre at hp; omega)
      | succ c =>
        obtain ⟨hx, hic⟩ : x < g.num ∧ g.inCol s (c + 1) x = true := by
          rcases hh with hh | hh | hh
          · omega
          · omega
          · exact hh.2
        have hc := of_decide_eq_true hic
        have hk := cnt_lt (by omega) hic hx
        have hn := nth_cnt (by omega) hic hx
        have e : g.sel s (c + 1) x = 2 + g.cnt s (c + 1) x := by unfold Tb.sel; rw [if_neg hx2, if_neg (by omega), if_pos ⟨hx, hic⟩]
        rw [e]
        show (if 2 + g.cnt s (c + 1) x = 0 then false else if 2 + g.cnt s (c + 1) x = 1 then true else bitAt ((g.place s).B c (2 + g.cnt s (c + 1) x - 2)) (rowB (fun j => (g.place s).sig inp' st' c ((g.place s).L c (2 + g.cnt s (c + 1) x - 2) j).toNat) 4)) = _
        rw [if_neg (by omega), if_neg (by omega), show 2 + g.cnt s (c + 1) x - 2 = g.cnt s (c + 1) x by omega]
        have hB : (g.place s).B c (g.cnt s (c + 1) x) = g.cellB (c + 1) x := by
          show (if g.cnt s (c + 1) x < g.cnt s (c + 1) g.num then g.cellB (c + 1) ((g.colL s (c + 1) g.num).getD (g.cnt s (c + 1) x) 0) else 0) = _
          rw [if_pos hk, hn]
        have hL : ∀ j, (g.place s).L c (g.cnt s (c + 1) x) j = g.cellL s (c + 1) x j := fun j => by
          show (if g.cnt s (c + 1) x < g.cnt s (c + 1) g.num then g.cellL s (c + 1) ((g.colL s (c + 1) g.num).getD (g.cnt s (c + 1) x) 0) j else 0) = _
          rw [if_pos hk, hn]
        rw [hB]
        simp only [hL]
        unfold Tb.cellB Tb.cellL
        by_cases ht : g.D x = ((c + 1 : Nat) : Int) ∧ g.pre ≤ x
        · obtain ⟨i, rfl⟩ : ∃ i, x = g.pre + i := ⟨x - g.pre, by omega⟩
          have hi2 : i < g.n2 := by unfold Tb.num at hx; omega
          simp only [if_pos ht, Nat.add_sub_cancel_left, Nat.add_sub_cancel]
          rw [bitAt_tab _ _ _ (hv.tabs i hi2).len, vals_tab hv inp st hi2]
          refine congrArg (bitAt _) (rowB_congr _ (fun j hj => ?_))
          rw [if_pos hj, Int.toNat_natCast]
          have hin := in_lt hv hi2 hj
          have hLi := L_in (s := s) hv hi2 (by omega) hj
          have hDi := D_in hv hi2 hj
          exact sig_sel hv h hi hst c _ (here_of (by unfold Tb.num; omega) (by omega) (by omega))
        · simp only [if_neg ht, Nat.add_sub_cancel]
          rw [bitAt_pass, if_pos rfl, Int.toNat_natCast]
          have hD : g.D x ≤ c := by
            by_cases hp : g.pre ≤ x
            · have : ¬ g.D x = ((c + 1 : Nat) : Int) := fun e => ht ⟨e, hp⟩
              omega
            · have := D_pre (g := g) (x := x) (by omega); omega
          exact sig_sel hv h hi hst c x (here_of hx (by omega) hD)
theorem deep_ok (hv : g.Valid) (h : g.FitOk s) {x : Nat} (hx : x < g.num) (hL : s 4 ≤ g.L s x) : g.D x ≤ s 4 := by
  have h4 := h.sh.sh.s4
  by_cases hp : g.pre ≤ x
  · obtain ⟨i, rfl⟩ : ∃ i, x = g.pre + i := ⟨x - g.pre, by omega⟩
    exact L_ok hv h.look (by unfold Tb.num at hx; omega) (by omega)
  · have := D_pre (g := g) (x := x) (by omega); omega
theorem sig_end (hv : g.Valid) (h : g.FitOk s) {x : Nat} (hx : x < g.num) (hL : s 4 ≤ g.L s x) : g.Here s (s 4).toNat x := by
  have h4 := h.sh.sh.s4
  have := deep_ok hv h hx hL
  exact here_of hx (by omega) (by omega)
theorem num_of (hv : g.Valid) {y : Int} (h : 0 ≤ y ∧ y < g.sigs) : y.toNat < g.num := by
  have h0 := hv.i0
  unfold Tb.sigs at h
  unfold Tb.num Tb.pre; omega
theorem stt_place (hv : g.Valid) (h : g.FitOk s) {I T : Nat → Nat → Bool} (hi : ∀ t i, i < g.ins.toNat → I t i = T t i) : ∀ t k, k < g.n1 → (g.place s).stt I t k = g.state T t k
  | 0, k, hk => by
    show (if k < g.n3 then g.I k else false) = g.I k
    rw [if_pos (by rw [hv.n3]; exact hk)]
  | t + 1, k, hk => by
    show (g.place s).sig (I t) ((g.place s).stt I t) (s 4).toNat (if k < g.n3 then (g.sel s (s 4).toNat (g.N k).toNat : Nat) else (0 : Nat) : Int).toNat = g.vals (T t) (g.state T t) (g.N k).toNat
    have hk3 : k < g.n3 := by rw [hv.n3]; exact hk
    rw [if_pos hk3, Int.toNat_natCast]
    exact sig_sel hv h (hi t) (fun i hi2 => stt_place hv h hi t i hi2) _ _ (sig_end hv h (num_of hv (hv.next k hk3)) (L_next hk3))
/-- the fabric's first outputs are the tables' -/
theorem sho_place (hv : g.Valid) (h : g.FitOk s) {I T : Nat → Nat → Bool} (hi : ∀ t i, i < g.ins.toNat → I t i = T t i) (t o : Nat) (ho : o < g.n4) : (g.place s).sho I t o = g.row T t o := by
  show (g.place s).sig (I t) ((g.place s).stt I t) (s 4).toNat (if o < g.n4 then (g.sel s (s 4).toNat (g.O o).toNat : Nat) else (0 : Nat) : Int).toNat = g.vals (T t) (g.state T t) (g.O o).toNat
  rw [if_pos ho, Int.toNat_natCast]
  exact sig_sel hv h (hi t) (fun i hi2 => stt_place hv h hi t i hi2) _ _ (sig_end hv h (num_of hv (hv.outs o ho)) (L_out ho))
/-- where a net of tables must fit -/
structure Tb.Must (g : Tb) (s : Nat → Int) : Prop where
  sh : g.ShapeFor s
  cols : max g.depth 1 ≤ s 4
  rows : g.ins + g.n1 + g.n2 ≤ s 3
theorem fit_must (hv : g.Valid) (h : g.Must s) : g.FitOk s := by
  have h0 := hv.i0
  refine ⟨h.sh, fun k hk hn => ?_, fun c hc hc2 => ?_⟩
  · have hc := h.cols
    have ht : ∀ i, i < g.n3 + g.n4 → g.D (both g.n3 g.N g.O i).toNat ≤ g.depth := fun i hi => top_ge (f := fun i => g.dep g.n2 (both g.n3 g.N g.O i).toNat) _ i hi
    have := lastT_deep (m := g.depth) hv hv.n3 (fun j hj => by
      have := ht j (by omega)
      unfold both at this
      rwa [if_pos hj] at this) (fun j hj => by
      have := ht (g.n3 + j) (by omega)
      unfold both at this
      rwa [if_neg (by omega), Nat.add_sub_cancel_left] at this) k _ (by omega) hn
    omega
  · have h1 := cnt_le g s c g.num
    have h2 := h.rows
    have h3 : g.num = 2 + g.ins.toNat + g.n1 + g.n2 := rfl
    omega
end
end Go.Proofs.YtlmcbhmaccncbaaDoor
