/- The reference's formed, Held.is, put and open, walked. Conditions: what they read lies in memory; the numbers are literals. The reference's Held.open and Follows, walked. Conditions: what they read lies in memory; the numbers are literals. The reference's Follows, walked. Conditions: the formula and the clause lie in memory; their numbers are literals. -/
import Derived.Test.YtkanekacjefcbaaRfC
import Derived.Laws.MakeOwn
import Derived.Test.YtkanekacjefcbaaRfF
namespace Go.Proofs.Ytkanekacjefcbaa
open Go.RowKit

set_option maxHeartbeats 1000000 in
theorem fmd_any (A : Option Addr) (d : Nat) (c : List Int) (vars : Int) (w : World) (hc : ClRow w A c) (hn : c.length ≤ 1000000000000000) (h0 : 0 ≤ vars) (h1 : vars ≤ 100000) :
    Calls Try.prog 16 #[.slice A c.length d, .int .i64 vars] w fun e w' => e = .returned (.bool (tf (LitsOk vars c))) ∧ w' = w := by
  have HIF : Hid (LitsOk vars c ↔ ∀ k, k < c.length → LitOk1 vars (c.getD k 0)) := Lib.hid litsOk_iff
  go_enter Try.func16, Try.ntmps16
  go_wp2
  go_loop [5] (fun ix => ∃ k : Nat, k ≤ c.length ∧ ix = .int .i64 k ∧ Hid (∀ j, j < k → LitOk1 vars (c.getD j 0))) (fun ix => c.length - (intOf ix).toNat)
  case atStart => exact ⟨0, by omega, rfl, Lib.hid (fun j hj => by omega)⟩
  case round =>
    obtain ⟨k, hk, rfl, HK⟩ := hrel
    by_cases hlt : k < c.length
    · have hki : (k : Int) < c.length := by omega
      obtain ⟨b, o, hA, x0⟩ := hc.at_ hlt
      have HNO : Hid (¬ LitOk1 vars (c.getD k 0) → tf (LitsOk vars c) = false) := Lib.hid (fun h => tf_no (fun hl => h (HIF.out.1 hl k hlt)))
      have HYE : Hid (LitOk1 vars (c.getD k 0) → ∀ j, j < k + 1 → LitOk1 vars (c.getD j 0)) := Lib.hid (fun h j hj => by
        by_cases e : j < k
        · exact HK.out j e
        · obtain rfl : j = k := by omega
          exact h)
      generalize c.getD k 0 = x at *
      subst hA
      by_cases hz : x = 0
      · have HF := Lib.hid (HNO.out (fun h => h.1 hz))
        subst hz
        go_wp2
        go_ret
        exact ⟨ret_bool HF.out.symm, rfl⟩
      · have hz' : (x == 0) = false := by simpa using hz
        by_cases hg : vars < x
        · have HF := Lib.hid (HNO.out (fun h => by have := h.2.2; omega))
          go_wp2
          go_ret
          exact ⟨ret_bool HF.out.symm, rfl⟩
        · by_cases hs : x < -vars
          · have HF := Lib.hid (HNO.out (fun h => by have := h.2.1; omega))
            go_wp2
            go_ret
            exact ⟨ret_bool HF.out.symm, rfl⟩
          · have HN := Lib.hid (HYE.out ⟨hz, by omega, by omega⟩)
            go_wp2
            go_round
            case rel => exact ⟨k + 1, by omega, by go_num, HN⟩
            case measure => simp [intOf]; omega
    · obtain rfl : k = c.length := by omega
      have HT := Lib.hid (tf_yes (HIF.out.2 HK.out))
      go_wp2
      go_ret
      exact ⟨ret_bool HT.out.symm, rfl⟩

/-- what the array of sides says -/
def Sd (V : Nat) (sd : Nat → Int) (S : Int → Bool) : Prop := ∀ v : Nat, 1 ≤ v → v ≤ V → S (v : Int) = decide (0 < sd v) ∧ S (-(v : Int)) = decide (sd v < 0)
/-- the reference's Held in memory: its box bh, its array bs -/
structure Side (w : World) (bh bs V : Nat) (S : Int → Bool) : Prop where
  box : Arr w bh 66 1 (fun _ => .slice (some ⟨bs, 0, none⟩) (V + 1) (V + 1))
  arr : ∃ sd : Nat → Int, Arr w bs 3 (V + 1) (fun j => .int .i64 (sd j)) ∧ Sd V sd S
theorem Side.below {w w1 : World} {bh bs V : Nat} {S : Int → Bool} (h : Side w bh bs V S) (k : Below w.heap.size w w1) : Side w1 bh bs V S :=
  ⟨h.box.below k, let ⟨sd, h1, h2⟩ := h.arr; ⟨sd, h1.below k, h2⟩⟩
theorem Sd.put {V v : Nat} {sd : Nat → Int} {S : Int → Bool} {x s : Int} (h : Sd V sd S) (hv : 1 ≤ v) (hx : (x = v ∧ s = 1) ∨ (x = -(v : Int) ∧ s = -1)) (hn : S (-x) = false) : Sd V (fun j => if j = v then s else sd j) (put1 S x) := by
  intro u hu hV
  obtain ⟨h1, h2⟩ := h u hu hV
  by_cases e : u = v
  · subst e
    rcases hx with ⟨rfl, rfl⟩ | ⟨rfl, rfl⟩
    · have e1 : (-(u : Int) == (u : Int)) = false := by rw [beq_eq_false_iff_ne]; omega
      simp [put1, hn, e1]
    · have e1 : ((u : Int) == -(u : Int)) = false := by rw [beq_eq_false_iff_ne]; omega
      simp only [Int.neg_neg] at hn
      simp [put1, hn, e1]
  · have e1 : ((u : Int) == x) = false := by rw [beq_eq_false_iff_ne]; omega
    have e2 : (-(u : Int) == x) = false := by rw [beq_eq_false_iff_ne]; omega
    simp only [put1, e1, e2, Bool.or_false, if_neg e]
    exact ⟨h1, h2⟩

set_option maxHeartbeats 1000000 in
theorem is_any (bh bs V : Nat) (S : Int → Bool) (l : Int) (w : World) (h : Side w bh bs V S) (hl : LitOk1 V l) (hV : V ≤ 100000) :
    Calls Try.prog 30 #[.pointer (some ⟨bh, 0, none⟩), .int .i64 l] w fun e w' => e = .returned (.bool (S l)) ∧ w = w' := by
  obtain ⟨hl0, hl1, hl2⟩ := hl
  have c0 := h.box.cell (k := 0) (by omega)
  obtain ⟨sd, ha, hs⟩ := h.arr
  by_cases hn : l < 0
  · obtain ⟨v, hv⟩ : ∃ v : Nat, l = -(v : Int) := ⟨(-l).toNat, by omega⟩
    subst hv
    have ca := ha.cell (k := v) (by omega)
    have HS := Lib.hid (hs v (by omega) (by omega)).2
    clear h ha hs
    have e1 : (v : Int) < V + 1 := by omega
    go_enter Try.func30, Try.ntmps30
    go_wp2
    go_ret
    exact ⟨ret_bool HS.out.symm, rfl⟩
  · obtain ⟨v, hv⟩ : ∃ v : Nat, l = (v : Int) := ⟨l.toNat, by omega⟩
    subst hv
    have ca := ha.cell (k := v) (by omega)
    have HS := Lib.hid (hs v (by omega) (by omega)).1
    clear h ha hs
    have e1 : (v : Int) < V + 1 := by omega
    go_enter Try.func30, Try.ntmps30
    go_wp2
    go_ret
    exact ⟨ret_bool HS.out.symm, rfl⟩

set_option maxHeartbeats 1000000 in
theorem putR_any (bh bs V : Nat) (S : Int → Bool) (l : Int) (w : World) (h : Side w bh bs V S) (hne : bh ≠ bs) (hl : LitOk1 V l) (hV : V ≤ 100000) (hf : S (-l) = false) :
    Calls Try.prog 31 #[.pointer (some ⟨bh, 0, none⟩), .int .i64 l] w fun e w' => (∃ v, e = .returned v) ∧ Side w' bh bs V (put1 S l) ∧ Only (fun k => k = bs) w w' := by
  obtain ⟨hl0, hl1, hl2⟩ := hl
  have c0 := h.box.cell (k := 0) (by omega)
  obtain ⟨sd, ha, hs⟩ := h.arr
  by_cases hn : l < 0
  · obtain ⟨v, hv⟩ : ∃ v : Nat, l = -(v : Int) := ⟨(-l).toNat, by omega⟩
    subst hv
    have ca := ha.cell (k := v) (by omega)
    have fa := ha.thaw v
    have HN : Hid (Side (w.setCell ⟨bs, v, none⟩ (.int .i64 (-1))) bh bs V (put1 S (-(v : Int))) ∧ Only (fun k => k = bs) w (w.setCell ⟨bs, v, none⟩ (.int .i64 (-1)))) := Lib.hid
      ⟨⟨h.box.only ((Only.refl (fun k => k = bs) w).setCell (p := ⟨bs, v, none⟩) (fun _ => rfl) _) hne, _, ha.set (fun j hj hne => by simp [hne]) (by simp), hs.put (by omega) (.inr ⟨rfl, rfl⟩) hf⟩, (Only.refl (fun k => k = bs) w).setCell (p := ⟨bs, v, none⟩) (fun _ => rfl) _⟩
    clear h ha hs hf
    have e1 : (v : Int) < V + 1 := by omega
    go_enter Try.func31, Try.ntmps31
    go_wp2
    go_end0
    exact ⟨⟨_, rfl⟩, HN.out⟩
  · obtain ⟨v, hv⟩ : ∃ v : Nat, l = (v : Int) := ⟨l.toNat, by omega⟩
    subst hv
    have ca := ha.cell (k := v) (by omega)
    have fa := ha.thaw v
    have HN : Hid (Side (w.setCell ⟨bs, v, none⟩ (.int .i64 1)) bh bs V (put1 S (v : Int)) ∧ Only (fun k => k = bs) w (w.setCell ⟨bs, v, none⟩ (.int .i64 1))) := Lib.hid
      ⟨⟨h.box.only ((Only.refl (fun k => k = bs) w).setCell (p := ⟨bs, v, none⟩) (fun _ => rfl) _) hne, _, ha.set (fun j hj hne => by simp [hne]) (by simp), hs.put (by omega) (.inl ⟨rfl, rfl⟩) hf⟩, (Only.refl (fun k => k = bs) w).setCell (p := ⟨bs, v, none⟩) (fun _ => rfl) _⟩
    clear h ha hs hf
    have e1 : (v : Int) < V + 1 := by omega
    go_enter Try.func31, Try.ntmps31
    go_wp2
    go_end0
    exact ⟨⟨_, rfl⟩, HN.out⟩

/-- what the reference's open tells -/
def openR (S : Int → Bool) : List Int → Nat → Int → Nat × Int
  | [], n, x => (n, x)
  | l :: r, n, x => if S (-l) = true ∨ (0 < n ∧ l = x) then openR S r n x else openR S r (n + 1) l
theorem openR_ge (S : Int → Bool) : ∀ (c : List Int) (n : Nat) (x : Int), n ≤ (openR S c n x).1 ∧ (openR S c n x).1 ≤ n + c.length
  | [], n, x => by simp [openR]
  | l :: r, n, x => by
    unfold openR
    split
    · have := openR_ge S r n x; simp; omega
    · have := openR_ge S r (n + 1) l; simp; omega
theorem openR_is (S : Int → Bool) : ∀ (c p : List Int) (n : Nat) (x : Int), OpenIs S p x n → OpenIs S (p ++ c) (openR S c n x).2 (openR S c n x).1
  | [], p, n, x, h => by simpa [openR] using h
  | l :: r, p, n, x, h => by
    have e : p ++ l :: r = (p ++ [l]) ++ r := by simp
    rw [e]
    unfold openR
    split
    · rename_i hc
      refine openR_is S r (p ++ [l]) n x ?_
      rcases h with ⟨h0, h1⟩ | ⟨h0, h1, h2, h3⟩ | ⟨h0, a, b, ha, hb, r'⟩
      · refine .inl ⟨h0, fun m hm => ?_⟩
        rcases List.mem_append.1 hm with hm | hm
        · exact h1 m hm
        · simp at hm; subst hm
          rcases hc with hc | ⟨hc, _⟩
          · exact hc
          · omega
      · refine .inr (.inl ⟨h0, List.mem_append_left _ h1, h2, fun m hm => ?_⟩)
        rcases List.mem_append.1 hm with hm | hm
        · exact h3 m hm
        · simp at hm; subst hm
          rcases hc with hc | ⟨_, hc⟩
          · exact .inl hc
          · exact .inr hc
      · exact .inr (.inr ⟨h0, a, b, List.mem_append_left _ ha, List.mem_append_left _ hb, r'⟩)
    · rename_i hc
      have hc' := not_or.1 hc
      have hl : S (-l) = false := by simpa using hc'.1
      refine openR_is S r (p ++ [l]) (n + 1) l ?_
      rcases h with ⟨h0, h1⟩ | ⟨h0, h1, h2, h3⟩ | ⟨h0, a, b, ha, hb, r'⟩
      · refine .inr (.inl ⟨by omega, by simp, hl, fun m hm => ?_⟩)
        rcases List.mem_append.1 hm with hm | hm
        · exact .inl (h1 m hm)
        · simp at hm; exact .inr hm
      · refine .inr (.inr ⟨by omega, x, l, List.mem_append_left _ h1, by simp, fun e => hc'.2 ⟨by omega, e.symm⟩, h2, hl⟩)
      · exact .inr (.inr ⟨by omega, a, b, List.mem_append_left _ ha, List.mem_append_left _ hb, r'⟩)
theorem openR_start (S : Int → Bool) (c : List Int) : OpenIs S c (openR S c 0 0).2 (openR S c 0 0).1 := by
  have := openR_is S c [] 0 0 (.inl ⟨rfl, by simp⟩)
  simpa using this
end Go.Proofs.Ytkanekacjefcbaa
namespace Go.Proofs.Ytkanekacjefcbaa
open Go.RowKit

set_option maxHeartbeats 2000000 in
theorem openR_any (bh bs V : Nat) (S : Int → Bool) (A : Option Addr) (d : Nat) (c : List Int) (w : World) (h : Side w bh bs V S) (hc : ClRow w A c) (hl : LitsOk V c) (hV : V ≤ 100000) (hlen : c.length ≤ 1000000000) :
    Calls Try.prog 32 #[.pointer (some ⟨bh, 0, none⟩), .slice A c.length d] w fun e w' => e = .returned (.tuple #[.int .i64 (openR S c 0 0).1, .int .i64 (openR S c 0 0).2]) ∧ w = w' := by
  have HL := Lib.hid (litsOk_iff.1 hl)
  have HS := Lib.hid h
  have HG := Lib.hid (openR_ge S)
  clear hl h
  go_enter Try.func32, Try.ntmps32
  go_wp2
  go_loop [6, 7, 8] (fun nv xv ix => ∃ (k n : Nat) (x : Int), k ≤ c.length ∧ n ≤ k ∧ ix = .int .i64 k ∧ nv = .int .i64 n ∧ xv = .int .i64 x ∧ Hid (openR S c 0 0 = openR S (c.drop k) n x)) (fun _ _ ix => c.length - (intOf ix).toNat)
  case atStart => exact ⟨0, 0, 0, by omega, by omega, rfl, rfl, rfl, Lib.hid rfl⟩
  case round =>
    obtain ⟨k, n, x, hk, hnk, rfl, rfl, rfl, HK⟩ := hrel
    by_cases hlt : k < c.length
    · have hki : (k : Int) < c.length := by omega
      obtain ⟨ba, oa, hA, x0⟩ := hc.at_ hlt
      have hly := HL.out k hlt
      have HD : Hid (openR S (c.drop k) n x = if S (-(c.getD k 0)) = true ∨ (0 < n ∧ c.getD k 0 = x) then openR S (c.drop (k + 1)) n x else openR S (c.drop (k + 1)) (n + 1) (c.getD k 0)) := Lib.hid (by rw [drop_getD hlt]; rfl)
      generalize c.getD k 0 = y at *
      have hlo : LitOk1 V (-y) := by obtain ⟨a, b, d⟩ := hly; exact ⟨by omega, by omega, by omega⟩
      have HLO := Lib.hid hlo; clear hlo
      obtain ⟨hy0, hy1, hy2⟩ := hly
      subst hA
      go_wp2_with fail
      refine (is_any bh bs V S (-y) _ HS.out HLO.out hV).mono ?_
      rintro e w1 ⟨rfl, rfl⟩
      by_cases hS : S (-y) = true
      · rw [hS]
        have HN : Hid (openR S c 0 0 = openR S (c.drop (k + 1)) n x) := Lib.hid (by rw [HK.out, HD.out, if_pos (.inl hS)])
        clear hS
        go_wp2_with fail
        go_round
        case rel => exact ⟨k + 1, n, x, by omega, by omega, by go_num, rfl, rfl, HN⟩
        case measure => simp [intOf]; omega
      · have hSf : S (-y) = false := by simpa using hS
        rw [hSf]
        by_cases hn : 0 < n
        · have hni : (0 : Int) < n := by omega
          by_cases hyx : y = x
          · have HN : Hid (openR S c 0 0 = openR S (c.drop (k + 1)) n x) := Lib.hid (by rw [HK.out, HD.out, if_pos (.inr ⟨hn, hyx⟩)])
            have hq : (y == x) = true := by simpa using hyx
            clear hS hSf hyx
            go_wp2_with fail
            go_round
            case rel => exact ⟨k + 1, n, x, by omega, by omega, by go_num, rfl, rfl, HN⟩
            case measure => simp [intOf]; omega
          · have HN : Hid (openR S c 0 0 = openR S (c.drop (k + 1)) (n + 1) y) := Lib.hid (by rw [HK.out, HD.out, if_neg (by simp [hS, hyx])])
            have hq : (y == x) = false := by simpa using hyx
            clear hS hSf hyx
            go_wp2_with fail
            go_round
            case rel => exact ⟨k + 1, n + 1, y, by omega, by omega, by go_num, by go_num, rfl, HN⟩
            case measure => simp [intOf]; omega
        · have hn0 : n = 0 := by omega
          have HN : Hid (openR S c 0 0 = openR S (c.drop (k + 1)) (n + 1) y) := Lib.hid (by rw [HK.out, HD.out, if_neg (by simp [hS, hn0])])
          have hni : ¬ (0 : Int) < n := by omega
          clear hS hSf hn0
          go_wp2_with fail
          go_round
          case rel => exact ⟨k + 1, n + 1, y, by omega, by omega, by go_num, by go_num, rfl, HN⟩
          case measure => simp [intOf]; omega
    · obtain rfl : k = c.length := by omega
      have HN : Hid (openR S c 0 0 = (n, x)) := Lib.hid (by rw [HK.out, List.drop_length]; rfl)
      go_wp2
      go_ret2
      exact ⟨by rw [HN.out]; rfl, rfl⟩
end Go.Proofs.Ytkanekacjefcbaa
namespace Go.Proofs.Ytkanekacjefcbaa
open Go.RowKit

structure RSt (w wi : World) (z V : Nat) (FA : Option Addr) (n fc : Nat) (S : Int → Bool) : Prop where
  bel : Below w.heap.size w wi
  side : Side wi (z + 1 + 1) (z + 1) V S
  box : BoxAt wi z [.int .i64 V, .slice FA n fc]
theorem RSt.put {w wi w' : World} {z V n fc : Nat} {FA : Option Addr} {S S' : Int → Bool} (h : RSt w wi z V FA n fc S) (hz : w.heap.size = z) (hs : Side w' (z + 1 + 1) (z + 1) V S') (hk : Only (fun k => k = z + 1) wi w') : RSt w w' z V FA n fc S' :=
  ⟨h.bel.trans (hk.below (fun k _ e => by omega) h.bel.size), hs, hk.box h.box (by omega)⟩
theorem lit_big {V : Nat} {x : Int} (h : LitOk1 V x) (hV : V ≤ 100000) : LitOk1 100000 x := by obtain ⟨a, b, c⟩ := h; exact ⟨a, by omega, by omega⟩
/-- the reference's propagation under way, g what is left -/
def UndR (w wi : World) (z V : Nat) (FA : Option Addr) (fc : Nat) (F : List (List Int)) (l0 : List Int) (mb : Bool) (i g : Nat) : Prop :=
  ∃ S : Int → Bool, RSt w wi z V FA F.length fc S ∧ Reach F (neg0 l0) S ∧ (∀ y, neg0 l0 y = true → S y = true) ∧ (mb = false → ∀ (j : Nat) (c : List Int), j < i → F[j]? = some c → Calm S c) ∧ (200002 - cnt 100000 S) + (if mb = true then 1 else 0) ≤ g

set_option maxHeartbeats 20000000 in
set_option maxRecDepth 100000 in
theorem follR_any (V : Nat) (FA B : Option Addr) (fc d : Nat) (F : List (List Int)) (vf : List Value) (l0 : List Int) (w : World) (hF : MatC w FA F vf) (hB : ClRow w B l0) (hV : V ≤ 100000) (hlf : ∀ c, c ∈ F → LitsOk V c) (hl0 : LitsOk V l0) (b1 : F.length ≤ 1000000000) (b2 : ∀ c, c ∈ F → c.length ≤ 1000000000) (b3 : l0.length ≤ 1000000000) :
    Calls Try.prog 17 #[.agg #[.int .i64 V, .slice FA F.length fc], .slice B l0.length d] w fun e w' => e = .returned (.bool (tf (FollowsP F l0))) ∧ Below w.heap.size w w' := by
  have HLF := Lib.hid hlf; have HB2 := Lib.hid b2; have HL0 := Lib.hid hl0; have HFM := Lib.hid hF
  clear hlf b2 hl0 hF
  have hmk := fun W => run_mk Try.underlying26 (P := Try.prog) (z := .int .i64 0) (size := 1) (bytes := 8) (e := 3) (by kernel_rfl) .i64 .i64 ((V : Int) + 1) ((V : Int) + 1) (by omega) (by omega) (by omega) (by omega) W
  simp only [show ((V : Int) + 1).toNat = V + 1 by omega, Value.cells, Nat.mul_one] at hmk
  go_enter Try.func17, Try.ntmps17
  go_upto_region 2 with (fail)
  clear hmk
  have hst : RSt w (((w.alloc (.cells #[.int .i64 V, .slice FA F.length fc] 24)).alloc (.cells (madeCells #[.int .i64 0] (V + 1)) 3)).alloc (.cells #[.slice (some ⟨w.heap.size + 1, 0, none⟩) (V + 1) (V + 1)] 66)) w.heap.size V FA F.length fc (fun _ => false) := by
    have s1 : (w.alloc (.cells #[.int .i64 V, .slice FA F.length fc] 24)).heap.size = w.heap.size + 1 := by simp
    have q := BoxAt.new w [.int .i64 V, .slice FA F.length fc] 24
    have hb : Below w.heap.size w (w.alloc (.cells #[.int .i64 V, .slice FA F.length fc] 24)) := (Below.refl _ _).alloc (Nat.le_refl _) _
    generalize w.alloc (.cells #[.int .i64 V, .slice FA F.length fc] 24) = w1 at *
    have a := Arr.made w1 (.int .i64 0) (V + 1) 3
    rw [s1] at a
    have s2 : (w1.alloc (.cells (madeCells #[.int .i64 0] (V + 1)) 3)).heap.size = w.heap.size + 1 + 1 := by simp [s1]
    replace q := q.keeps (Keeps.alloc w1 (.cells (madeCells #[.int .i64 0] (V + 1)) 3))
    replace hb := hb.alloc (by omega) (.cells (madeCells #[.int .i64 0] (V + 1)) 3)
    generalize w1.alloc (.cells (madeCells #[.int .i64 0] (V + 1)) 3) = w2 at *
    have hx := Arr.new w2 #[.slice (some ⟨w.heap.size + 1, 0, none⟩) (V + 1) (V + 1)] 66
    rw [s2] at hx
    exact ⟨hb.alloc (by omega) _, ⟨Arr.one1 hx, fun _ => 0, a.alloc _, fun v _ _ => by simp⟩, q.keeps (Keeps.alloc _ _)⟩
  generalize ((w.alloc (.cells #[.int .i64 V, .slice FA F.length fc] 24)).alloc (.cells (madeCells #[.int .i64 0] (V + 1)) 3)).alloc (.cells #[.slice (some ⟨w.heap.size + 1, 0, none⟩) (V + 1) (V + 1)] 66) = w5 at *
  generalize hz : w.heap.size = z at *
  have HZ := Lib.hid hz; clear hz
  have HST := Lib.hid hst; clear hst
  go_wp2_with fail
  go_loopw [6] (fun ix wi => ∃ k : Nat, k ≤ l0.length ∧ ix = .int .i64 k ∧ Hid (RSt w wi z V FA F.length fc (neg0 (l0.take k)) ∧ ¬ Taut (l0.take k))) (fun ix _ => l0.length - (intOf ix).toNat)
  case atStart => exact ⟨0, by omega, rfl, Lib.hid ⟨by rw [List.take_zero, show neg0 [] = fun _ => false by funext y; simp [neg0]]; exact HST.out, by simp [Taut]⟩⟩
  case round =>
    clear HST
    obtain ⟨k, hk, rfl, HM⟩ := hrel
    have HR := Lib.hid HM.out.1; have HNT := Lib.hid HM.out.2
    clear HM
    by_cases hlt : k < l0.length
    · have hki : (k : Int) < l0.length := by omega
      obtain ⟨ba, oa, hA, x0⟩ := (hB.keeps (Keeps.of_below HR.out.bel)).at_ hlt
      have hly := HL0.out _ (getD_mem hlt)
      have hst := Lib.hid (neg0_step hlt)
      have htt := Lib.hid (taut_step (k := k) hlt hly.1 HNT.out)
      have HTY : Hid (neg0 (l0.take k) (l0.getD k 0) = true → tf (FollowsP F l0) = true) := Lib.hid (fun h => tf_yes (follows_taut (getD_mem hlt) (List.mem_of_mem_take (neg0_iff.1 h))))
      generalize l0.getD k 0 = y at *
      have HLY := Lib.hid (show LitOk1 V y from hly)
      obtain ⟨hy0, hy1, hy2⟩ := hly
      have hlo : LitOk1 V (-y) := ⟨by omega, by omega, by omega⟩
      have HLO := Lib.hid hlo; clear hlo
      subst hA
      go_wp2_with fail
      refine (is_any (z + 1 + 1) (z + 1) V _ y _ HR.out.side HLY.out hV).mono ?_
      rintro e w1 ⟨rfl, rfl⟩
      by_cases hS : neg0 (l0.take k) y = true
      · rw [hS]
        have HT := Lib.hid (HTY.out hS)
        clear hS
        go_wp2_with fail
        go_ret
        exact ⟨ret_bool HT.out.symm, HR.out.bel⟩
      · have hSf : neg0 (l0.take k) y = false := by simpa using hS
        rw [hSf]
        have HT := Lib.hid (htt.out hS)
        have HSF := Lib.hid hSf
        clear hS hSf
        go_wp2_with fail
        refine (putR_any (z + 1 + 1) (z + 1) V _ (-y) _ HR.out.side (by omega) HLO.out hV (by rw [Int.neg_neg]; exact HSF.out)).mono ?_
        rintro e w2 ⟨⟨v, rfl⟩, hs2, hk2⟩
        have HN : Hid (RSt w w2 z V (FA) F.length fc (neg0 (l0.take (k + 1))) ∧ ¬ Taut (l0.take (k + 1))) := Lib.hid ⟨by rw [← hst.out]; exact HR.out.put HZ.out hs2 hk2, HT.out⟩
        clear hs2 hk2
        go_wp2_with fail
        go_roundw
        case rel => exact ⟨k + 1, by omega, by go_num, HN⟩
        case measure => simp [intOf]; omega
    · obtain rfl : k = l0.length := by omega
      have HU : Hid (UndR w wr z V FA fc F l0 true 0 200003) := Lib.hid ⟨neg0 l0, (by have := HR.out; rwa [List.take_length] at this), Reach.start, fun y h => h, (fun h => by cases h), (by simp only [if_true]; omega)⟩
      have HNT2 : Hid (¬ Taut l0) := Lib.hid (by have := HNT.out; rwa [List.take_length] at this)
      clear HR HNT
      go_wp2_with fail
      go_loopg [7] 200003 (fun g mv wi => ∃ mb : Bool, mv = .bool mb ∧ Hid (UndR w wi z V FA fc F l0 mb F.length g))
      case atStart => exact ⟨true, rfl, Lib.hid (by obtain ⟨S, a, b, c, d, e⟩ := HU.out; exact ⟨S, a, b, c, (fun h => by cases h), e⟩)⟩
      case round =>
        clear HU
        obtain ⟨mb, rfl, HM⟩ := hrel
        cases mb with
        | false =>
          obtain ⟨S, hR, hre, hsu, hca, _⟩ := HM.out
          have HT := Lib.hid (tf_no (follows_no HNT2.out hsu (fun c hc => by
            obtain ⟨j, hj, e⟩ := List.mem_iff_getElem.1 hc
            exact hca rfl j c hj (by rw [List.getElem?_eq_getElem hj, e]))))
          have HBE := Lib.hid hR.bel
          clear hR hre hsu hca HM
          go_wp2_with fail
          go_ret
          exact ⟨ret_bool HT.out.symm, HBE.out⟩
        | true =>
          have HU2 : Hid (UndR w wr z V FA fc F l0 false 0 (gk - 1) ∧ 1 ≤ gk) := Lib.hid (by
            obtain ⟨S, a, b, c, _, e⟩ := HM.out
            simp at e
            exact ⟨⟨S, a, b, c, fun _ j q hj => by omega, by simp; omega⟩, by omega⟩)
          clear HM
          have hg1 := HU2.out.2
          go_wp2_with fail
          go_loopw [7, 8] (fun mv ix wi => ∃ (i : Nat) (mb : Bool), i ≤ F.length ∧ ix = .int .i64 i ∧ mv = .bool mb ∧ Hid (UndR w wi z V FA fc F l0 mb i (gk - 1))) (fun _ ix _ => F.length - (intOf ix).toNat)
          case atStart => exact ⟨0, false, by omega, rfl, rfl, Lib.hid HU2.out.1⟩
          case round =>
            clear HU2
            obtain ⟨i, mb, hi, rfl, rfl, HM⟩ := hrel
            obtain ⟨S, hR, hre, hsu, hca, hge⟩ := HM.out
            have HR := Lib.hid hR; have HRE := Lib.hid hre; have HSU := Lib.hid hsu; have HCA := Lib.hid hca; have HGE := Lib.hid hge
            clear hR hre hsu hca hge HM
            have p1 := HR.out.box 1 _ rfl
            by_cases hlt : i < F.length
            · have hii : (i : Int) < F.length := by omega
              obtain ⟨l, A', dd, ba, oa, hl1, _, hFA, x0, hclw⟩ := HFM.out.at_ hlt
              have hkp := Keeps.of_below HR.out.bel
              replace x0 := hkp _ _ x0
              have HCW := Lib.hid (hclw.keeps hkp)
              have HL1 := Lib.hid hl1
              have hmem := List.mem_of_getElem? hl1
              have HME := Lib.hid hmem
              have hln := HB2.out l hmem
              clear hclw hkp hl1 hmem
              rw [hFA] at p1
              clear hFA
              have HOP := Lib.hid (openR_start S l)
              have hgo := openR_ge S l 0 0
              go_wp2_with fail
              refine (openR_any (z + 1 + 1) (z + 1) V S A' dd l _ HR.out.side HCW.out (HLF.out l HME.out) hV hln).mono ?_
              rintro e w1 ⟨rfl, rfl⟩
              generalize (openR S l 0 0).1 = n at *
              generalize (openR S l 0 0).2 = x at *
              clear p1 x0
              by_cases hn0 : n = 0
              · have hq : ((n : Int) == 0) = true := by simpa using hn0
                have HT := Lib.hid (tf_yes (follows_clash HRE.out HME.out (by
                  rcases HOP.out with ⟨_, r⟩ | ⟨e, _⟩ | ⟨e, _⟩
                  · exact r
                  · omega
                  · omega)))
                clear hn0
                go_wp2_with fail
                go_ret
                exact ⟨ret_bool HT.out.symm, HR.out.bel⟩
              · have hq : ((n : Int) == 0) = false := by simpa using hn0
                by_cases hn1 : n = 1
                · have hq1 : ((n : Int) == 1) = true := by rw [beq_iff_eq]; omega
                  have hx : x ∈ l ∧ S (-x) = false ∧ ∀ y, y ∈ l → S (-y) = true ∨ y = x := by
                    rcases HOP.out with ⟨e, _⟩ | ⟨_, r⟩ | ⟨e, _⟩
                    · omega
                    · exact r
                    · omega
                  have HX := Lib.hid hx
                  have hxl : LitOk1 V x := HLF.out l HME.out x hx.1
                  have HXL := Lib.hid hxl
                  clear hx hxl hn0 hn1
                  go_wp2_with fail
                  refine (is_any (z + 1 + 1) (z + 1) V S x _ HR.out.side HXL.out hV).mono ?_
                  rintro e w2 ⟨rfl, rfl⟩
                  by_cases hS : S x = true
                  · rw [hS]
                    have HN : Hid (UndR w wr z V FA fc F l0 mb (i + 1) (gk - 1)) := Lib.hid ⟨S, HR.out, HRE.out, HSU.out, fun hm j q hj hq => by
                      by_cases e : j < i
                      · exact HCA.out hm j q e hq
                      · obtain rfl : j = i := by omega
                        rw [HL1.out] at hq
                        injection hq with hq
                        subst hq
                        exact .inl ⟨x, HX.out.1, hS, HX.out.2⟩, HGE.out⟩
                    clear hS
                    go_wp2_with fail
                    go_roundw
                    case rel => exact ⟨i + 1, mb, by omega, by go_num, rfl, HN⟩
                    case measure => simp [intOf]; omega
                  · have hSf : S x = false := by simpa using hS
                    rw [hSf]
                    have HSF := Lib.hid hSf
                    clear hS hSf
                    go_wp2_with fail
                    refine (putR_any (z + 1 + 1) (z + 1) V S x _ HR.out.side (by omega) HXL.out hV HX.out.2.1).mono ?_
                    rintro e w3 ⟨⟨v, rfl⟩, hs3, hk3⟩
                    have HN : Hid (UndR w w3 z V FA fc F l0 true (i + 1) (gk - 1)) := Lib.hid ⟨put1 S x, HR.out.put HZ.out hs3 hk3, HRE.out.step HME.out HX.out.1 HX.out.2.1 HX.out.2.2, fun y hy => by simp [put1, HSU.out y hy], (fun h => by cases h), by
                      have hb := lit_big HXL.out hV
                      have hc1 := cnt_put (V := 100000) (by have := hb.2.1; omega) (by have := hb.2.2; omega) HSF.out
                      have hc2 := cnt_le 100000 (put1 S x)
                      have hg := HGE.out
                      rw [hc1] at hc2
                      rw [hc1]
                      simp only [if_true]
                      omega⟩
                    clear hs3 hk3
                    go_wp2_with fail
                    go_roundw
                    case rel => exact ⟨i + 1, true, by omega, by go_num, rfl, HN⟩
                    case measure => simp [intOf]; omega
                · have hq1 : ((n : Int) == 1) = false := by rw [beq_eq_false_iff_ne]; omega
                  have HN : Hid (UndR w wr z V FA fc F l0 mb (i + 1) (gk - 1)) := Lib.hid ⟨S, HR.out, HRE.out, HSU.out, fun hm j q hj hq => by
                      by_cases e : j < i
                      · exact HCA.out hm j q e hq
                      · obtain rfl : j = i := by omega
                        rw [HL1.out] at hq
                        injection hq with hq
                        subst hq
                        rcases HOP.out with ⟨e, _⟩ | ⟨e, _⟩ | ⟨_, a, b, r⟩
                        · omega
                        · omega
                        · exact .inr ⟨a, b, r⟩, HGE.out⟩
                  clear hn0 hn1
                  go_wp2_with fail
                  go_roundw
                  case rel => exact ⟨i + 1, mb, by omega, by go_num, rfl, HN⟩
                  case measure => simp [intOf]; omega
            · obtain rfl : i = F.length := by omega
              have HN : Hid (UndR w wr z V FA fc F l0 mb F.length (gk - 1)) := Lib.hid ⟨S, HR.out, HRE.out, HSU.out, HCA.out, HGE.out⟩
              clear HR HRE HSU HCA HGE
              go_wp2_with fail
              go_roundg (gk - 1)
              case measure => omega
              case rel => exact ⟨mb, rfl, HN⟩
end Go.Proofs.Ytkanekacjefcbaa
