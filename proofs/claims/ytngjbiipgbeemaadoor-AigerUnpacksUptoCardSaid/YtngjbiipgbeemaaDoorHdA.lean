/- aiger.header, walked: the sizes of a graph, off the first line. Conditions: the text is shorter than 1000000000 bytes; internal/bytealg.MaxLen holds a number. -/
import Derived.Test.YtngjbiipgbeemaaDoorLnC
namespace Go.Proofs.YtngjbiipgbeemaaDoor
open Go.RowKit Go.Shelf Go.Deep

def szV (r : Option Hd) : Value := match r with
  | some h => .agg #[.int .i64 (h.i : Int), .int .i64 (h.l : Int), .int .i64 (h.o : Int), .int .i64 (h.a : Int)]
  | none => .agg #[.int .i64 0, .int .i64 0, .int .i64 0, .int .i64 0]
def SzAt (w : World) (b : Nat) (x0 x1 x2 x3 : Int) : Prop := w.heap[b]? = some (.cells #[.int .i64 x0, .int .i64 x1, .int .i64 x2, .int .i64 x3] 87)
attribute [local go_sem] Oper.semAt_some in
theorem outsZ {tmps : Array Value} {W : World} {b : Nat} {x0 x1 x2 x3 : Int} {v : Value} (h2 : tmps[4]? = some (.pointer (some ⟨b, 0, none⟩))) (h3 : tmps[5]? = some v) (h : SzAt W b x0 x1 x2 x3) :
    (results Tryd.f36 tmps).run Tryd.prog W = .ok (.tuple #[.agg #[.int .i64 x0, .int .i64 x1, .int .i64 x2, .int .i64 x3], v]) W := by
  obtain ⟨⟨c0, c1, c2, c3⟩, _⟩ := box4 h
  simp [results, Tryd.f36, go_sem, h2, h3, c0, c1, c2, c3]
/-- four cells written -/
def st4 (W : World) (b : Nat) (x0 x1 x2 x3 : Value) : World := (((W.setCell ⟨b, 0, none⟩ x0).setCell ⟨b, 1, none⟩ x1).setCell ⟨b, 2, none⟩ x2).setCell ⟨b, 3, none⟩ x3
theorem fold4s (W : World) (b : Nat) (x0 x1 x2 x3 : Value) : (((W.setCell ⟨b, 0, none⟩ x0).setCell ⟨b, 1, none⟩ x1).setCell ⟨b, 2, none⟩ x2).setCell ⟨b, 3, none⟩ x3 = st4 W b x0 x1 x2 x3 := rfl
theorem st4_only (W : World) (b : Nat) (x0 x1 x2 x3 : Value) : Only (fun k => k = b) W (st4 W b x0 x1 x2 x3) :=
  ((((Only.refl (fun k => k = b) W).setCell (p := ⟨b, 0, none⟩) (fun _ => rfl) x0).setCell (p := ⟨b, 1, none⟩) (fun _ => rfl) x1).setCell (p := ⟨b, 2, none⟩) (fun _ => rfl) x2).setCell (p := ⟨b, 3, none⟩) (fun _ => rfl) x3
theorem st4_heap {W : World} {b : Nat} {y0 y1 y2 y3 : Value} {t : TypeId} (h : W.heap[b]? = some (.cells #[y0, y1, y2, y3] t)) (x0 x1 x2 x3 : Value) : (st4 W b x0 x1 x2 x3).heap[b]? = some (.cells #[x0, x1, x2, x3] t) := set4_3 (set4_2 (set4_1 (set4_0 h _) _) _) _
theorem hdr_no {wd l : List UInt8} (h : Lib.hasPrefix l (wd ++ [32]) = false) : hdrB wd l = none := by
  unfold hdrB
  have e : List.isPrefixOf (wd ++ [32]) l = false := h
  rw [e]; rfl
theorem hdr_yes {wd l : List UInt8} (h : Lib.hasPrefix l (wd ++ [32]) = true) : hdrB wd l = (match numQ (Lib.trimPrefix l (wd ++ [32])) 5 5 with | some n => hd5 n | none => none) := by
  unfold hdrB
  have e : List.isPrefixOf (wd ++ [32]) l = true := h
  rw [if_pos e]
  unfold numQ Lib.trimPrefix
  rw [if_pos h, List.length_append]
  show _ = (match (match numsB (l.drop (wd.length + 1)) with | some n => if 5 ≤ n.length ∧ n.length ≤ 5 then some n else none | none => none) with | some n => hd5 n | none => none)
  cases numsB (l.drop (wd.length + 1)) with
  | none => rfl
  | some n =>
    by_cases e : 5 ≤ n.length ∧ n.length ≤ 5
    · simp only [if_pos e]
    · simp only [if_neg e]
      unfold hd5
      split
      · simp at e
      · rfl
theorem numQ_five {l : List UInt8} {n : List Nat} (h : numQ l 5 5 = some n) : ∃ m i la o a, n = [m, i, la, o, a] ∧ m < 1000000000 ∧ i < 1000000000 ∧ la < 1000000000 ∧ o < 1000000000 ∧ a < 1000000000 := by
  unfold numQ at h
  split at h
  · rename_i k hk
    have hs := (numsB_small hk).2.2
    split at h
    · rename_i hl
      injection h with h
      subst h
      match k, hl with
      | [m, i, la, o, a], _ => exact ⟨m, i, la, o, a, rfl, hs m (by simp), hs i (by simp), hs la (by simp), hs o (by simp), hs a (by simp)⟩
    · cases h
  · cases h
theorem bstr_app (a b : List UInt8) : bstr a ++ bstr b = bstr (a ++ b) := by
  rw [← bstr_of (bstr a ++ bstr b)]
  refine congrArg bstr ?_
  rw [ByteArray.data_append, Array.toList_append]; rfl

set_option maxRecDepth 100000 in
set_option maxHeartbeats 8000000 in
theorem header_any (wd l : List UInt8) (w : World) (hm : MaxT w) (hl : l.length ≤ 1000000000) (hwd : wd.length ≤ 10) :
    Calls Tryd.prog 36 #[.string (bstr l), .string (bstr wd)] w fun e w' => e = .returned (.tuple #[szV (hdrB wd l), .bool (hdrB wd l).isSome]) ∧ Below w.heap.size w w' := by
  have hcp : ∀ w1 : World, Calls Tryd.prog 49 #[.string (bstr l), .string (bstr wd ++ ⟨#[32]⟩)] w1 fun e w' => e = .returned (.tuple #[.string (bstr (Lib.trimPrefix l (wd ++ [32]))), .bool (Lib.hasPrefix l (wd ++ [32]))]) ∧ w' = w1 := fun w1 => by
    rw [show (bstr wd ++ ⟨#[32]⟩ : ByteArray) = bstr (wd ++ [32]) from bstr_app wd [32]]
    exact (Tryd.strings_CutPrefix (bstr l) (bstr (wd ++ [32])) w1).mono (by rintro e w' ⟨h1, h2⟩; exact ⟨h1, h2⟩)
  have htl : (Lib.trimPrefix l (wd ++ [32])).length ≤ l.length := by unfold Lib.trimPrefix; split <;> simp
  obtain ⟨r, hr⟩ : ∃ r, r = Lib.trimPrefix l (wd ++ [32]) := ⟨_, rfl⟩
  obtain ⟨p, hp⟩ : ∃ p, p = Lib.hasPrefix l (wd ++ [32]) := ⟨_, rfl⟩
  rw [← hr, ← hp] at hcp
  rw [← hr] at htl
  have hnu : ∀ w1 : World, MaxT w1 → Calls Tryd.prog 38 #[.string (bstr r), .int .i64 5, .int .i64 5] w1 fun e w' => (∃ v, e = .returned v ∧ NumV w' w1.heap.size (numQ r 5 5) v) ∧ Below w1.heap.size w1 w' := fun w1 h1 => numbers_any r 5 5 w1 (by omega) h1
  obtain ⟨s, hs⟩ : ∃ s, s = bstr l := ⟨_, rfl⟩
  obtain ⟨d, hd⟩ : ∃ s, s = bstr wd := ⟨_, rfl⟩
  have hdz : d.size ≤ 10 := by rw [hd, bstr_size]; exact hwd
  obtain ⟨q, hq⟩ : ∃ s, s = bstr r := ⟨_, rfl⟩
  rw [← hs, ← hd, ← hq] at hcp
  rw [← hq] at hnu
  rw [← hs, ← hd]
  have HPN : Hid (p = false → hdrB wd l = none) := Lib.hid (fun h => hdr_no (by rw [← hp]; exact h))
  have HPY : Hid (p = true → hdrB wd l = (match numQ r 5 5 with | some n => hd5 n | none => none)) := Lib.hid (fun h => by rw [hr]; exact hdr_yes (by rw [← hp]; exact h))
  obtain ⟨R, hR⟩ : ∃ R, R = hdrB wd l := ⟨_, rfl⟩
  rw [← hR]
  have HR := Lib.hid hR; have HNU := Lib.hid hnu; have HM := Lib.hid hm; have HCP := Lib.hid hcp
  clear hs hd hq hr hp hR hnu htl hm hcp
  go_enter Tryd.func36, Tryd.ntmps36
  have hn4 := heap_alloc_new w (.cells #[.int .i64 0, .int .i64 0, .int .i64 0, .int .i64 0] 87)
  have hba : Below w.heap.size w (w.alloc (.cells #[.int .i64 0, .int .i64 0, .int .i64 0, .int .i64 0] 87)) := (Below.refl _ _).alloc (Nat.le_refl _) _
  have hza : (w.alloc (.cells #[.int .i64 0, .int .i64 0, .int .i64 0, .int .i64 0] 87)).heap.size = w.heap.size + 1 := by simp
  go_upto_region 1 with (fail)
  generalize w.alloc (.cells #[.int .i64 0, .int .i64 0, .int .i64 0, .int .i64 0] 87) = wa at *
  have HN4 := Lib.hid hn4; have HBA := Lib.hid hba; have HZA := Lib.hid hza
  obtain ⟨b4, hb4⟩ : ∃ b, b = w.heap.size := ⟨_, rfl⟩
  rw [← hb4]
  have HB4 := Lib.hid hb4
  clear hn4 hba hza hb4
  go_wp2_with fail
  refine (HCP.out _).mono ?_
  rintro e w' ⟨rfl, hw'⟩
  rw [hw']
  clear hw' w'
  go_wp2_with fail
  refine (HNU.out wa (HM.out.below HBA.out)).mono ?_
  rintro e w1 ⟨⟨v, rfl, hv⟩, hb1⟩
  have HB1 := Lib.hid (HBA.out.trans (hb1.mono (by have := HZA.out; omega)))
  have HN1 : Hid (SzAt w1 b4 0 0 0 0) := Lib.hid (by have h := heap_below hb1 HN4.out; rw [← HB4.out] at h; exact h)
  have HB1' := Lib.hid hb1
  clear hb1
  cases p with
  | false =>
    have HRN : Hid (R = none) := Lib.hid (by rw [HR.out]; exact HPN.out rfl)
    clear hv
    go_upto_region 3 with (fail)
    refine wp_region_z (fun w' => True) [0, 1, 2, 3, 4, 5, 6, 7, 8, 9, 10, 11, 12, 13, 14, 15, 16, 17, 18, 19, 20, 21, 22, 23, 24, 25, 26, 27, 28, 29, 30, 31, 32, 33, 34, 35, 36, 37, 38, 39, 40] [] (by kernel_rfl) (by kernel_rfl) (by kernel_rfl) (by rfl) (fun _ _ _ _ e h => ⟨e.symm.trans h.1, h.2⟩) trivial ?_
    iterate 3
      refine Heads.step (v := ?_) rfl (by first | (go_simp; done) | rfl) (fun W hW => ?_) ?_
      rotate_left
      · (go_simp; try with_reducible rfl)
    iterate 2
      refine Heads.skip rfl (by first | (go_simp; done) | rfl) ?_
    iterate 2
      refine Heads.step (v := ?_) rfl (by first | (go_simp; done) | rfl) (fun W hW => ?_) ?_
      rotate_left
      · (go_simp; try with_reducible rfl)
    iterate 15
      refine Heads.skip rfl (by first | (go_simp; done) | rfl) ?_
    iterate 2
      refine Heads.step (v := ?_) rfl (by first | (go_simp; done) | rfl) (fun W hW => ?_) ?_
      rotate_left
      · (go_simp; try with_reducible rfl)
    iterate 4
      refine Heads.skip rfl (by first | (go_simp; done) | rfl) ?_
    iterate 2
      refine Heads.step (v := ?_) rfl (by first | (go_simp; done) | rfl) (fun W hW => ?_) ?_
      rotate_left
      · (go_simp; try with_reducible rfl)
    iterate 4
      refine Heads.skip rfl (by first | (go_simp; done) | rfl) ?_
    iterate 2
      refine Heads.step (v := ?_) rfl (by first | (go_simp; done) | rfl) (fun W hW => ?_) ?_
      rotate_left
      · (go_simp; try with_reducible rfl)
    iterate 4
      refine Heads.skip rfl (by first | (go_simp; done) | rfl) ?_
    iterate 1
      refine Heads.step (v := ?_) rfl (by first | (go_simp; done) | rfl) (fun W hW => ?_) ?_
      rotate_left
      · (go_simp; try with_reducible rfl)
    refine AnyZ.done (by kernel_rfl) ?_
    go_simp
    replace HN1 : Hid (SzAt w1.drew b4 0 0 0 0) := HN1
    replace HB1 := Lib.hid HB1.out.drew
    generalize w1.drew = w2 at *
    obtain ⟨⟨c0, c1, c2, c3⟩, cz⟩ := box4 HN1.out
    have cz0 := cz 0
    have cz1 := cz 1
    have cz2 := cz 2
    have cz3 := cz 3
    go_wp2_with fail
    rw [HRN.out]
    exact bodyPost_ret (v := .tuple #[.agg #[.int .i64 0, .int .i64 0, .int .i64 0, .int .i64 0], .bool false]) (outsZ rfl rfl (st4_heap HN1.out _ _ _ _)) rfl ⟨rfl, HB1.out.trans ((st4_only w2 b4 (.int .i64 0) (.int .i64 0) (.int .i64 0) (.int .i64 0)).below (fun k _ e => by rw [e, HB4.out]; exact Nat.le_refl _) HB1.out.size)⟩
  | true =>
    have HRE : Hid (R = (match numQ r 5 5 with | some n => hd5 n | none => none)) := Lib.hid (by rw [HR.out]; exact HPY.out rfl)
    obtain ⟨Q, hQ⟩ : ∃ Q, Q = numQ r 5 5 := ⟨_, rfl⟩
    rw [← hQ] at hv HRE
    cases Q with
    | none =>
      have HRN : Hid (R = none) := HRE
      obtain rfl : v = .slice none 0 0 := hv
      clear hQ
      go_upto_region 3 with (fail)
      refine wp_region_z (fun w' => True) [0, 1, 2, 3, 4, 5, 6, 7, 8, 9, 10, 11, 12, 13, 14, 15, 16, 17, 18, 19, 20, 21, 22, 23, 24, 25, 26, 27, 28, 29, 30, 31, 32, 33, 34, 35, 36, 37, 38, 39, 40] [] (by kernel_rfl) (by kernel_rfl) (by kernel_rfl) (by rfl) (fun _ _ _ _ e h => ⟨e.symm.trans h.1, h.2⟩) trivial ?_
      iterate 7
        refine Heads.step (v := ?_) rfl (by first | (go_simp; done) | rfl) (fun W hW => ?_) ?_
        rotate_left
        · (go_simp; try with_reducible rfl)
      iterate 15
        refine Heads.skip rfl (by first | (go_simp; done) | rfl) ?_
      iterate 2
        refine Heads.step (v := ?_) rfl (by first | (go_simp; done) | rfl) (fun W hW => ?_) ?_
        rotate_left
        · (go_simp; try with_reducible rfl)
      iterate 4
        refine Heads.skip rfl (by first | (go_simp; done) | rfl) ?_
      iterate 2
        refine Heads.step (v := ?_) rfl (by first | (go_simp; done) | rfl) (fun W hW => ?_) ?_
        rotate_left
        · (go_simp; try with_reducible rfl)
      iterate 4
        refine Heads.skip rfl (by first | (go_simp; done) | rfl) ?_
      iterate 2
        refine Heads.step (v := ?_) rfl (by first | (go_simp; done) | rfl) (fun W hW => ?_) ?_
        rotate_left
        · (go_simp; try with_reducible rfl)
      iterate 4
        refine Heads.skip rfl (by first | (go_simp; done) | rfl) ?_
      iterate 1
        refine Heads.step (v := ?_) rfl (by first | (go_simp; done) | rfl) (fun W hW => ?_) ?_
        rotate_left
        · (go_simp; try with_reducible rfl)
      refine AnyZ.done (by kernel_rfl) ?_
      go_simp
      replace HN1 : Hid (SzAt w1.drew b4 0 0 0 0) := HN1
      replace HB1 := Lib.hid HB1.out.drew
      generalize w1.drew = w2 at *
      obtain ⟨⟨c0, c1, c2, c3⟩, cz⟩ := box4 HN1.out
      have cz0 := cz 0
      have cz1 := cz 1
      have cz2 := cz 2
      have cz3 := cz 3
      go_wp2_with fail
      rw [HRN.out]
      exact bodyPost_ret (v := .tuple #[.agg #[.int .i64 0, .int .i64 0, .int .i64 0, .int .i64 0], .bool false]) (outsZ rfl rfl (st4_heap HN1.out _ _ _ _)) rfl ⟨rfl, HB1.out.trans ((st4_only w2 b4 (.int .i64 0) (.int .i64 0) (.int .i64 0) (.int .i64 0)).below (fun k _ e => by rw [e, HB4.out]; exact Nat.le_refl _) HB1.out.size)⟩
    | some n =>
      obtain ⟨m, i, la, o, a, rfl, hm9, hi9, hla9, ho9, ha9⟩ := numQ_five hQ.symm
      obtain ⟨bN, oN, cN, rfl, hbN, hx⟩ := hv
      have hbe : Hid (bN ≠ b4) := Lib.hid (by have := HZA.out; have := HB4.out; omega)
      have x0 : w1.cell? ⟨bN, oN, none⟩ = some (.int .i64 (m : Nat)) := hx 0 (by simp)
      have x1 : w1.cell? ⟨bN, oN + 1, none⟩ = some (.int .i64 (i : Nat)) := hx 1 (by simp)
      have x2 : w1.cell? ⟨bN, oN + 2, none⟩ = some (.int .i64 (la : Nat)) := hx 2 (by simp)
      have x3 : w1.cell? ⟨bN, oN + 3, none⟩ = some (.int .i64 (o : Nat)) := hx 3 (by simp)
      have x4 : w1.cell? ⟨bN, oN + 4, none⟩ = some (.int .i64 (a : Nat)) := hx 4 (by simp)
      have HRX : Hid (R = if m = i + la + a ∧ m < 60000 ∧ la ≤ 6000 ∧ o ≤ 60000 then some ⟨i, la, o, a⟩ else none) := HRE
      clear hQ hx hbN
      go_upto_region 3 with (fail)
      have ew1 : IntKind.i64.wrap ((i : Int) + (la : Int)) = (i : Int) + (la : Int) := by rw [IntKind.wrap_i64]; omega
      have ew2 : IntKind.i64.wrap ((i : Int) + (la : Int) + (a : Int)) = (i : Int) + (la : Int) + (a : Int) := by rw [IntKind.wrap_i64]; omega
      by_cases h1 : m = i + la + a
      · have q1 : ((m : Int) != (i : Int) + (la : Int) + (a : Int)) = false := by rw [bne_eq_false_iff_eq]; omega
        have H1 := Lib.hid h1
        clear h1
        by_cases h2 : m < 60000
        · have q2 : ¬ ((60000 : Int) ≤ (m : Int)) := by omega
          by_cases h3 : la ≤ 6000
          · have q3 : ¬ ((6000 : Int) < (la : Int)) := by omega
            by_cases h4 : o ≤ 60000
            · have q4 : ¬ ((60000 : Int) < (o : Int)) := by omega
              have HRN : Hid (R = some ⟨i, la, o, a⟩) := Lib.hid (by rw [HRX.out]; exact if_pos ⟨H1.out, h2, h3, h4⟩)
              refine wp_region_z (fun w' => w'.cell? ⟨bN, oN, none⟩ = some (.int .i64 (m : Nat)) ∧ w'.cell? ⟨bN, oN + 1, none⟩ = some (.int .i64 (i : Nat)) ∧ w'.cell? ⟨bN, oN + 2, none⟩ = some (.int .i64 (la : Nat)) ∧ w'.cell? ⟨bN, oN + 3, none⟩ = some (.int .i64 (o : Nat)) ∧ w'.cell? ⟨bN, oN + 4, none⟩ = some (.int .i64 (a : Nat))) [0, 1, 2, 3, 4, 5, 6, 7, 8, 9, 10, 11, 12, 13, 14, 15, 16, 17, 18, 19, 20, 21, 22, 23, 24, 25, 26, 27, 28, 29, 30, 31, 32, 33, 34, 35, 36, 37, 38, 39, 40] [] (by kernel_rfl) (by kernel_rfl) (by kernel_rfl) (by rfl) (fun _ _ _ _ e h => ⟨e.symm.trans h.1, h.2⟩) ⟨x0, x1, x2, x3, x4⟩ ?_
              iterate 41
                refine Heads.step (v := ?_) rfl (by first | (go_simp; done) | rfl) (fun W hW => ?_) ?_
                rotate_left
                · (obtain ⟨t0, t1, t2, t3, t4⟩ := hW; go_simp; try with_reducible rfl)
              refine AnyZ.done (by kernel_rfl) ?_
              go_simp
              replace HN1 : Hid (SzAt w1.drew b4 0 0 0 0) := HN1
              replace HB1 := Lib.hid HB1.out.drew
              replace x1 : w1.drew.cell? ⟨bN, oN + 1, none⟩ = some (.int .i64 (i : Nat)) := x1
              replace x2 : w1.drew.cell? ⟨bN, oN + 2, none⟩ = some (.int .i64 (la : Nat)) := x2
              replace x3 : w1.drew.cell? ⟨bN, oN + 3, none⟩ = some (.int .i64 (o : Nat)) := x3
              replace x4 : w1.drew.cell? ⟨bN, oN + 4, none⟩ = some (.int .i64 (a : Nat)) := x4
              generalize w1.drew = w2 at *
              clear q1
              go_upto_region 5 with (fail)
              obtain ⟨⟨c0, c1, c2, c3⟩, cz⟩ := box4 HN1.out
              have cz0 := cz 0
              have cz1 := cz 1
              have cz2 := cz 2
              have cz3 := cz 3
              refine wp_region_z (fun w' => w'.cell? ⟨bN, oN + 1, none⟩ = some (.int .i64 (i : Nat)) ∧ w'.cell? ⟨bN, oN + 2, none⟩ = some (.int .i64 (la : Nat)) ∧ w'.cell? ⟨bN, oN + 3, none⟩ = some (.int .i64 (o : Nat)) ∧ w'.cell? ⟨bN, oN + 4, none⟩ = some (.int .i64 (a : Nat))) [0, 1, 2, 3, 4, 5, 6, 7, 8, 9, 10, 11, 12] [] (by kernel_rfl) (by kernel_rfl) (by kernel_rfl) (by rfl) (fun _ _ _ _ e h => ⟨e.symm.trans h.1, h.2⟩) ⟨x1, x2, x3, x4⟩ ?_
              iterate 13
                refine Heads.step (v := ?_) rfl (by first | (go_simp; done) | rfl) (fun W hW => ?_) ?_
                rotate_left
                · (obtain ⟨t0, t1, t2, t3⟩ := hW; go_simp; try with_reducible rfl)
              refine AnyZ.one (i := 13) (by kernel_rfl) rfl (fun K hK => ?_)
              go_simp
              rw [fold4s]
              have hk := st4_only w2.drew b4 (.int .i64 (i : Int)) (.int .i64 (la : Int)) (.int .i64 (o : Int)) (.int .i64 (a : Int))
              have HN2 := Lib.hid (st4_heap (show w2.drew.heap[b4]? = _ from HN1.out) (.int .i64 (i : Int)) (.int .i64 (la : Int)) (.int .i64 (o : Int)) (.int .i64 (a : Int)))
              have HB2 := Lib.hid (HB1.out.drew.trans (hk.below (fun k _ e => by rw [e, HB4.out]; exact Nat.le_refl _) HB1.out.size))
              have hne := hbe.out
              have y1 := hk.cell (p := ⟨bN, oN + 1, none⟩) (show w2.drew.cell? ⟨bN, oN + 1, none⟩ = _ from x1) hne
              have y2 := hk.cell (p := ⟨bN, oN + 2, none⟩) (show w2.drew.cell? ⟨bN, oN + 2, none⟩ = _ from x2) hne
              have y3 := hk.cell (p := ⟨bN, oN + 3, none⟩) (show w2.drew.cell? ⟨bN, oN + 3, none⟩ = _ from x3) hne
              have y4 := hk.cell (p := ⟨bN, oN + 4, none⟩) (show w2.drew.cell? ⟨bN, oN + 4, none⟩ = _ from x4) hne
              refine hK _ _ (fun _ => ⟨y1, y2, y3, y4⟩) ?_
              clear hK hk hne
              refine AnyZ.mid [14] [] 0 rfl (by kernel_rfl) (by kernel_rfl) (by kernel_rfl) (fun _ _ _ _ e h => ⟨e.symm.trans h.1, h.2⟩) ⟨y1, y2, y3, y4⟩ ?_
              iterate 1
                refine Heads.step (v := ?_) rfl (by first | (go_simp; done) | rfl) (fun W hW => ?_) ?_
                rotate_left
                · (obtain ⟨t0, t1, t2, t3⟩ := hW; go_simp; try with_reducible rfl)
              refine AnyZ.done (by kernel_rfl) ?_
              go_simp
              go_wp2_with fail
              rw [HRN.out]
              exact bodyPost_ret (v := .tuple #[.agg #[.int .i64 (i : Int), .int .i64 (la : Int), .int .i64 (o : Int), .int .i64 (a : Int)], .bool true]) (outsZ rfl rfl HN2.out) rfl ⟨rfl, HB2.out⟩
            · have q4 : (60000 : Int) < (o : Int) := by omega
              have HRN : Hid (R = none) := Lib.hid (by rw [HRX.out]; exact if_neg (by omega))
              refine wp_region_z (fun w' => w'.cell? ⟨bN, oN, none⟩ = some (.int .i64 (m : Nat)) ∧ w'.cell? ⟨bN, oN + 1, none⟩ = some (.int .i64 (i : Nat)) ∧ w'.cell? ⟨bN, oN + 2, none⟩ = some (.int .i64 (la : Nat)) ∧ w'.cell? ⟨bN, oN + 3, none⟩ = some (.int .i64 (o : Nat)) ∧ w'.cell? ⟨bN, oN + 4, none⟩ = some (.int .i64 (a : Nat))) [0, 1, 2, 3, 4, 5, 6, 7, 8, 9, 10, 11, 12, 13, 14, 15, 16, 17, 18, 19, 20, 21, 22, 23, 24, 25, 26, 27, 28, 29, 30, 31, 32, 33, 34, 35, 36, 37, 38, 39, 40] [] (by kernel_rfl) (by kernel_rfl) (by kernel_rfl) (by rfl) (fun _ _ _ _ e h => ⟨e.symm.trans h.1, h.2⟩) ⟨x0, x1, x2, x3, x4⟩ ?_
              iterate 41
                refine Heads.step (v := ?_) rfl (by first | (go_simp; done) | rfl) (fun W hW => ?_) ?_
                rotate_left
                · (obtain ⟨t0, t1, t2, t3, t4⟩ := hW; go_simp; try with_reducible rfl)
              refine AnyZ.done (by kernel_rfl) ?_
              go_simp
              clear x0 x1 x2 x3 x4
              replace HN1 : Hid (SzAt w1.drew b4 0 0 0 0) := HN1
              replace HB1 := Lib.hid HB1.out.drew
              generalize w1.drew = w2 at *
              obtain ⟨⟨c0, c1, c2, c3⟩, cz⟩ := box4 HN1.out
              have cz0 := cz 0
              have cz1 := cz 1
              have cz2 := cz 2
              have cz3 := cz 3
              go_wp2_with fail
              rw [HRN.out]
              exact bodyPost_ret (v := .tuple #[.agg #[.int .i64 0, .int .i64 0, .int .i64 0, .int .i64 0], .bool false]) (outsZ rfl rfl (st4_heap HN1.out _ _ _ _)) rfl ⟨rfl, HB1.out.trans ((st4_only w2 b4 (.int .i64 0) (.int .i64 0) (.int .i64 0) (.int .i64 0)).below (fun k _ e => by rw [e, HB4.out]; exact Nat.le_refl _) HB1.out.size)⟩
          · have q3 : (6000 : Int) < (la : Int) := by omega
            have HRN : Hid (R = none) := Lib.hid (by rw [HRX.out]; exact if_neg (by omega))
            refine wp_region_z (fun w' => w'.cell? ⟨bN, oN, none⟩ = some (.int .i64 (m : Nat)) ∧ w'.cell? ⟨bN, oN + 1, none⟩ = some (.int .i64 (i : Nat)) ∧ w'.cell? ⟨bN, oN + 2, none⟩ = some (.int .i64 (la : Nat)) ∧ w'.cell? ⟨bN, oN + 3, none⟩ = some (.int .i64 (o : Nat)) ∧ w'.cell? ⟨bN, oN + 4, none⟩ = some (.int .i64 (a : Nat))) [0, 1, 2, 3, 4, 5, 6, 7, 8, 9, 10, 11, 12, 13, 14, 15, 16, 17, 18, 19, 20, 21, 22, 23, 24, 25, 26, 27, 28, 29, 30, 31, 32, 33, 34, 35, 36, 37, 38, 39, 40] [] (by kernel_rfl) (by kernel_rfl) (by kernel_rfl) (by rfl) (fun _ _ _ _ e h => ⟨e.symm.trans h.1, h.2⟩) ⟨x0, x1, x2, x3, x4⟩ ?_
            iterate 22
              refine Heads.step (v := ?_) rfl (by first | (go_simp; done) | rfl) (fun W hW => ?_) ?_
              rotate_left
              · (obtain ⟨t0, t1, t2, t3, t4⟩ := hW; go_simp; try with_reducible rfl)
            iterate 2
              refine Heads.step (v := ?_) rfl (by first | (go_simp; done) | rfl) (fun W hW => ?_) ?_
              rotate_left
              · (obtain ⟨t0, t1, t2, t3, t4⟩ := hW; go_simp; try with_reducible rfl)
            iterate 4
              refine Heads.step (v := ?_) rfl (by first | (go_simp; done) | rfl) (fun W hW => ?_) ?_
              rotate_left
              · (obtain ⟨t0, t1, t2, t3, t4⟩ := hW; go_simp; try with_reducible rfl)
            iterate 2
              refine Heads.step (v := ?_) rfl (by first | (go_simp; done) | rfl) (fun W hW => ?_) ?_
              rotate_left
              · (obtain ⟨t0, t1, t2, t3, t4⟩ := hW; go_simp; try with_reducible rfl)
            iterate 4
              refine Heads.step (v := ?_) rfl (by first | (go_simp; done) | rfl) (fun W hW => ?_) ?_
              rotate_left
              · (obtain ⟨t0, t1, t2, t3, t4⟩ := hW; go_simp; try with_reducible rfl)
            iterate 2
              refine Heads.step (v := ?_) rfl (by first | (go_simp; done) | rfl) (fun W hW => ?_) ?_
              rotate_left
              · (obtain ⟨t0, t1, t2, t3, t4⟩ := hW; go_simp; try with_reducible rfl)
            iterate 4
              refine Heads.skip rfl (by first | (go_simp; done) | rfl) ?_
            iterate 1
              refine Heads.step (v := ?_) rfl (by first | (go_simp; done) | rfl) (fun W hW => ?_) ?_
              rotate_left
              · (obtain ⟨t0, t1, t2, t3, t4⟩ := hW; go_simp; try with_reducible rfl)
            refine AnyZ.done (by kernel_rfl) ?_
            go_simp
            clear x0 x1 x2 x3 x4
            replace HN1 : Hid (SzAt w1.drew b4 0 0 0 0) := HN1
            replace HB1 := Lib.hid HB1.out.drew
            generalize w1.drew = w2 at *
            obtain ⟨⟨c0, c1, c2, c3⟩, cz⟩ := box4 HN1.out
            have cz0 := cz 0
            have cz1 := cz 1
            have cz2 := cz 2
            have cz3 := cz 3
            go_wp2_with fail
            rw [HRN.out]
            exact bodyPost_ret (v := .tuple #[.agg #[.int .i64 0, .int .i64 0, .int .i64 0, .int .i64 0], .bool false]) (outsZ rfl rfl (st4_heap HN1.out _ _ _ _)) rfl ⟨rfl, HB1.out.trans ((st4_only w2 b4 (.int .i64 0) (.int .i64 0) (.int .i64 0) (.int .i64 0)).below (fun k _ e => by rw [e, HB4.out]; exact Nat.le_refl _) HB1.out.size)⟩
        · have q2 : (60000 : Int) ≤ (m : Int) := by omega
          have HRN : Hid (R = none) := Lib.hid (by rw [HRX.out]; exact if_neg (by omega))
          refine wp_region_z (fun w' => w'.cell? ⟨bN, oN, none⟩ = some (.int .i64 (m : Nat)) ∧ w'.cell? ⟨bN, oN + 1, none⟩ = some (.int .i64 (i : Nat)) ∧ w'.cell? ⟨bN, oN + 2, none⟩ = some (.int .i64 (la : Nat)) ∧ w'.cell? ⟨bN, oN + 3, none⟩ = some (.int .i64 (o : Nat)) ∧ w'.cell? ⟨bN, oN + 4, none⟩ = some (.int .i64 (a : Nat))) [0, 1, 2, 3, 4, 5, 6, 7, 8, 9, 10, 11, 12, 13, 14, 15, 16, 17, 18, 19, 20, 21, 22, 23, 24, 25, 26, 27, 28, 29, 30, 31, 32, 33, 34, 35, 36, 37, 38, 39, 40] [] (by kernel_rfl) (by kernel_rfl) (by kernel_rfl) (by rfl) (fun _ _ _ _ e h => ⟨e.symm.trans h.1, h.2⟩) ⟨x0, x1, x2, x3, x4⟩ ?_
          iterate 22
            refine Heads.step (v := ?_) rfl (by first | (go_simp; done) | rfl) (fun W hW => ?_) ?_
            rotate_left
            · (obtain ⟨t0, t1, t2, t3, t4⟩ := hW; go_simp; try with_reducible rfl)
          iterate 2
            refine Heads.step (v := ?_) rfl (by first | (go_simp; done) | rfl) (fun W hW => ?_) ?_
            rotate_left
            · (obtain ⟨t0, t1, t2, t3, t4⟩ := hW; go_simp; try with_reducible rfl)
          iterate 4
            refine Heads.step (v := ?_) rfl (by first | (go_simp; done) | rfl) (fun W hW => ?_) ?_
            rotate_left
            · (obtain ⟨t0, t1, t2, t3, t4⟩ := hW; go_simp; try with_reducible rfl)
          iterate 2
            refine Heads.step (v := ?_) rfl (by first | (go_simp; done) | rfl) (fun W hW => ?_) ?_
            rotate_left
            · (obtain ⟨t0, t1, t2, t3, t4⟩ := hW; go_simp; try with_reducible rfl)
          iterate 4
            refine Heads.skip rfl (by first | (go_simp; done) | rfl) ?_
          iterate 2
            refine Heads.step (v := ?_) rfl (by first | (go_simp; done) | rfl) (fun W hW => ?_) ?_
            rotate_left
            · (obtain ⟨t0, t1, t2, t3, t4⟩ := hW; go_simp; try with_reducible rfl)
          iterate 4
            refine Heads.skip rfl (by first | (go_simp; done) | rfl) ?_
          iterate 1
            refine Heads.step (v := ?_) rfl (by first | (go_simp; done) | rfl) (fun W hW => ?_) ?_
            rotate_left
            · (obtain ⟨t0, t1, t2, t3, t4⟩ := hW; go_simp; try with_reducible rfl)
          refine AnyZ.done (by kernel_rfl) ?_
          go_simp
          clear x0 x1 x2 x3 x4
          replace HN1 : Hid (SzAt w1.drew b4 0 0 0 0) := HN1
          replace HB1 := Lib.hid HB1.out.drew
          generalize w1.drew = w2 at *
          obtain ⟨⟨c0, c1, c2, c3⟩, cz⟩ := box4 HN1.out
          have cz0 := cz 0
          have cz1 := cz 1
          have cz2 := cz 2
          have cz3 := cz 3
          go_wp2_with fail
          rw [HRN.out]
          exact bodyPost_ret (v := .tuple #[.agg #[.int .i64 0, .int .i64 0, .int .i64 0, .int .i64 0], .bool false]) (outsZ rfl rfl (st4_heap HN1.out _ _ _ _)) rfl ⟨rfl, HB1.out.trans ((st4_only w2 b4 (.int .i64 0) (.int .i64 0) (.int .i64 0) (.int .i64 0)).below (fun k _ e => by rw [e, HB4.out]; exact Nat.le_refl _) HB1.out.size)⟩
      · have q1 : ((m : Int) != (i : Int) + (la : Int) + (a : Int)) = true := by rw [bne_iff_ne]; omega
        have HRN : Hid (R = none) := Lib.hid (by rw [HRX.out]; exact if_neg (by omega))
        refine wp_region_z (fun w' => w'.cell? ⟨bN, oN, none⟩ = some (.int .i64 (m : Nat)) ∧ w'.cell? ⟨bN, oN + 1, none⟩ = some (.int .i64 (i : Nat)) ∧ w'.cell? ⟨bN, oN + 2, none⟩ = some (.int .i64 (la : Nat)) ∧ w'.cell? ⟨bN, oN + 3, none⟩ = some (.int .i64 (o : Nat)) ∧ w'.cell? ⟨bN, oN + 4, none⟩ = some (.int .i64 (a : Nat))) [0, 1, 2, 3, 4, 5, 6, 7, 8, 9, 10, 11, 12, 13, 14, 15, 16, 17, 18, 19, 20, 21, 22, 23, 24, 25, 26, 27, 28, 29, 30, 31, 32, 33, 34, 35, 36, 37, 38, 39, 40] [] (by kernel_rfl) (by kernel_rfl) (by kernel_rfl) (by rfl) (fun _ _ _ _ e h => ⟨e.symm.trans h.1, h.2⟩) ⟨x0, x1, x2, x3, x4⟩ ?_
        iterate 7
          refine Heads.step (v := ?_) rfl (by first | (go_simp; done) | rfl) (fun W hW => ?_) ?_
          rotate_left
          · (obtain ⟨t0, t1, t2, t3, t4⟩ := hW; go_simp; try with_reducible rfl)
        iterate 15
          refine Heads.step (v := ?_) rfl (by first | (go_simp; done) | rfl) (fun W hW => ?_) ?_
          rotate_left
          · (obtain ⟨t0, t1, t2, t3, t4⟩ := hW; go_simp; try with_reducible rfl)
        iterate 2
          refine Heads.step (v := ?_) rfl (by first | (go_simp; done) | rfl) (fun W hW => ?_) ?_
          rotate_left
          · (obtain ⟨t0, t1, t2, t3, t4⟩ := hW; go_simp; try with_reducible rfl)
        iterate 4
          refine Heads.skip rfl (by first | (go_simp; done) | rfl) ?_
        iterate 2
          refine Heads.step (v := ?_) rfl (by first | (go_simp; done) | rfl) (fun W hW => ?_) ?_
          rotate_left
          · (obtain ⟨t0, t1, t2, t3, t4⟩ := hW; go_simp; try with_reducible rfl)
        iterate 4
          refine Heads.skip rfl (by first | (go_simp; done) | rfl) ?_
        iterate 2
          refine Heads.step (v := ?_) rfl (by first | (go_simp; done) | rfl) (fun W hW => ?_) ?_
          rotate_left
          · (obtain ⟨t0, t1, t2, t3, t4⟩ := hW; go_simp; try with_reducible rfl)
        iterate 4
          refine Heads.skip rfl (by first | (go_simp; done) | rfl) ?_
        iterate 1
          refine Heads.step (v := ?_) rfl (by first | (go_simp; done) | rfl) (fun W hW => ?_) ?_
          rotate_left
          · (obtain ⟨t0, t1, t2, t3, t4⟩ := hW; go_simp; try with_reducible rfl)
        refine AnyZ.done (by kernel_rfl) ?_
        go_simp
        clear x0 x1 x2 x3 x4
        replace HN1 : Hid (SzAt w1.drew b4 0 0 0 0) := HN1
        replace HB1 := Lib.hid HB1.out.drew
        generalize w1.drew = w2 at *
        obtain ⟨⟨c0, c1, c2, c3⟩, cz⟩ := box4 HN1.out
        have cz0 := cz 0
        have cz1 := cz 1
        have cz2 := cz 2
        have cz3 := cz 3
        go_wp2_with fail
        rw [HRN.out]
        exact bodyPost_ret (v := .tuple #[.agg #[.int .i64 0, .int .i64 0, .int .i64 0, .int .i64 0], .bool false]) (outsZ rfl rfl (st4_heap HN1.out _ _ _ _)) rfl ⟨rfl, HB1.out.trans ((st4_only w2 b4 (.int .i64 0) (.int .i64 0) (.int .i64 0) (.int .i64 0)).below (fun k _ e => by rw [e, HB4.out]; exact Nat.le_refl _) HB1.out.size)⟩
end Go.Proofs.YtngjbiipgbeemaaDoor
