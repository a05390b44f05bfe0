/- The reference's header, walked: the sizes of a graph, off the first line. Condition: the text is shorter than 1000000000 bytes. -/
import Derived.Test.YtngjbiipgbeemaaDoorPtR
import Derived.Test.YtngjbiipgbeemaaDoorHdA
namespace Go.Proofs.YtngjbiipgbeemaaDoor
open Go.RowKit Go.Shelf Go.Deep

def SzRt (w : World) (b : Nat) (x0 x1 x2 x3 : Int) : Prop := w.heap[b]? = some (.cells #[.int .i64 x0, .int .i64 x1, .int .i64 x2, .int .i64 x3] 65)
attribute [local go_sem] Oper.semAt_some in
theorem outsY {tmps : Array Value} {W : World} {b : Nat} {x0 x1 x2 x3 : Int} {v : Value} (h2 : tmps[4]? = some (.pointer (some ⟨b, 0, none⟩))) (h3 : tmps[5]? = some v) (h : SzRt W b x0 x1 x2 x3) :
    (results Tryd.f25 tmps).run Tryd.prog W = .ok (.tuple #[.agg #[.int .i64 x0, .int .i64 x1, .int .i64 x2, .int .i64 x3], v]) W := by
  obtain ⟨⟨c0, c1, c2, c3⟩, _⟩ := box4 h
  simp [results, Tryd.f25, go_sem, h2, h3, c0, c1, c2, c3]
theorem pre3 {a b c : UInt8} {l : List UInt8} : Lib.hasPrefix l ([a, b, c] ++ [32]) = (match l with | x :: y :: z :: t :: _ => (a == x && b == y && c == z && (32 : UInt8) == t) | _ => false) := by
  unfold Lib.hasPrefix
  match l with
  | [] => rfl
  | [_] => simp [List.isPrefixOf]
  | [_, _] => simp [List.isPrefixOf]
  | [_, _, _] => simp [List.isPrefixOf]
  | x :: y :: z :: t :: r => simp [List.isPrefixOf, Bool.and_assoc]
theorem hdr_yes3 {a b c : UInt8} {l : List UInt8} (h : Lib.hasPrefix l ([a, b, c] ++ [32]) = true) : hdrB [a, b, c] l = (numsB (l.drop 4)).bind hd5 := by
  unfold hdrB
  have e : List.isPrefixOf ([a, b, c] ++ [32]) l = true := h
  rw [if_pos e]
  show (match numsB (l.drop 4) with | some n => hd5 n | none => none) = _
  cases numsB (l.drop 4) <;> rfl
theorem pre_short {a b c : UInt8} {l : List UInt8} (h : l.length < 4) : Lib.hasPrefix l ([a, b, c] ++ [32]) = false := by
  rw [pre3]
  match l, h with
  | [], _ => rfl
  | [_], _ => rfl
  | [_, _], _ => rfl
  | [_, _, _], _ => rfl
theorem four_of {l : List UInt8} (h : ¬ l.length < 4) : ∃ x y z u r, l = x :: y :: z :: u :: r := by
  match l, h with
  | x :: y :: z :: u :: r, _ => exact ⟨x, y, z, u, r, rfl⟩
  | [], h => exact absurd (by simp) h
  | [_], h => exact absurd (by simp) h
  | [_, _], h => exact absurd (by simp) h
  | [_, _, _], h => exact absurd (by simp) h
theorem pre_four {a b c x y z u : UInt8} {r : List UInt8} : Lib.hasPrefix (x :: y :: z :: u :: r) ([a, b, c] ++ [32]) = (([x, y, z] == [a, b, c]) && (32 : UInt8) == u) := by
  rw [pre3]
  show (a == x && b == y && c == z && (32 : UInt8) == u) = _
  congr 1
  show _ = (x == a && (y == b && (z == c && true)))
  rw [Bool.and_true, ← Bool.and_assoc, Bool.beq_comm (a := a), Bool.beq_comm (a := b), Bool.beq_comm (a := c)]
theorem hd5_not {n : List Nat} (h : n.length ≠ 5) : hd5 n = none := by
  unfold hd5
  split
  · simp at h
  · rfl
theorem five_of {n : List Nat} (h : n.length = 5) : ∃ m i la o a, n = [m, i, la, o, a] := by
  match n, h with
  | [m, i, la, o, a], _ => exact ⟨m, i, la, o, a, rfl⟩

set_option maxRecDepth 100000 in
set_option maxHeartbeats 8000000 in
theorem refHeader_any (ca cb cc : UInt8) (l : List UInt8) (w : World) (hl : l.length ≤ 1000000000) :
    Calls Tryd.prog 25 #[.string (bstr l), .string (bstr [ca, cb, cc])] w fun e w' => e = .returned (.tuple #[szV (hdrB [ca, cb, cc] l), .bool (hdrB [ca, cb, cc] l).isSome]) ∧ Below w.heap.size w w' := by
  obtain ⟨p, hp⟩ : ∃ p, p = Lib.hasPrefix l ([ca, cb, cc] ++ [32]) := ⟨_, rfl⟩
  have hpa : ∀ w1 : World, Calls Tryd.prog 43 #[.string (bstr (l.drop 4))] w1 fun e w' => (∃ v, e = .returned (.tuple #[v, .bool (numsB (l.drop 4)).isSome]) ∧ NumV w' w1.heap.size (numsB (l.drop 4)) v) ∧ Below w1.heap.size w1 w' := fun w1 => parted_any (l.drop 4) w1 (by rw [List.length_drop]; omega)
  have HSM : Hid (∀ n, numsB (l.drop 4) = some n → ∀ x ∈ n, x < 1000000000) := Lib.hid (fun n h => (numsB_small h).2.2)
  obtain ⟨Q, hQ⟩ : ∃ Q, Q = numsB (l.drop 4) := ⟨_, rfl⟩
  rw [← hQ] at hpa HSM
  obtain ⟨R, hR⟩ : ∃ R, R = hdrB [ca, cb, cc] l := ⟨_, rfl⟩
  rw [← hR]
  have HPN : Hid (p = false → R = none) := Lib.hid (fun h => by rw [hR]; exact hdr_no (by rw [← hp]; exact h))
  have HPY : Hid (p = true → R = Q.bind hd5) := Lib.hid (fun h => by rw [hR, hQ]; exact hdr_yes3 (by rw [← hp]; exact h))
  obtain ⟨s, hs⟩ : ∃ s, s = bstr l := ⟨_, rfl⟩
  obtain ⟨d, hd⟩ : ∃ s, s = bstr [ca, cb, cc] := ⟨_, rfl⟩
  have hsz : s.size = l.length := by rw [hs, bstr_size]
  rw [show bstr (l.drop 4) = s.extract 4 l.length by rw [hs, bstr_drop]] at hpa
  rw [← hs, ← hd]
  have HPA := Lib.hid hpa
  have HS := Lib.hid hs; have HDD := Lib.hid hd; have HPP := Lib.hid hp
  clear hQ hR hpa hs hd hp
  go_enter Tryd.func25, Tryd.ntmps25
  have hn4 := heap_alloc_new w (.cells #[.int .i64 0, .int .i64 0, .int .i64 0, .int .i64 0] 65)
  have hba : Below w.heap.size w (w.alloc (.cells #[.int .i64 0, .int .i64 0, .int .i64 0, .int .i64 0] 65)) := (Below.refl _ _).alloc (Nat.le_refl _) _
  have hza : (w.alloc (.cells #[.int .i64 0, .int .i64 0, .int .i64 0, .int .i64 0] 65)).heap.size = w.heap.size + 1 := by simp
  go_upto_region 1 with (fail)
  generalize w.alloc (.cells #[.int .i64 0, .int .i64 0, .int .i64 0, .int .i64 0] 65) = wa at *
  have HN4 := Lib.hid hn4; have HBA := Lib.hid hba; have HZA := Lib.hid hza
  obtain ⟨b4, hb4⟩ : ∃ b, b = w.heap.size := ⟨_, rfl⟩
  rw [← hb4]
  have HB4 := Lib.hid hb4
  clear hn4 hba hza hb4
  have HN1 : Hid (SzRt wa b4 0 0 0 0) := Lib.hid (by rw [HB4.out]; exact HN4.out)
  by_cases h4 : l.length < 4
  · have HRN : Hid (R = none) := Lib.hid (HPN.out (by rw [HPP.out]; exact pre_short h4))
    obtain ⟨⟨c0, c1, c2, c3⟩, cz⟩ := box4 HN1.out
    have cz0 := cz 0
    have cz1 := cz 1
    have cz2 := cz 2
    have cz3 := cz 3
    go_wp2_with fail
    rw [HRN.out]
    exact bodyPost_ret (v := .tuple #[.agg #[.int .i64 0, .int .i64 0, .int .i64 0, .int .i64 0], .bool false]) (outsY rfl rfl (st4_heap HN1.out _ _ _ _)) rfl ⟨rfl, HBA.out.trans ((st4_only wa b4 (.int .i64 0) (.int .i64 0) (.int .i64 0) (.int .i64 0)).below (fun k _ e => by rw [e, HB4.out]; exact Nat.le_refl _) HBA.out.size)⟩
  · have hs3 : 3 < s.size := by omega
    obtain ⟨x, y, z, u, r, hl4⟩ := four_of h4
    obtain ⟨e3, he3⟩ : ∃ e3, e3 = ([x, y, z] == [ca, cb, cc]) := ⟨_, rfl⟩
    have q0' : ((s.extract 0 3).toList == d.toList) = e3 := by rw [he3, HS.out, HDD.out, bstr_take, bstr_toList, bstr_toList, hl4]; rfl
    obtain ⟨v3, hv3⟩ : ∃ v3, s[3]'hs3 = v3 := ⟨_, rfl⟩
    have hvu : v3 = u := by
      have h := Lib.data_getElem? s 3 hs3
      rw [hv3, HS.out, bstr_list, hl4] at h
      simp only [List.getElem?_cons_succ, List.getElem?_cons_zero, Option.some.injEq] at h
      exact h.symm
    have HPV : Hid (p = (e3 && ((32 : UInt8) == v3))) := Lib.hid (by rw [HPP.out, hl4, pre_four, he3, hvu])
    clear hl4 he3 hvu
    cases e3 with
    | false =>
      have HRN : Hid (R = none) := Lib.hid (HPN.out (by rw [HPV.out]; rfl))
      have q0 : ¬ (s.extract 0 3).toList = d.toList := fun h => by rw [h] at q0'; simp at q0'
      clear q0'
      obtain ⟨⟨c0, c1, c2, c3⟩, cz⟩ := box4 HN1.out
      have cz0 := cz 0
      have cz1 := cz 1
      have cz2 := cz 2
      have cz3 := cz 3
      go_wp2_with fail
      rw [HRN.out]
      exact bodyPost_ret (v := .tuple #[.agg #[.int .i64 0, .int .i64 0, .int .i64 0, .int .i64 0], .bool false]) (outsY rfl rfl (st4_heap HN1.out _ _ _ _)) rfl ⟨rfl, HBA.out.trans ((st4_only wa b4 (.int .i64 0) (.int .i64 0) (.int .i64 0) (.int .i64 0)).below (fun k _ e => by rw [e, HB4.out]; exact Nat.le_refl _) HBA.out.size)⟩
    | true =>
      have q0 : (s.extract 0 3).toList = d.toList := by simpa using q0'
      clear q0'
      by_cases h32 : v3 = 32
      · have q1 : ((v3.toNat : Int) != 32) = false := by rw [h32]; rfl
        have HPT : Hid (R = Q.bind hd5) := Lib.hid (HPY.out (by rw [HPV.out, h32]; rfl))
        have HM := Lib.hid h32
        clear h32
        go_wp2_with fail
        refine (HPA.out wa).mono ?_
        rintro e w1 ⟨⟨v, rfl, hv⟩, hb1⟩
        have HB1 := Lib.hid (HBA.out.trans (hb1.mono (by have := HZA.out; omega)))
        replace HN1 : Hid (SzRt w1 b4 0 0 0 0) := Lib.hid (heap_below hb1 HN1.out)
        clear hb1
        cases Q with
        | none =>
          obtain rfl : v = .slice none 0 0 := hv
          have HRN : Hid (R = none) := HPT
          go_upto_region 4 with (fail)
          refine wp_region_z (fun w' => True) [0, 1, 2, 3, 4, 5, 6, 7, 8, 9, 10, 11, 12, 13, 14, 15, 16, 17, 18, 19, 20, 21, 22, 23, 24, 25, 26, 27, 28, 29, 30, 31, 32, 33, 34, 35, 36, 37, 38, 39, 40, 41] [] (by kernel_rfl) (by kernel_rfl) (by kernel_rfl) (by rfl) (fun _ _ _ _ e h => ⟨e.symm.trans h.1, h.2⟩) trivial ?_
          iterate 3
            refine Heads.step (v := ?_) rfl (by first | (go_simp; done) | rfl) (fun W hW => ?_) ?_
            rotate_left
            · (go_simp; try with_reducible rfl)
          iterate 3
            refine Heads.skip rfl (by first | (go_simp; done) | rfl) ?_
          iterate 2
            refine Heads.step (v := ?_) rfl (by first | (go_simp; done) | rfl) (fun W hW => ?_) ?_
            rotate_left
            · (go_simp; try with_reducible rfl)
          iterate 15
            refine Heads.skip rfl (by first | (go_simp; done) | rfl) ?_
          iterate 2
            refine Heads.step (v := ?_) rfl (by first | (go_simp; done) | rfl) (fun W hW => ?_) ?_
            rotate_left
            · (go_simp; try with_reducible rfl)
          iterate 4
            refine Heads.skip rfl (by first | (go_simp; done) | rfl) ?_
          iterate 2
            refine Heads.step (v := ?_) rfl (by first | (go_simp; done) | rfl) (fun W hW => ?_) ?_
            rotate_left
            · (go_simp; try with_reducible rfl)
          iterate 4
            refine Heads.skip rfl (by first | (go_simp; done) | rfl) ?_
          iterate 2
            refine Heads.step (v := ?_) rfl (by first | (go_simp; done) | rfl) (fun W hW => ?_) ?_
            rotate_left
            · (go_simp; try with_reducible rfl)
          iterate 4
            refine Heads.skip rfl (by first | (go_simp; done) | rfl) ?_
          iterate 1
            refine Heads.step (v := ?_) rfl (by first | (go_simp; done) | rfl) (fun W hW => ?_) ?_
            rotate_left
            · (go_simp; try with_reducible rfl)
          refine AnyZ.done (by kernel_rfl) ?_
          go_simp
          replace HN1 : Hid (SzRt w1.drew b4 0 0 0 0) := HN1
          replace HB1 := Lib.hid HB1.out.drew
          generalize w1.drew = w2 at *
          obtain ⟨⟨c0, c1, c2, c3⟩, cz⟩ := box4 HN1.out
          have cz0 := cz 0
          have cz1 := cz 1
          have cz2 := cz 2
          have cz3 := cz 3
          go_wp2_with fail
          rw [HRN.out]
          exact bodyPost_ret (v := .tuple #[.agg #[.int .i64 0, .int .i64 0, .int .i64 0, .int .i64 0], .bool false]) (outsY rfl rfl (st4_heap HN1.out _ _ _ _)) rfl ⟨rfl, HB1.out.trans ((st4_only w2 b4 (.int .i64 0) (.int .i64 0) (.int .i64 0) (.int .i64 0)).below (fun k _ e => by rw [e, HB4.out]; exact Nat.le_refl _) HB1.out.size)⟩
        | some n =>
          have HRX : Hid (R = hd5 n) := HPT
          obtain ⟨bN, oN, cN, rfl, hbN, hx⟩ := hv
          have hbe : Hid (bN ≠ b4) := Lib.hid (by have := HZA.out; have := HB4.out; omega)
          by_cases h5 : n.length = 5
          · obtain ⟨m, i, la, o, a, rfl⟩ := five_of h5
            have hsm := HSM.out _ rfl
            have hm9 := hsm m (by simp)
            have hi9 := hsm i (by simp)
            have hla9 := hsm la (by simp)
            have ho9 := hsm o (by simp)
            have ha9 := hsm a (by simp)
            have x0 : w1.cell? ⟨bN, oN, none⟩ = some (.int .i64 (m : Nat)) := hx 0 (by simp)
            have x1 : w1.cell? ⟨bN, oN + 1, none⟩ = some (.int .i64 (i : Nat)) := hx 1 (by simp)
            have x2 : w1.cell? ⟨bN, oN + 2, none⟩ = some (.int .i64 (la : Nat)) := hx 2 (by simp)
            have x3 : w1.cell? ⟨bN, oN + 3, none⟩ = some (.int .i64 (o : Nat)) := hx 3 (by simp)
            have x4 : w1.cell? ⟨bN, oN + 4, none⟩ = some (.int .i64 (a : Nat)) := hx 4 (by simp)
            replace HRX : Hid (R = if m = i + la + a ∧ m < 60000 ∧ la ≤ 6000 ∧ o ≤ 60000 then some ⟨i, la, o, a⟩ else none) := HRX
            have ew1 : IntKind.i64.wrap ((i : Int) + (la : Int)) = (i : Int) + (la : Int) := by rw [IntKind.wrap_i64]; omega
            have ew2 : IntKind.i64.wrap ((i : Int) + (la : Int) + (a : Int)) = (i : Int) + (la : Int) + (a : Int) := by rw [IntKind.wrap_i64]; omega
            clear h5 hx hbN hsm
            go_upto_region 4 with (fail)
            by_cases h1 : m = i + la + a
            · have q1 : ((m : Int) != (i : Int) + (la : Int) + (a : Int)) = false := by rw [bne_eq_false_iff_eq]; omega
              have H1 := Lib.hid h1
              clear h1
              by_cases h2 : m < 60000
              · have q2 : ¬ ((60000 : Int) ≤ (m : Int)) := by omega
                by_cases h3 : la ≤ 6000
                · have q3 : ¬ ((6000 : Int) < (la : Int)) := by omega
                  by_cases h4' : o ≤ 60000
                  · have q4 : ¬ ((60000 : Int) < (o : Int)) := by omega
                    have HRN : Hid (R = some ⟨i, la, o, a⟩) := Lib.hid (by rw [HRX.out]; exact if_pos ⟨H1.out, h2, h3, h4'⟩)
                    refine wp_region_z (fun w' => w'.cell? ⟨bN, oN, none⟩ = some (.int .i64 (m : Nat)) ∧ w'.cell? ⟨bN, oN + 1, none⟩ = some (.int .i64 (i : Nat)) ∧ w'.cell? ⟨bN, oN + 2, none⟩ = some (.int .i64 (la : Nat)) ∧ w'.cell? ⟨bN, oN + 3, none⟩ = some (.int .i64 (o : Nat)) ∧ w'.cell? ⟨bN, oN + 4, none⟩ = some (.int .i64 (a : Nat))) [0, 1, 2, 3, 4, 5, 6, 7, 8, 9, 10, 11, 12, 13, 14, 15, 16, 17, 18, 19, 20, 21, 22, 23, 24, 25, 26, 27, 28, 29, 30, 31, 32, 33, 34, 35, 36, 37, 38, 39, 40, 41] [] (by kernel_rfl) (by kernel_rfl) (by kernel_rfl) (by rfl) (fun _ _ _ _ e h => ⟨e.symm.trans h.1, h.2⟩) ⟨x0, x1, x2, x3, x4⟩ ?_
                    iterate 42
                      refine Heads.step (v := ?_) rfl (by first | (go_simp; done) | rfl) (fun W hW => ?_) ?_
                      rotate_left
                      · (obtain ⟨t0, t1, t2, t3, t4⟩ := hW; go_simp; try with_reducible rfl)
                    refine AnyZ.done (by kernel_rfl) ?_
                    go_simp
                    replace HN1 : Hid (SzRt w1.drew b4 0 0 0 0) := HN1
                    replace HB1 := Lib.hid HB1.out.drew
                    replace x1 : w1.drew.cell? ⟨bN, oN + 1, none⟩ = some (.int .i64 (i : Nat)) := x1
                    replace x2 : w1.drew.cell? ⟨bN, oN + 2, none⟩ = some (.int .i64 (la : Nat)) := x2
                    replace x3 : w1.drew.cell? ⟨bN, oN + 3, none⟩ = some (.int .i64 (o : Nat)) := x3
                    replace x4 : w1.drew.cell? ⟨bN, oN + 4, none⟩ = some (.int .i64 (a : Nat)) := x4
                    generalize w1.drew = w2 at *
                    clear q1
                    go_upto_region 6 with (fail)
                    obtain ⟨⟨c0, c1, c2, c3⟩, cz⟩ := box4 HN1.out
                    have cz0 := cz 0
                    have cz1 := cz 1
                    have cz2 := cz 2
                    have cz3 := cz 3
                    refine wp_region_z (fun w' => w'.cell? ⟨bN, oN + 1, none⟩ = some (.int .i64 (i : Nat)) ∧ w'.cell? ⟨bN, oN + 2, none⟩ = some (.int .i64 (la : Nat)) ∧ w'.cell? ⟨bN, oN + 3, none⟩ = some (.int .i64 (o : Nat)) ∧ w'.cell? ⟨bN, oN + 4, none⟩ = some (.int .i64 (a : Nat))) [0, 1, 2, 3, 4, 5, 6, 7, 8, 9, 10, 11, 12] [] (by kernel_rfl) (by kernel_rfl) (by kernel_rfl) (by rfl) (fun _ _ _ _ e h => ⟨e.symm.trans h.1, h.2⟩) ⟨x1, x2, x3, x4⟩ ?_
                    iterate 13
                      refine Heads.step (v := ?_) rfl (by first | (go_simp; done) | rfl) (fun W hW => ?_) ?_
                      rotate_left
                      · (obtain ⟨t0, t1, t2, t3⟩ := hW; go_simp; try with_reducible rfl)
                    refine AnyZ.one (i := 13) (by kernel_rfl) rfl (fun K hK => ?_)
                    go_simp
                    rw [fold4s]
                    have hk := st4_only w2.drew b4 (.int .i64 (i : Int)) (.int .i64 (la : Int)) (.int .i64 (o : Int)) (.int .i64 (a : Int))
                    have HN2 := Lib.hid (st4_heap (show w2.drew.heap[b4]? = _ from HN1.out) (.int .i64 (i : Int)) (.int .i64 (la : Int)) (.int .i64 (o : Int)) (.int .i64 (a : Int)))
                    have HB2 := Lib.hid (HB1.out.drew.trans (hk.below (fun k _ e => by rw [e, HB4.out]; exact Nat.le_refl _) HB1.out.size))
                    have hne := hbe.out
                    have y1 := hk.cell (p := ⟨bN, oN + 1, none⟩) (show w2.drew.cell? ⟨bN, oN + 1, none⟩ = _ from x1) hne
                    have y2 := hk.cell (p := ⟨bN, oN + 2, none⟩) (show w2.drew.cell? ⟨bN, oN + 2, none⟩ = _ from x2) hne
                    have y3 := hk.cell (p := ⟨bN, oN + 3, none⟩) (show w2.drew.cell? ⟨bN, oN + 3, none⟩ = _ from x3) hne
                    have y4 := hk.cell (p := ⟨bN, oN + 4, none⟩) (show w2.drew.cell? ⟨bN, oN + 4, none⟩ = _ from x4) hne
                    refine hK _ _ (fun _ => ⟨y1, y2, y3, y4⟩) ?_
                    clear hK hk hne
                    refine AnyZ.mid [14] [] 0 rfl (by kernel_rfl) (by kernel_rfl) (by kernel_rfl) (fun _ _ _ _ e h => ⟨e.symm.trans h.1, h.2⟩) ⟨y1, y2, y3, y4⟩ ?_
                    iterate 1
                      refine Heads.step (v := ?_) rfl (by first | (go_simp; done) | rfl) (fun W hW => ?_) ?_
                      rotate_left
                      · (obtain ⟨t0, t1, t2, t3⟩ := hW; go_simp; try with_reducible rfl)
                    refine AnyZ.done (by kernel_rfl) ?_
                    go_simp
                    go_wp2_with fail
                    rw [HRN.out]
                    exact bodyPost_ret (v := .tuple #[.agg #[.int .i64 (i : Int), .int .i64 (la : Int), .int .i64 (o : Int), .int .i64 (a : Int)], .bool true]) (outsY rfl rfl HN2.out) rfl ⟨rfl, HB2.out⟩
                  · have q4 : (60000 : Int) < (o : Int) := by omega
                    have HRN : Hid (R = none) := Lib.hid (by rw [HRX.out]; exact if_neg (by omega))
                    refine wp_region_z (fun w' => w'.cell? ⟨bN, oN, none⟩ = some (.int .i64 (m : Nat)) ∧ w'.cell? ⟨bN, oN + 1, none⟩ = some (.int .i64 (i : Nat)) ∧ w'.cell? ⟨bN, oN + 2, none⟩ = some (.int .i64 (la : Nat)) ∧ w'.cell? ⟨bN, oN + 3, none⟩ = some (.int .i64 (o : Nat)) ∧ w'.cell? ⟨bN, oN + 4, none⟩ = some (.int .i64 (a : Nat))) [0, 1, 2, 3, 4, 5, 6, 7, 8, 9, 10, 11, 12, 13, 14, 15, 16, 17, 18, 19, 20, 21, 22, 23, 24, 25, 26, 27, 28, 29, 30, 31, 32, 33, 34, 35, 36, 37, 38, 39, 40, 41] [] (by kernel_rfl) (by kernel_rfl) (by kernel_rfl) (by rfl) (fun _ _ _ _ e h => ⟨e.symm.trans h.1, h.2⟩) ⟨x0, x1, x2, x3, x4⟩ ?_
                    iterate 42
                      refine Heads.step (v := ?_) rfl (by first | (go_simp; done) | rfl) (fun W hW => ?_) ?_
                      rotate_left
                      · (obtain ⟨t0, t1, t2, t3, t4⟩ := hW; go_simp; try with_reducible rfl)
                    refine AnyZ.done (by kernel_rfl) ?_
                    go_simp
                    clear x0 x1 x2 x3 x4
                    replace HN1 : Hid (SzRt w1.drew b4 0 0 0 0) := HN1
                    replace HB1 := Lib.hid HB1.out.drew
                    generalize w1.drew = w2 at *
                    obtain ⟨⟨c0, c1, c2, c3⟩, cz⟩ := box4 HN1.out
                    have cz0 := cz 0
                    have cz1 := cz 1
                    have cz2 := cz 2
                    have cz3 := cz 3
                    go_wp2_with fail
                    rw [HRN.out]
                    exact bodyPost_ret (v := .tuple #[.agg #[.int .i64 0, .int .i64 0, .int .i64 0, .int .i64 0], .bool false]) (outsY rfl rfl (st4_heap HN1.out _ _ _ _)) rfl ⟨rfl, HB1.out.trans ((st4_only w2 b4 (.int .i64 0) (.int .i64 0) (.int .i64 0) (.int .i64 0)).below (fun k _ e => by rw [e, HB4.out]; exact Nat.le_refl _) HB1.out.size)⟩
                · have q3 : (6000 : Int) < (la : Int) := by omega
                  have HRN : Hid (R = none) := Lib.hid (by rw [HRX.out]; exact if_neg (by omega))
                  refine wp_region_z (fun w' => w'.cell? ⟨bN, oN, none⟩ = some (.int .i64 (m : Nat)) ∧ w'.cell? ⟨bN, oN + 1, none⟩ = some (.int .i64 (i : Nat)) ∧ w'.cell? ⟨bN, oN + 2, none⟩ = some (.int .i64 (la : Nat)) ∧ w'.cell? ⟨bN, oN + 3, none⟩ = some (.int .i64 (o : Nat)) ∧ w'.cell? ⟨bN, oN + 4, none⟩ = some (.int .i64 (a : Nat))) [0, 1, 2, 3, 4, 5, 6, 7, 8, 9, 10, 11, 12, 13, 14, 15, 16, 17, 18, 19, 20, 21, 22, 23, 24, 25, 26, 27, 28, 29, 30, 31, 32, 33, 34, 35, 36, 37, 38, 39, 40, 41] [] (by kernel_rfl) (by kernel_rfl) (by kernel_rfl) (by rfl) (fun _ _ _ _ e h => ⟨e.symm.trans h.1, h.2⟩) ⟨x0, x1, x2, x3, x4⟩ ?_
                  iterate 23
                    refine Heads.step (v := ?_) rfl (by first | (go_simp; done) | rfl) (fun W hW => ?_) ?_
                    rotate_left
                    · (obtain ⟨t0, t1, t2, t3, t4⟩ := hW; go_simp; try with_reducible rfl)
                  iterate 2
                    refine Heads.step (v := ?_) rfl (by first | (go_simp; done) | rfl) (fun W hW => ?_) ?_
                    rotate_left
                    · (obtain ⟨t0, t1, t2, t3, t4⟩ := hW; go_simp; try with_reducible rfl)
                  iterate 4
                    refine Heads.step (v := ?_) rfl (by first | (go_simp; done) | rfl) (fun W hW => ?_) ?_
                    rotate_left
                    · (obtain ⟨t0, t1, t2, t3, t4⟩ := hW; go_simp; try with_reducible rfl)
                  iterate 2
                    refine Heads.step (v := ?_) rfl (by first | (go_simp; done) | rfl) (fun W hW => ?_) ?_
                    rotate_left
                    · (obtain ⟨t0, t1, t2, t3, t4⟩ := hW; go_simp; try with_reducible rfl)
                  iterate 4
                    refine Heads.step (v := ?_) rfl (by first | (go_simp; done) | rfl) (fun W hW => ?_) ?_
                    rotate_left
                    · (obtain ⟨t0, t1, t2, t3, t4⟩ := hW; go_simp; try with_reducible rfl)
                  iterate 2
                    refine Heads.step (v := ?_) rfl (by first | (go_simp; done) | rfl) (fun W hW => ?_) ?_
                    rotate_left
                    · (obtain ⟨t0, t1, t2, t3, t4⟩ := hW; go_simp; try with_reducible rfl)
                  iterate 4
                    refine Heads.skip rfl (by first | (go_simp; done) | rfl) ?_
                  iterate 1
                    refine Heads.step (v := ?_) rfl (by first | (go_simp; done) | rfl) (fun W hW => ?_) ?_
                    rotate_left
                    · (obtain ⟨t0, t1, t2, t3, t4⟩ := hW; go_simp; try with_reducible rfl)
                  refine AnyZ.done (by kernel_rfl) ?_
                  go_simp
                  clear x0 x1 x2 x3 x4
                  replace HN1 : Hid (SzRt w1.drew b4 0 0 0 0) := HN1
                  replace HB1 := Lib.hid HB1.out.drew
                  generalize w1.drew = w2 at *
                  obtain ⟨⟨c0, c1, c2, c3⟩, cz⟩ := box4 HN1.out
                  have cz0 := cz 0
                  have cz1 := cz 1
                  have cz2 := cz 2
                  have cz3 := cz 3
                  go_wp2_with fail
                  rw [HRN.out]
                  exact bodyPost_ret (v := .tuple #[.agg #[.int .i64 0, .int .i64 0, .int .i64 0, .int .i64 0], .bool false]) (outsY rfl rfl (st4_heap HN1.out _ _ _ _)) rfl ⟨rfl, HB1.out.trans ((st4_only w2 b4 (.int .i64 0) (.int .i64 0) (.int .i64 0) (.int .i64 0)).below (fun k _ e => by rw [e, HB4.out]; exact Nat.le_refl _) HB1.out.size)⟩
              · have q2 : (60000 : Int) ≤ (m : Int) := by omega
                have HRN : Hid (R = none) := Lib.hid (by rw [HRX.out]; exact if_neg (by omega))
                refine wp_region_z (fun w' => w'.cell? ⟨bN, oN, none⟩ = some (.int .i64 (m : Nat)) ∧ w'.cell? ⟨bN, oN + 1, none⟩ = some (.int .i64 (i : Nat)) ∧ w'.cell? ⟨bN, oN + 2, none⟩ = some (.int .i64 (la : Nat)) ∧ w'.cell? ⟨bN, oN + 3, none⟩ = some (.int .i64 (o : Nat)) ∧ w'.cell? ⟨bN, oN + 4, none⟩ = some (.int .i64 (a : Nat))) [0, 1, 2, 3, 4, 5, 6, 7, 8, 9, 10, 11, 12, 13, 14, 15, 16, 17, 18, 19, 20, 21, 22, 23, 24, 25, 26, 27, 28, 29, 30, 31, 32, 33, 34, 35, 36, 37, 38, 39, 40, 41] [] (by kernel_rfl) (by kernel_rfl) (by kernel_rfl) (by rfl) (fun _ _ _ _ e h => ⟨e.symm.trans h.1, h.2⟩) ⟨x0, x1, x2, x3, x4⟩ ?_
                iterate 23
                  refine Heads.step (v := ?_) rfl (by first | (go_simp; done) | rfl) (fun W hW => ?_) ?_
                  rotate_left
                  · (obtain ⟨t0, t1, t2, t3, t4⟩ := hW; go_simp; try with_reducible rfl)
                iterate 2
                  refine Heads.step (v := ?_) rfl (by first | (go_simp; done) | rfl) (fun W hW => ?_) ?_
                  rotate_left
                  · (obtain ⟨t0, t1, t2, t3, t4⟩ := hW; go_simp; try with_reducible rfl)
                iterate 4
                  refine Heads.step (v := ?_) rfl (by first | (go_simp; done) | rfl) (fun W hW => ?_) ?_
                  rotate_left
                  · (obtain ⟨t0, t1, t2, t3, t4⟩ := hW; go_simp; try with_reducible rfl)
                iterate 2
                  refine Heads.step (v := ?_) rfl (by first | (go_simp; done) | rfl) (fun W hW => ?_) ?_
                  rotate_left
                  · (obtain ⟨t0, t1, t2, t3, t4⟩ := hW; go_simp; try with_reducible rfl)
                iterate 4
                  refine Heads.skip rfl (by first | (go_simp; done) | rfl) ?_
                iterate 2
                  refine Heads.step (v := ?_) rfl (by first | (go_simp; done) | rfl) (fun W hW => ?_) ?_
                  rotate_left
                  · (obtain ⟨t0, t1, t2, t3, t4⟩ := hW; go_simp; try with_reducible rfl)
                iterate 4
                  refine Heads.skip rfl (by first | (go_simp; done) | rfl) ?_
                iterate 1
                  refine Heads.step (v := ?_) rfl (by first | (go_simp; done) | rfl) (fun W hW => ?_) ?_
                  rotate_left
                  · (obtain ⟨t0, t1, t2, t3, t4⟩ := hW; go_simp; try with_reducible rfl)
                refine AnyZ.done (by kernel_rfl) ?_
                go_simp
                clear x0 x1 x2 x3 x4
                replace HN1 : Hid (SzRt w1.drew b4 0 0 0 0) := HN1
                replace HB1 := Lib.hid HB1.out.drew
                generalize w1.drew = w2 at *
                obtain ⟨⟨c0, c1, c2, c3⟩, cz⟩ := box4 HN1.out
                have cz0 := cz 0
                have cz1 := cz 1
                have cz2 := cz 2
                have cz3 := cz 3
                go_wp2_with fail
                rw [HRN.out]
                exact bodyPost_ret (v := .tuple #[.agg #[.int .i64 0, .int .i64 0, .int .i64 0, .int .i64 0], .bool false]) (outsY rfl rfl (st4_heap HN1.out _ _ _ _)) rfl ⟨rfl, HB1.out.trans ((st4_only w2 b4 (.int .i64 0) (.int .i64 0) (.int .i64 0) (.int .i64 0)).below (fun k _ e => by rw [e, HB4.out]; exact Nat.le_refl _) HB1.out.size)⟩
            · have q1 : ((m : Int) != (i : Int) + (la : Int) + (a : Int)) = true := by rw [bne_iff_ne]; omega
              have HRN : Hid (R = none) := Lib.hid (by rw [HRX.out]; exact if_neg (by omega))
              refine wp_region_z (fun w' => w'.cell? ⟨bN, oN, none⟩ = some (.int .i64 (m : Nat)) ∧ w'.cell? ⟨bN, oN + 1, none⟩ = some (.int .i64 (i : Nat)) ∧ w'.cell? ⟨bN, oN + 2, none⟩ = some (.int .i64 (la : Nat)) ∧ w'.cell? ⟨bN, oN + 3, none⟩ = some (.int .i64 (o : Nat)) ∧ w'.cell? ⟨bN, oN + 4, none⟩ = some (.int .i64 (a : Nat))) [0, 1, 2, 3, 4, 5, 6, 7, 8, 9, 10, 11, 12, 13, 14, 15, 16, 17, 18, 19, 20, 21, 22, 23, 24, 25, 26, 27, 28, 29, 30, 31, 32, 33, 34, 35, 36, 37, 38, 39, 40, 41] [] (by kernel_rfl) (by kernel_rfl) (by kernel_rfl) (by rfl) (fun _ _ _ _ e h => ⟨e.symm.trans h.1, h.2⟩) ⟨x0, x1, x2, x3, x4⟩ ?_
              iterate 23
                refine Heads.step (v := ?_) rfl (by first | (go_simp; done) | rfl) (fun W hW => ?_) ?_
                rotate_left
                · (obtain ⟨t0, t1, t2, t3, t4⟩ := hW; go_simp; try with_reducible rfl)
              iterate 2
                refine Heads.step (v := ?_) rfl (by first | (go_simp; done) | rfl) (fun W hW => ?_) ?_
                rotate_left
                · (obtain ⟨t0, t1, t2, t3, t4⟩ := hW; go_simp; try with_reducible rfl)
              iterate 4
                refine Heads.skip rfl (by first | (go_simp; done) | rfl) ?_
              iterate 2
                refine Heads.step (v := ?_) rfl (by first | (go_simp; done) | rfl) (fun W hW => ?_) ?_
                rotate_left
                · (obtain ⟨t0, t1, t2, t3, t4⟩ := hW; go_simp; try with_reducible rfl)
              iterate 4
                refine Heads.skip rfl (by first | (go_simp; done) | rfl) ?_
              iterate 2
                refine Heads.step (v := ?_) rfl (by first | (go_simp; done) | rfl) (fun W hW => ?_) ?_
                rotate_left
                · (obtain ⟨t0, t1, t2, t3, t4⟩ := hW; go_simp; try with_reducible rfl)
              iterate 4
                refine Heads.skip rfl (by first | (go_simp; done) | rfl) ?_
              iterate 1
                refine Heads.step (v := ?_) rfl (by first | (go_simp; done) | rfl) (fun W hW => ?_) ?_
                rotate_left
                · (obtain ⟨t0, t1, t2, t3, t4⟩ := hW; go_simp; try with_reducible rfl)
              refine AnyZ.done (by kernel_rfl) ?_
              go_simp
              clear x0 x1 x2 x3 x4
              replace HN1 : Hid (SzRt w1.drew b4 0 0 0 0) := HN1
              replace HB1 := Lib.hid HB1.out.drew
              generalize w1.drew = w2 at *
              obtain ⟨⟨c0, c1, c2, c3⟩, cz⟩ := box4 HN1.out
              have cz0 := cz 0
              have cz1 := cz 1
              have cz2 := cz 2
              have cz3 := cz 3
              go_wp2_with fail
              rw [HRN.out]
              exact bodyPost_ret (v := .tuple #[.agg #[.int .i64 0, .int .i64 0, .int .i64 0, .int .i64 0], .bool false]) (outsY rfl rfl (st4_heap HN1.out _ _ _ _)) rfl ⟨rfl, HB1.out.trans ((st4_only w2 b4 (.int .i64 0) (.int .i64 0) (.int .i64 0) (.int .i64 0)).below (fun k _ e => by rw [e, HB4.out]; exact Nat.le_refl _) HB1.out.size)⟩
          · have HRN : Hid (R = none) := Lib.hid (by rw [HRX.out]; exact hd5_not h5)
            have q5 : ((n.length : Int) != 5) = true := by rw [bne_iff_ne]; omega
            clear h5 hx hbN
            go_upto_region 4 with (fail)
            refine wp_region_z (fun w' => True) [0, 1, 2, 3, 4, 5, 6, 7, 8, 9, 10, 11, 12, 13, 14, 15, 16, 17, 18, 19, 20, 21, 22, 23, 24, 25, 26, 27, 28, 29, 30, 31, 32, 33, 34, 35, 36, 37, 38, 39, 40, 41] [] (by kernel_rfl) (by kernel_rfl) (by kernel_rfl) (by rfl) (fun _ _ _ _ e h => ⟨e.symm.trans h.1, h.2⟩) trivial ?_
            iterate 8
              refine Heads.step (v := ?_) rfl (by first | (go_simp; done) | rfl) (fun W hW => ?_) ?_
              rotate_left
              · (go_simp; try with_reducible rfl)
            iterate 15
              refine Heads.skip rfl (by first | (go_simp; done) | rfl) ?_
            iterate 2
              refine Heads.step (v := ?_) rfl (by first | (go_simp; done) | rfl) (fun W hW => ?_) ?_
              rotate_left
              · (go_simp; try with_reducible rfl)
            iterate 4
              refine Heads.skip rfl (by first | (go_simp; done) | rfl) ?_
            iterate 2
              refine Heads.step (v := ?_) rfl (by first | (go_simp; done) | rfl) (fun W hW => ?_) ?_
              rotate_left
              · (go_simp; try with_reducible rfl)
            iterate 4
              refine Heads.skip rfl (by first | (go_simp; done) | rfl) ?_
            iterate 2
              refine Heads.step (v := ?_) rfl (by first | (go_simp; done) | rfl) (fun W hW => ?_) ?_
              rotate_left
              · (go_simp; try with_reducible rfl)
            iterate 4
              refine Heads.skip rfl (by first | (go_simp; done) | rfl) ?_
            iterate 1
              refine Heads.step (v := ?_) rfl (by first | (go_simp; done) | rfl) (fun W hW => ?_) ?_
              rotate_left
              · (go_simp; try with_reducible rfl)
            refine AnyZ.done (by kernel_rfl) ?_
            go_simp
            replace HN1 : Hid (SzRt w1.drew b4 0 0 0 0) := HN1
            replace HB1 := Lib.hid HB1.out.drew
            generalize w1.drew = w2 at *
            obtain ⟨⟨c0, c1, c2, c3⟩, cz⟩ := box4 HN1.out
            have cz0 := cz 0
            have cz1 := cz 1
            have cz2 := cz 2
            have cz3 := cz 3
            go_wp2_with fail
            rw [HRN.out]
            exact bodyPost_ret (v := .tuple #[.agg #[.int .i64 0, .int .i64 0, .int .i64 0, .int .i64 0], .bool false]) (outsY rfl rfl (st4_heap HN1.out _ _ _ _)) rfl ⟨rfl, HB1.out.trans ((st4_only w2 b4 (.int .i64 0) (.int .i64 0) (.int .i64 0) (.int .i64 0)).below (fun k _ e => by rw [e, HB4.out]; exact Nat.le_refl _) HB1.out.size)⟩
      · have q1 : ((v3.toNat : Int) != 32) = true := by
          rw [bne_iff_ne]; intro e
          exact h32 (UInt8.toNat_inj.1 (by rw [show (32 : UInt8).toNat = 32 from rfl]; omega))
        have HRN : Hid (R = none) := Lib.hid (HPN.out (by rw [HPV.out]; simp [beq_eq_false_iff_ne]; exact fun h => h32 h.symm))
        clear h32
        obtain ⟨⟨c0, c1, c2, c3⟩, cz⟩ := box4 HN1.out
        have cz0 := cz 0
        have cz1 := cz 1
        have cz2 := cz 2
        have cz3 := cz 3
        go_wp2_with fail
        rw [HRN.out]
        exact bodyPost_ret (v := .tuple #[.agg #[.int .i64 0, .int .i64 0, .int .i64 0, .int .i64 0], .bool false]) (outsY rfl rfl (st4_heap HN1.out _ _ _ _)) rfl ⟨rfl, HBA.out.trans ((st4_only wa b4 (.int .i64 0) (.int .i64 0) (.int .i64 0) (.int .i64 0)).below (fun k _ e => by rw [e, HB4.out]; exact Nat.le_refl _) HBA.out.size)⟩
end Go.Proofs.YtngjbiipgbeemaaDoor
