/- aiger's (*cursor).graph: its closure row, walked. Conditions: the text is shorter than 1000000000 bytes; internal/bytealg.MaxLen holds a number. -/
import Derived.Test.YtngjbiipgbeemaaDoorTlA
namespace Go.Proofs.YtngjbiipgbeemaaDoor
open Go.RowKit Go.Shelf Go.Deep

/-- the row that comes next: its numbers, if they are so many (and begin with own + 2, if starts) -/
def rowQ (L : List (List UInt8)) (a b : Nat) (st : Bool) (own : Nat) : Option (List Nat) := match L with
  | [] => none
  | l :: _ => match numQ l a b with
    | none => none
    | some n => if st = true ∧ n.getD 0 0 ≠ own + 2 then none else some n
theorem rowQ_nil {a b own : Nat} {st : Bool} : rowQ [] a b st own = none := rfl
theorem rowQ_none {l : List UInt8} {L : List (List UInt8)} {a b own : Nat} {st : Bool} (h : numQ l a b = none) : rowQ (l :: L) a b st own = none := by simp [rowQ, h]
theorem rowQ_some {l : List UInt8} {L : List (List UInt8)} {a b own : Nat} {st : Bool} {n : List Nat} (h : numQ l a b = some n) : rowQ (l :: L) a b st own = if st = true ∧ n.getD 0 0 ≠ own + 2 then none else some n := by simp only [rowQ, h]
structure RowB (w : World) (bp bo bc : Nat) (own : Nat) : Prop where
  p : w.heap[bp]? = some (.cells #[.pointer (some ⟨bc, 0, none⟩)] 53)
  o : w.heap[bo]? = some (.cells #[.int .i64 (own : Int)] 3)
/-- what row tells -/
def RowOut (w w' : World) (bo bc : Nat) (rest : List UInt8) (n a b : Nat) (st : Bool) (own : Nat) (e : Ending) : Prop :=
  ∃ v rest', e = .returned v ∧ NumV w' w.heap.size (rowQ (linA rest []) a b st own) v ∧ CurAt w' bc rest' (n + 1) ∧
    ∀ ns, rowQ (linA rest []) a b st own = some ns → (∃ l, linA rest [] = l :: linA rest' []) ∧ tlA rest [] = tlA rest' [] ∧ rest'.length ≤ rest.length ∧ w'.heap[bo]? = some (.cells #[.int .i64 (((if st = true then own + 2 else own) : Nat) : Int)] 3)
theorem numQ_pos {l : List UInt8} {a b : Nat} {n : List Nat} (h : numQ l a b = some n) : 1 ≤ n.length ∧ (∀ x ∈ n, x < 1000000000) ∧ a ≤ n.length ∧ n.length ≤ b := by
  unfold numQ at h
  split at h
  · rename_i k hk
    have hs := numsB_small hk
    split at h
    · rename_i hl
      injection h with h
      subst h
      exact ⟨hs.1, hs.2.2, hl.1, hl.2⟩
    · cases h
  · cases h

set_option maxRecDepth 100000 in
set_option maxHeartbeats 8000000 in
theorem row_any (a b : Nat) (st : Bool) (bp bo bc n own : Nat) (rest : List UInt8) (w : World) (hB : RowB w bp bo bc own) (hc : CurAt w bc rest n) (hm : MaxT w) (hl : rest.length ≤ 1000000000) (hn : n ≤ 2000000000) (ho : own ≤ 2000000000) :
    Calls Tryd.prog 37 #[.int .i64 (a : Int), .int .i64 (b : Int), .bool st, .pointer (some ⟨bp, 0, none⟩), .pointer (some ⟨bo, 0, none⟩)] w fun e w' => RowOut w w' bo bc rest n a b st own e ∧ Only (fun k => k = bc ∨ k = bo) w w' := by
  have hnb : ¬ bp = bc := ne_type hB.p hc (by decide)
  have hnob : ¬ bo = bc := ne_type hB.o hc (by decide)
  have H1 := Lib.hid (hc.no1 hm)
  have hli := line_any bc n rest w hc hm hl (by omega)
  have HB := Lib.hid hB; have HM := Lib.hid hm
  have hp0 := (box1 hB.p).1
  clear hB hc hm
  go_enter Tryd.func37, Tryd.ntmps37
  go_wp2_with fail
  refine hli.mono ?_
  rintro e w1 ⟨h, hO1⟩
  have HO1 := Lib.hid (hO1.mono (S' := fun k => k = bc ∨ k = bo) (fun _ _ h => .inl h))
  have HB1 : Hid (RowB w1 bp bo bc own) := Lib.hid ⟨hO1.heap HB.out.p hnb, hO1.heap HB.out.o hnob⟩
  have HM1 := Lib.hid (HM.out.only hO1 (fun e => H1.out e.symm))
  have HZ1 := Lib.hid hO1.size
  clear hli hp0 hO1
  rcases h with ⟨e1, e2, rfl, hc2⟩ | ⟨l1, l2, rfl, e1, e2, rfl, hc2⟩
  · have HRQ : Hid (rowQ (linA rest []) a b st own = none) := Lib.hid (by rw [e1]; rfl)
    have HC2 := Lib.hid hc2
    have hnu := numbers_any [] a b w1 (by simp) HM1.out
    rw [show bstr [] = ⟨#[]⟩ from rfl] at hnu
    clear e1 e2 hc2
    go_wp2_with fail
    refine hnu.mono ?_
    rintro e w2 ⟨⟨v, rfl, hv⟩, hb2⟩
    have HC3 : Hid (CurAt w2 bc rest (n + 1)) := Lib.hid (heap_below hb2 HC2.out)
    have HO2 := Lib.hid (HO1.out.call hb2)
    clear hnu hv hb2
    go_wp2_with fail
    go_ret
    exact ⟨⟨_, rest, rfl, by rw [HRQ.out]; rfl, HC3.out, fun ns h => by rw [HRQ.out] at h; cases h⟩, HO2.out⟩
  · have HC2 := Lib.hid hc2
    have HE := Lib.hid (And.intro e1 e2)
    have hl12 : l1.length ≤ 1000000000 ∧ l2.length ≤ (l1 ++ 10 :: l2).length := by simp only [List.length_append, List.length_cons] at hl ⊢; omega
    have hnu := numbers_any l1 a b w1 hl12.1 HM1.out
    have HL2 := Lib.hid hl12.2
    obtain ⟨s1, hs1⟩ : ∃ s, s = bstr l1 := ⟨_, rfl⟩
    rw [← hs1] at hnu ⊢
    clear e1 e2 hc2 hs1 hl12 hl
    go_wp2_with fail
    refine hnu.mono ?_
    rintro e w2 ⟨⟨v, rfl, hv⟩, hb2⟩
    have HC3 : Hid (CurAt w2 bc l2 (n + 1)) := Lib.hid (heap_below hb2 HC2.out)
    have HB2 : Hid (RowB w2 bp bo bc own) := Lib.hid ⟨heap_below hb2 HB1.out.p, heap_below hb2 HB1.out.o⟩
    have HO2 := Lib.hid (HO1.out.call hb2)
    have HZ2 : Hid (w.heap.size ≤ w2.heap.size) := Lib.hid (Nat.le_trans HZ1.out hb2.size)
    clear hnu hb2
    obtain ⟨Q, hQ⟩ : ∃ Q, Q = numQ l1 a b := ⟨_, rfl⟩
    rw [← hQ] at hv
    cases Q with
    | none =>
      obtain rfl : v = .slice none 0 0 := hv
      have HRQ : Hid (rowQ (linA (l1 ++ 10 :: l2) []) a b st own = none) := Lib.hid (by rw [HE.out.1]; exact rowQ_none hQ.symm)
      clear hQ
      go_wp2_with fail
      go_ret
      exact ⟨⟨_, l2, rfl, by rw [HRQ.out]; rfl, HC3.out, fun ns h => by rw [HRQ.out] at h; cases h⟩, HO2.out⟩
    | some ns =>
      obtain ⟨bN, oN, cN, rfl, hbN, hx⟩ := hv
      have hbN2 : w.heap.size ≤ bN := Nat.le_trans HZ1.out hbN
      have HRQ : Hid (rowQ (linA (l1 ++ 10 :: l2) []) a b st own = if st = true ∧ ns.getD 0 0 ≠ own + 2 then none else some ns) := Lib.hid (by rw [HE.out.1]; exact rowQ_some hQ.symm)
      have hpos := (numQ_pos hQ.symm).1
      have HNV : Hid (NumV w2 w.heap.size (some ns) (.slice (some ⟨bN, oN, none⟩) ns.length cN)) := Lib.hid ⟨bN, oN, cN, rfl, hbN2, hx⟩
      have HX := Lib.hid hx
      have x0 : w2.cell? ⟨bN, oN, none⟩ = some (.int .i64 ((ns.getD 0 0 : Nat) : Int)) := hx 0 hpos
      obtain ⟨y, hy⟩ : ∃ y, y = ns.getD 0 0 := ⟨_, rfl⟩
      rw [← hy] at x0 HRQ
      have hnsp : ns.length ≠ 0 := by omega
      have hp0 : 0 < ns.length := by omega
      clear hQ hx hbN hy
      cases st with
      | false =>
        have HR2 : Hid (rowQ (linA (l1 ++ 10 :: l2) []) a b false own = some ns) := Lib.hid (by rw [HRQ.out]; exact if_neg (by simp))
        go_wp2_with fail
        go_ret
        exact ⟨⟨_, l2, rfl, by rw [HR2.out]; exact HNV.out, HC3.out, fun ns' _ => ⟨⟨l1, HE.out.1⟩, HE.out.2, HL2.out, HB2.out.o⟩⟩, HO2.out⟩
      | true =>
        obtain ⟨o0, oz⟩ := box1 HB2.out.o
        have oz0 := oz 0
        have hneo : ¬ bN = bo := by have := (Array.getElem?_eq_some_iff.1 HB.out.o).1; omega
        have hneo2 : ¬ bo = bN := fun e => hneo e.symm
        have hk := Only.setCell (p := ⟨bo, 0, none⟩) (Only.refl (fun k => k = bo) w2) (fun _ => rfl) (.int .i64 ((own : Int) + 2))
        have HX3 : Hid (∀ k, k < ns.length → (w2.setCell ⟨bo, 0, none⟩ (.int .i64 ((own : Int) + 2))).cell? ⟨bN, oN + k, none⟩ = some (.int .i64 ((ns.getD k 0 : Nat) : Int))) := Lib.hid (fun k hk' => hk.cell (HX.out k hk') hneo)
        have HC4 : Hid (CurAt (w2.setCell ⟨bo, 0, none⟩ (.int .i64 ((own : Int) + 2))) bc l2 (n + 1)) := Lib.hid (hk.heap HC3.out (fun e => hnob e.symm))
        have HO4 := Lib.hid (HO2.out.then_ hk (fun _ _ h => .inr h))
        have HW4 := Lib.hid (set_box HB2.out.o (.int .i64 ((own : Int) + 2)))
        have x4 := hk.cell (p := ⟨bN, oN, none⟩) x0 hneo
        clear oz hk
        go_upto_region 7 with (fail)
        clear oz0 o0 x0
        generalize w2.setCell ⟨bo, 0, none⟩ (.int .i64 ((own : Int) + 2)) = w4 at *
        have o4 := (box1 HW4.out).1
        by_cases hyo : y = own + 2
        · have HR2 : Hid (rowQ (linA (l1 ++ 10 :: l2) []) a b true own = some ns) := Lib.hid (by rw [HRQ.out]; exact if_neg (by simp [hyo]))
          have q1 : ((y : Int) != (own : Int) + 2) = false := by rw [bne_eq_false_iff_eq]; omega
          refine wp_region_z (fun w' => w'.cell? ⟨bN, oN, none⟩ = some (.int .i64 (y : Nat)) ∧ w'.cell? ⟨bo, 0, none⟩ = some (.int .i64 ((own : Int) + 2))) [0, 1, 2, 3, 4] [] (by kernel_rfl) (by kernel_rfl) (by kernel_rfl) (by rfl) (fun _ _ _ _ e h => ⟨e.symm.trans h.1, h.2⟩) ⟨x4, o4⟩ ?_
          iterate 5
            refine Heads.step (v := ?_) rfl (by first | (go_simp; done) | rfl) (fun W hW => ?_) ?_
            rotate_left
            · (obtain ⟨t0, t1⟩ := hW; go_simp; try with_reducible rfl)
          refine AnyZ.done (by kernel_rfl) ?_
          go_simp
          go_wp2_with fail
          go_ret
          exact ⟨⟨_, l2, rfl, by rw [HR2.out]; exact ⟨bN, oN, cN, rfl, hbN2, HX3.out⟩, HC4.out, fun ns' _ => ⟨⟨l1, HE.out.1⟩, HE.out.2, HL2.out, HW4.out⟩⟩, HO4.out.drew⟩
        · have HR2 : Hid (rowQ (linA (l1 ++ 10 :: l2) []) a b true own = none) := Lib.hid (by rw [HRQ.out]; exact if_pos (by simp [hyo]))
          have q1 : ((y : Int) != (own : Int) + 2) = true := by rw [bne_iff_ne]; omega
          refine wp_region_z (fun w' => w'.cell? ⟨bN, oN, none⟩ = some (.int .i64 (y : Nat)) ∧ w'.cell? ⟨bo, 0, none⟩ = some (.int .i64 ((own : Int) + 2))) [0, 1, 2, 3, 4] [] (by kernel_rfl) (by kernel_rfl) (by kernel_rfl) (by rfl) (fun _ _ _ _ e h => ⟨e.symm.trans h.1, h.2⟩) ⟨x4, o4⟩ ?_
          iterate 5
            refine Heads.step (v := ?_) rfl (by first | (go_simp; done) | rfl) (fun W hW => ?_) ?_
            rotate_left
            · (obtain ⟨t0, t1⟩ := hW; go_simp; try with_reducible rfl)
          refine AnyZ.done (by kernel_rfl) ?_
          go_simp
          go_wp2_with fail
          go_ret
          exact ⟨⟨_, l2, rfl, by rw [HR2.out]; rfl, HC4.out, fun ns h => by rw [HR2.out] at h; cases h⟩, HO4.out.drew⟩
end Go.Proofs.YtngjbiipgbeemaaDoor
