/- aiger.numbers, walked: a line's numbers, or nil. Condition: the text is shorter than 1000000000 bytes; internal/bytealg.MaxLen holds a number. -/
import Derived.Test.YtngjbiipgbeemaaDoorNuA
import Derived.Test.YtngjbiipgbeemaaDoorAgB
import Derived.Test.YtngjbiipgbeemaaDoorShelfG
namespace Go.Proofs.YtngjbiipgbeemaaDoor
open Go.RowKit Go.Shelf Go.Deep

def MaxT (w : World) : Prop := ∃ m : Int, w.cell? ⟨1, 0, none⟩ = some (.int .i64 m)
theorem MaxT.keeps {w w1 : World} (h : MaxT w) (k : Keeps w w1) : MaxT w1 := by obtain ⟨m, hm⟩ := h; exact ⟨m, k _ _ hm⟩
theorem MaxT.below {w w1 : World} (h : MaxT w) (k : Below w.heap.size w w1) : MaxT w1 := h.keeps (Keeps.of_below k)
/-- the numbers, if they are so many -/
def numQ (l : List UInt8) (a b : Nat) : Option (List Nat) := match numsB l with
  | some n => if a ≤ n.length ∧ n.length ≤ b then some n else none
  | none => none
/-- .. as they lie -/
def NumV (w : World) (base : Nat) (r : Option (List Nat)) (v : Value) : Prop := match r with
  | none => v = .slice none 0 0
  | some n => ∃ b off c, v = .slice (some ⟨b, off, none⟩) n.length c ∧ base ≤ b ∧ ∀ k, k < n.length → w.cell? ⟨b, off + k, none⟩ = some (.int .i64 ((n.getD k 0 : Nat) : Int))
def nvl (n : List Nat) (k : Nat) : Value := .int .i64 ((n.getD k 0 : Nat) : Int)
theorem getD_snoc_lt {α : Type} {cs : List α} {c d : α} {i : Nat} (h : i < cs.length) : (cs ++ [c]).getD i d = cs.getD i d := by
  rw [List.getD_eq_getElem?_getD, List.getElem?_append_left h, ← List.getD_eq_getElem?_getD]
theorem nvl_more (n : List Nat) (x : Nat) : ((List.range n.length).map (nvl n)) ++ [.int .i64 (x : Int)] = (List.range (n ++ [x]).length).map (nvl (n ++ [x])) := by
  rw [List.length_append]
  show _ = List.map _ (List.range (n.length + 1))
  rw [List.range_succ, List.map_append, List.map_congr_left (g := nvl (n ++ [x])) (fun k hk => by
    unfold nvl
    rw [getD_snoc_lt (List.mem_range.1 hk)])]
  simp [nvl]
theorem elIn : Elem Tryd.prog 26 3 1 8 := elem_mk Tryd.underlying26 (z := .int .i64 0) (by kernel_rfl) rfl (by omega) (by omega)
theorem numV_own {w : World} {z c : Nat} {n : List Nat} {A : Option Addr} (h : w.ownsRow z 3 1 (.slice A n.length c) n.length ((List.range n.length).map (nvl n))) (hn : 1 ≤ n.length) : NumV w z (some n) (.slice A n.length c) := by
  obtain ⟨b, off, rfl, hc⟩ := own_row1 h (by omega)
  refine ⟨b, off, c, rfl, own_base h b ⟨_, rfl, rfl⟩, fun k hk => ?_⟩
  rw [hc k hk]
  simp [hk, nvl]
theorem NumV.keeps {w w1 : World} {base : Nat} {r : Option (List Nat)} {v : Value} (h : NumV w base r v) (k : Keeps w w1) : NumV w1 base r v := by
  cases r with
  | none => exact h
  | some n =>
    obtain ⟨b, off, c, h1, h2, h3⟩ := h
    exact ⟨b, off, c, h1, h2, fun j hj => k _ _ (h3 j hj)⟩
@[go_sem] theorem eq_nilS (A : Option Addr) (l c : Nat) (w : World) : (binOp .eql 26 (.slice A l c) (.slice none 0 0)).run Tryd.prog w = .ok (.bool A.isNone) w := by
  simp [binOp, run_equal_slice_nil w 26 3 A l c Tryd.underlying26, Result.andThen]
theorem drop_getD {P : List (List UInt8)} {i : Nat} (h : i < P.length) : P.drop i = P.getD i [] :: P.drop (i + 1) := by
  rw [List.drop_eq_getElem_cons h, List.getD_eq_getElem?_getD, List.getElem?_eq_getElem h]; rfl

set_option maxRecDepth 100000 in
set_option maxHeartbeats 8000000 in
theorem numbers_any (l : List UInt8) (a b : Nat) (w : World) (hl : l.length ≤ 1000000000) (hm : MaxT w) :
    Calls Tryd.prog 38 #[.string (bstr l), .int .i64 (a : Int), .int .i64 (b : Int)] w fun e w' => (∃ v, e = .returned v ∧ NumV w' w.heap.size (numQ l a b) v) ∧ Below w.heap.size w w' := by
  obtain ⟨P, hP⟩ : ∃ P, P = splA l [] := ⟨_, rfl⟩
  have hPl : 1 ≤ P.length ∧ P.length ≤ 1000000001 := by have := splA_len l []; rw [hP]; omega
  have HPW : Hid (∀ i, i < P.length → (P.getD i []).length ≤ 1000000000) := Lib.hid (fun i hi => by
    have h := splA_wlen l [] (P.getD i []) (by rw [← hP, List.getD_eq_getElem?_getD, List.getElem?_eq_getElem hi]; exact List.getElem_mem hi)
    simp only [List.length_nil] at h; omega)
  obtain ⟨m, hm⟩ := hm
  have hsp : Calls Tryd.prog 50 #[.string (bstr l), .string ⟨#[32]⟩] w fun e w' => e = .returned (.slice (some ⟨w.heap.size, 0, none⟩) P.length P.length) ∧ w' = w.alloc (.cells ((P.map bstr).map Value.string).toArray 9) :=
    (Tryd.strings_Split (bstr l) bl m w (by rw [bstr_size]; omega) hm (by rw [bl_size]; omega)).mono (by rintro e w' ⟨h1, h2⟩; rw [count_spl, ← hP] at h1; rw [split_spl, ← hP] at h2; exact ⟨h1, h2⟩)
  have HST := Lib.hid (show NmOk l [] P by rw [hP]; exact NmOk.start l)
  have hrow : ∀ i, i < P.length → (w.alloc (.cells ((P.map bstr).map Value.string).toArray 9)).cell? ⟨w.heap.size, i, none⟩ = some (.string (bstr (P.getD i []))) := fun i hi => by
    rw [cell_of_row _ w.heap.size i _ _ _ (heap_alloc_new w _), List.getElem?_toArray, List.getElem?_map, List.getElem?_map, List.getD_eq_getElem?_getD, List.getElem?_eq_getElem hi]; rfl
  obtain ⟨s, hs⟩ : ∃ s, s = bstr l := ⟨_, rfl⟩
  rw [← hs] at hsp ⊢
  have hb1 : Below w.heap.size w (w.alloc (.cells ((P.map bstr).map Value.string).toArray 9)) := (Below.refl _ _).alloc (Nat.le_refl _) _
  have hz1 : (w.alloc (.cells ((P.map bstr).map Value.string).toArray 9)).heap.size = w.heap.size + 1 := by simp
  generalize (w.alloc (.cells ((P.map bstr).map Value.string).toArray 9)) = w1 at *
  have HROW := Lib.hid hrow; have HB1 := Lib.hid hb1; have HZ1 := Lib.hid hz1
  clear hs hP hrow hb1 hz1 hm
  go_enter Tryd.func38, Tryd.ntmps38
  go_wp2_with fail
  refine hsp.mono ?_
  rintro e w' ⟨rfl, hw'⟩
  rw [hw']
  clear hw' hsp w'
  go_wp2_with fail
  go_loopw [7, 14] (fun vo vi wr => ∃ (i : Nat) (out : List Nat) (A : Option Addr) (c : Nat), i ≤ P.length ∧ out.length ≤ i ∧ Hid (out.length = i) ∧ vo = .slice A out.length c ∧ vi = .int .i64 i ∧ Hid (NmOk l out (P.drop i)) ∧ Hid (Below w1.heap.size w1 wr) ∧ Hid (wr.ownsRow w1.heap.size 3 1 (.slice A out.length c) out.length ((List.range out.length).map (nvl out)))) (fun _ vi _ => P.length - (intOf vi).toNat)
  case atStart => exact ⟨0, [], none, 0, by omega, Nat.le_refl _, Lib.hid rfl, rfl, rfl, HST, Lib.hid (Below.refl _ _), Lib.hid (World.ownsRow_nil _ _ _ _)⟩
  case round =>
    obtain ⟨i, out, A, c, hi, hoi, HOI, rfl, rfl, HN, HB, HO⟩ := hrel
    obtain ⟨wq, hwq⟩ : ∃ wq, wq = wr := ⟨_, rfl⟩
    subst hwq
    by_cases hlt : i < P.length
    · have x0 := (Keeps.of_below HB.out) _ _ (HROW.out i hlt)
      obtain ⟨p, hp⟩ : ∃ p, p = P.getD i [] := ⟨_, rfl⟩
      rw [← hp] at x0
      have hcall := number_any p wq (by rw [hp]; exact HPW.out i hlt)
      have HNX : Hid (NmOk l out (p :: P.drop (i + 1))) := Lib.hid (by rw [hp, ← drop_getD hlt]; exact HN.out)
      obtain ⟨q, hq⟩ : ∃ q, q = bstr p := ⟨_, rfl⟩
      rw [← hq] at hcall x0
      clear hq hp HN
      have hzz := HB.out.size
      cases hnb : numB p with
      | none =>
        rw [numI_none hnb] at hcall
        have HBD : Hid (numQ l a b = none) := Lib.hid (by unfold numQ; rw [HNX.out.bad hnb])
        clear hnb
        go_wp2_with fail
        refine hcall.mono ?_
        rintro e w2 ⟨rfl, hb2⟩
        have HB2 := Lib.hid (HB1.out.trans ((HB.out.trans (hb2.mono HB.out.size)).mono (by rw [HZ1.out]; omega)))
        clear hcall hb2
        go_wp2_with fail
        go_ret
        exact ⟨⟨_, rfl, by rw [HBD.out]; rfl⟩, HB2.out⟩
      | some n =>
        rw [numI_some hnb] at hcall
        have hn9 := numB_le hnb
        have HN2 := Lib.hid (HNX.out.next hnb)
        clear hnb
        have h0 : ¬ ((n : Int) < 0) := by omega
        go_wp2_with fail
        refine hcall.mono ?_
        rintro e w2 ⟨rfl, hb2⟩
        have HB2 := Lib.hid (HB.out.trans (hb2.mono HB.out.size))
        have HO2 := Lib.hid (own_below HO.out hb2)
        have hzz2 := HB2.out.size
        clear hcall hb2 x0
        go_wp2_with (at_builtin; refine wp_append rfl (.tmp 22) (.tmp 24) _ rfl elIn w1.heap.size A out.length c _ rfl (HO2.out.alloc _) _ 1 1 [.int .i64 (n : Int)] rfl (src_new _ _ _ rfl) (by omega) (sz_alloc hzz2) ?_; intro A' c' w4 ho hk' hb')
        have hl2 : (out ++ [n]).length = out.length + 1 := by simp
        have HB4 : Hid (Below w1.heap.size w1 w4) := Lib.hid (HB2.out.trans ((((Only.refl (blockOf A) w2).alloc _).trans hk').below (fun k _ hk => own_base HO2.out k hk) hzz2))
        rw [nvl_more] at ho
        exact ⟨⟨i + 1, out ++ [n], A', c', by omega, by rw [hl2]; omega, Lib.hid (by rw [hl2, HOI.out]), by rw [hl2], rfl, HN2, HB4, Lib.hid (by rw [hl2] at ho ⊢; exact ho)⟩, by simp [intOf]; omega⟩
    · obtain rfl : P.length = i := by omega
      have HNB : Hid (numsB l = some out) := Lib.hid (by have h := HN.out; rw [List.drop_length] at h; exact h.done)
      have HB2 := Lib.hid (HB1.out.trans (HB.out.mono (by rw [HZ1.out]; omega)))
      have HV := Lib.hid (numV_own HO.out (by rw [HOI.out]; omega))
      have HZ2 : Hid (w.heap.size ≤ w1.heap.size) := Lib.hid (by rw [HZ1.out]; omega)
      by_cases h1 : out.length < a
      · have HBD : Hid (numQ l a b = none) := Lib.hid (by unfold numQ; rw [HNB.out]; exact if_neg (by omega))
        go_wp2_with fail
        go_ret
        exact ⟨⟨_, rfl, by rw [HBD.out]; rfl⟩, HB2.out⟩
      · by_cases h2 : b < out.length
        · have HBD : Hid (numQ l a b = none) := Lib.hid (by unfold numQ; rw [HNB.out]; exact if_neg (by omega))
          go_wp2_with fail
          go_ret
          exact ⟨⟨_, rfl, by rw [HBD.out]; rfl⟩, HB2.out⟩
        · have HBD : Hid (numQ l a b = some out) := Lib.hid (by unfold numQ; rw [HNB.out]; exact if_pos (by omega))
          go_wp2_with fail
          go_ret
          refine ⟨⟨_, rfl, ?_⟩, HB2.out⟩
          rw [HBD.out]
          obtain ⟨bk, off, c', e1, e2, e3⟩ := HV.out
          exact ⟨bk, off, c', e1, Nat.le_trans HZ2.out e2, e3⟩
end Go.Proofs.YtngjbiipgbeemaaDoor
