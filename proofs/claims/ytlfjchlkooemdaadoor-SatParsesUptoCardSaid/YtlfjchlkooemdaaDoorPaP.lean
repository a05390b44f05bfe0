/- What sat.Parse and the reference's CnfParse hold between two words: the head's numbers, the clauses so far; steps of the plain law. No condition. -/
import Derived.Test.YtlfjchlkooemdaaDoorPaG
namespace Go.Proofs.YtlfjchlkooemdaaDoor
open Go.RowKit Go.Shelf Go.Deep

/-! ### The plain law, step by step -/
theorem atW_lt {W : List Wd0} {T i : Nat} (h : i < W.length) : atW W T i = (W.getD i ([], 0)).2 := by unfold atW; rw [if_pos h]
theorem atW_end {W : List Wd0} {T i : Nat} (h : ¬ i < W.length) : atW W T i = T := by unfold atW; rw [if_neg h]
theorem get_D {W : List Wd0} {i : Nat} (h : i < W.length) : W[i]? = some (W.getD i ([], 0)) := by rw [List.getD_eq_getElem?_getD, List.getElem?_eq_getElem h]; rfl
/-- the head is right up to its k-th word -/
def HdOk (W : List Wd0) (T k : Nat) : Prop := hdF W T 4 0 = hdF W T (4 - k) k
theorem HdOk.next {W : List Wd0} {T k : Nat} (h : HdOk W T k) (hk : k < 4) (hl : k < W.length) (hb : hdBad k (W.getD k ([], 0)).1 = false) : HdOk W T (k + 1) := by
  unfold HdOk at *
  rw [h, show 4 - k = (4 - (k + 1)) + 1 by omega]
  show (match W[k]? with | none => some T | some w => if hdBad k w.1 = true then some w.2 else hdF W T (4 - (k + 1)) (k + 1)) = _
  rw [get_D hl]
  show (if hdBad k (W.getD k ([], 0)).1 = true then _ else _) = _
  rw [hb, if_neg (by simp)]
theorem HdOk.bad {W : List Wd0} {T k : Nat} (h : HdOk W T k) (hk : k < 4) (hb : k < W.length → hdBad k (W.getD k ([], 0)).1 = true) : parseW W T = .inr (atW W T k) := by
  unfold HdOk at h
  have e : hdF W T 4 0 = some (atW W T k) := by
    rw [h, show 4 - k = (4 - (k + 1)) + 1 by omega]
    show (match W[k]? with | none => some T | some w => if hdBad k w.1 = true then some w.2 else hdF W T (4 - (k + 1)) (k + 1)) = _
    by_cases hl : k < W.length
    · rw [get_D hl, atW_lt hl]
      show (if hdBad k (W.getD k ([], 0)).1 = true then _ else _) = _
      rw [hb hl, if_pos rfl]
    · rw [List.getElem?_eq_none (by omega), atW_end hl]
  unfold parseW
  rw [e]
theorem HdOk.end_ {W : List Wd0} {T : Nat} (h : HdOk W T 4) : parseW W T = bodyW (hdN W 2) (hdN W 3) T (W.drop 4) [] [] := by
  unfold HdOk at h
  unfold parseW
  rw [h]
  rfl
/-- the body, read so far -/
def BdOk (W : List Wd0) (T i : Nat) (cs : List (List Int)) (cl : List Int) : Prop := parseW W T = bodyW (hdN W 2) (hdN W 3) T (W.drop i) cs cl
theorem drop_get {W : List Wd0} {i : Nat} (h : i < W.length) : W.drop i = W.getD i ([], 0) :: W.drop (i + 1) := by
  rw [List.drop_eq_getElem_cons h, List.getD_eq_getElem?_getD, List.getElem?_eq_getElem h]; rfl
section
variable {W : List Wd0} {T i : Nat} {cs : List (List Int)} {cl : List Int}
theorem BdOk.full (h : BdOk W T i cs cl) (hi : i < W.length) (hn : cs.length = hdN W 3) : parseW W T = .inr (atW W T i) := by
  unfold BdOk at h
  rw [h, drop_get hi, atW_lt hi]
  simp only [bodyW]
  rw [if_pos hn]
theorem BdOk.zero (h : BdOk W T i cs cl) (hi : i < W.length) (hn : cs.length ≠ hdN W 3) (h0 : (W.getD i ([], 0)).1 = [48]) : BdOk W T (i + 1) (cs ++ [cl]) [] := by
  unfold BdOk at *
  rw [h, drop_get hi]
  simp only [bodyW]
  rw [if_neg hn, if_pos h0]
theorem BdOk.none (h : BdOk W T i cs cl) (hi : i < W.length) (hn : cs.length ≠ hdN W 3) (h0 : (W.getD i ([], 0)).1 ≠ [48]) (hl : litB (hdN W 2) (W.getD i ([], 0)).1 = 0) : parseW W T = .inr (atW W T i) := by
  unfold BdOk at h
  rw [h, drop_get hi, atW_lt hi]
  simp only [bodyW]
  rw [if_neg hn, if_neg h0, if_pos hl]
theorem BdOk.lit (h : BdOk W T i cs cl) (hi : i < W.length) (hn : cs.length ≠ hdN W 3) (h0 : (W.getD i ([], 0)).1 ≠ [48]) (hl : litB (hdN W 2) (W.getD i ([], 0)).1 ≠ 0) : BdOk W T (i + 1) cs (cl ++ [litB (hdN W 2) (W.getD i ([], 0)).1]) := by
  unfold BdOk at *
  rw [h, drop_get hi]
  simp only [bodyW]
  rw [if_neg hn, if_neg h0, if_neg hl]
theorem BdOk.few (h : BdOk W T W.length cs cl) (hn : cs.length < hdN W 3) : parseW W T = .inr (atW W T W.length) := by
  unfold BdOk at h
  rw [h, List.drop_length, atW_end (Nat.lt_irrefl _)]
  simp only [bodyW]
  rw [if_pos hn]
theorem BdOk.fine (h : BdOk W T W.length cs cl) (hn : ¬ cs.length < hdN W 3) : parseW W T = .inl cs := by
  unfold BdOk at h
  rw [h, List.drop_length]
  simp only [bodyW]
  rw [if_neg hn]
end
/-- a literal's digits -/
def cutL (l : List UInt8) : List UInt8 := if l.head? = some 45 then l.tail else l
theorem pre45 (l : List UInt8) : Lib.hasPrefix l [45] = decide (l.head? = some 45) := by
  cases l with
  | nil => rfl
  | cons b r =>
    show (45 == b && [].isPrefixOf r) = _
    rw [List.isPrefixOf_nil_left, Bool.and_true]
    simp only [List.head?_cons, Option.some.injEq]
    by_cases e : b = 45
    · simp [e]
    · rw [decide_eq_false e, beq_eq_false_iff_ne]; exact fun h => e h.symm
theorem cut_trim (l : List UInt8) : Lib.trimPrefix l [45] = cutL l := by
  unfold Lib.trimPrefix cutL
  rw [pre45]
  by_cases e : l.head? = some 45
  · simp [e]
  · simp [e]
theorem cut_le (l : List UInt8) : (cutL l).length ≤ l.length := by unfold cutL; split <;> simp
theorem lit_cut (v : Nat) (l : List UInt8) : litB v l = (match numB (cutL l) with | some n => if n ≤ v then (if l.head? = some 45 then -(n : Int) else (n : Int)) else 0 | none => 0) := by
  unfold litB cutL
  by_cases e : l.head? = some 45
  · simp only [if_pos e]; rfl
  · simp only [if_neg e]; rfl
theorem lit_none {v : Nat} {l : List UInt8} (h : numB (cutL l) = none) : litB v l = 0 := by rw [lit_cut, h]
theorem lit_some {v n : Nat} {l : List UInt8} (h : numB (cutL l) = some n) (hn : n ≤ v) : litB v l = if l.head? = some 45 then -(n : Int) else (n : Int) := by
  rw [lit_cut, h]
  show (if n ≤ v then _ else _) = _
  rw [if_pos hn]
theorem lit_great {v n : Nat} {l : List UInt8} (h : numB (cutL l) = some n) (hn : ¬ n ≤ v) : litB v l = 0 := by
  rw [lit_cut, h]
  show (if n ≤ v then _ else _) = _
  rw [if_neg hn]
/-- the head's number at k, once it is read -/
def nvK (W : List Wd0) (k j : Nat) : Value := .int .i64 (if j < k then ((hdN W j : Nat) : Int) else 0)

/-! ### Blocks -/
theorem set4_0 {w : World} {b : Nat} {x0 x1 x2 x3 : Value} {t : TypeId} (h : w.heap[b]? = some (.cells #[x0, x1, x2, x3] t)) (v : Value) : (w.setCell ⟨b, 0, none⟩ v).heap[b]? = some (.cells #[v, x1, x2, x3] t) := by simp [World.setCell, Array.getElem?_modify, h]
theorem set4_1 {w : World} {b : Nat} {x0 x1 x2 x3 : Value} {t : TypeId} (h : w.heap[b]? = some (.cells #[x0, x1, x2, x3] t)) (v : Value) : (w.setCell ⟨b, 1, none⟩ v).heap[b]? = some (.cells #[x0, v, x2, x3] t) := by simp [World.setCell, Array.getElem?_modify, h]
theorem set4_2 {w : World} {b : Nat} {x0 x1 x2 x3 : Value} {t : TypeId} (h : w.heap[b]? = some (.cells #[x0, x1, x2, x3] t)) (v : Value) : (w.setCell ⟨b, 2, none⟩ v).heap[b]? = some (.cells #[x0, x1, v, x3] t) := by simp [World.setCell, Array.getElem?_modify, h]
theorem set4_3 {w : World} {b : Nat} {x0 x1 x2 x3 : Value} {t : TypeId} (h : w.heap[b]? = some (.cells #[x0, x1, x2, x3] t)) (v : Value) : (w.setCell ⟨b, 3, none⟩ v).heap[b]? = some (.cells #[x0, x1, x2, v] t) := by simp [World.setCell, Array.getElem?_modify, h]
theorem set2_0 {w : World} {b : Nat} {x0 x1 : Value} {t : TypeId} (h : w.heap[b]? = some (.cells #[x0, x1] t)) (v : Value) : (w.setCell ⟨b, 0, none⟩ v).heap[b]? = some (.cells #[v, x1] t) := by simp [World.setCell, Array.getElem?_modify, h]
theorem set2_1 {w : World} {b : Nat} {x0 x1 : Value} {t : TypeId} (h : w.heap[b]? = some (.cells #[x0, x1] t)) (v : Value) : (w.setCell ⟨b, 1, none⟩ v).heap[b]? = some (.cells #[x0, v] t) := by simp [World.setCell, Array.getElem?_modify, h]
theorem box2 {W : World} {b : Nat} {x0 x1 : Value} {t : TypeId} (h : W.heap[b]? = some (.cells #[x0, x1] t)) : (W.cell? ⟨b, 0, none⟩ = some x0 ∧ W.cell? ⟨b, 1, none⟩ = some x1) ∧ ∀ j, W.frozen? ⟨b, j, none⟩ = false := by
  refine ⟨⟨?_, ?_⟩, fun j => by simp [World.frozen?, h]⟩
  all_goals (rw [cell_of_row W b _ _ _ _ h]; rfl)
theorem box4 {W : World} {b : Nat} {x0 x1 x2 x3 : Value} {t : TypeId} (h : W.heap[b]? = some (.cells #[x0, x1, x2, x3] t)) : (W.cell? ⟨b, 0, none⟩ = some x0 ∧ W.cell? ⟨b, 1, none⟩ = some x1 ∧ W.cell? ⟨b, 2, none⟩ = some x2 ∧ W.cell? ⟨b, 3, none⟩ = some x3) ∧ ∀ j, W.frozen? ⟨b, j, none⟩ = false := by
  refine ⟨⟨?_, ?_, ?_, ?_⟩, fun j => by simp [World.frozen?, h]⟩
  all_goals (rw [cell_of_row W b _ _ _ _ h]; rfl)
theorem box1 {W : World} {b : Nat} {x0 : Value} {t : TypeId} (h : W.heap[b]? = some (.cells #[x0] t)) : W.cell? ⟨b, 0, none⟩ = some x0 ∧ ∀ j, W.frozen? ⟨b, j, none⟩ = false := by
  refine ⟨?_, fun j => by simp [World.frozen?, h]⟩
  rw [cell_of_row W b _ _ _ _ h]; rfl
theorem Only.heap {S : Nat → Prop} {A B : World} {b : Nat} {o : Obj} (k : Only S A B) (h : A.heap[b]? = some o) (hn : ¬ S b) : B.heap[b]? = some o := (k.block b (Array.getElem?_eq_some_iff.1 h).1 hn).trans h
/-- a clause in the making, in a block of its own -/
structure ClI (z : Nat) (B : Option Addr) (d : Nat) (cl : List Int) (cs : List (List Int)) (RA : Nat → Option Addr) (W : World) : Prop where
  own : W.ownsRow z 3 1 (.slice B cl.length d) cl.length ((List.range cl.length).map (iv cl))
  apart : ∀ i, i < cs.length → 0 < (cs.getD i []).length → ∀ k, blockOf (RA i) k → ¬ blockOf B k
theorem ClI.nil (z : Nat) (cs : List (List Int)) (RA : Nat → Option Addr) (W : World) : ClI z none 0 [] cs RA W := ⟨World.ownsRow_nil _ _ _ _, fun _ _ _ _ _ ⟨_, h, _⟩ => by cases h⟩
theorem ClI.rowT {z d : Nat} {B : Option Addr} {cl : List Int} {cs : List (List Int)} {RA : Nat → Option Addr} {W : World} (h : ClI z B d cl cs RA W) : RowT (fun b => z ≤ b) W 3 1 B cl.length (fun j _ => iv cl j) := fun hn => by
  obtain ⟨b, off, cur, e, hp, hh, hc⟩ := own_rowT h.own hn
  refine ⟨b, off, cur, e, hp.1, hh, fun k hk j hj => ?_⟩
  rw [hc k hk j hj]
  obtain rfl : j = 0 := by omega
  simp [hk]
theorem ClI.below {z d : Nat} {B : Option Addr} {cl : List Int} {cs : List (List Int)} {RA : Nat → Option Addr} {W W1 : World} (h : ClI z B d cl cs RA W) (hb : Below W.heap.size W W1) : ClI z B d cl cs RA W1 := ⟨own_below h.own hb, h.apart⟩
theorem iv_more (cl : List Int) (x : Int) : ((List.range cl.length).map (iv cl)) ++ [.int .i64 x] = (List.range (cl ++ [x]).length).map (iv (cl ++ [x])) := by
  rw [List.length_append]
  show _ = List.map _ (List.range (cl.length + 1))
  rw [List.range_succ, List.map_append, List.map_congr_left (g := iv (cl ++ [x])) (fun k hk => by
    unfold iv
    rw [getD_snoc_lt (List.mem_range.1 hk)])]
  simp [iv]
/-- a number more -/
theorem ClI.more {z d d' c : Nat} {A B B' : Option Addr} {cl : List Int} {cs : List (List Int)} {RA : Nat → Option Addr} {RC : Nat → Nat} {W W1 : World} {x : Int} (h : ClI z B d cl cs RA W) (hC : Cls W z A c cs RA RC)
    (ho : W1.ownsRow z 3 1 (.slice B' (cl.length + 1) d') (cl.length + 1) (((List.range cl.length).map (iv cl)) ++ [.int .i64 x])) (hk : Only (blockOf B) W W1) (hb : ∀ k, blockOf B' k → blockOf B k ∨ k = W.heap.size) :
    ClI z B' d' (cl ++ [x]) cs RA W1 ∧ Cls W1 z A c cs RA RC := by
  have hl : (cl ++ [x]).length = cl.length + 1 := by simp
  rw [iv_more, hl] at ho
  have hty := own_type (e' := 45) h.own (by decide)
  refine ⟨⟨by rw [hl]; exact ho, fun i hi hn k hr hB => ?_⟩, own_only hC.own hk (fun k hA hB => ?_), fun i hi hn => ?_⟩
  · rcases hb k hB with h1 | h1
    · exact h.apart i hi hn k hr h1
    · obtain ⟨a, ha, rfl⟩ := hr
      obtain ⟨b, off, cur, e, hp, hh, hc⟩ := hC.rows i hi hn
      rw [ha] at e
      injection e with e
      subst e
      have := (Array.getElem?_eq_some_iff.1 hh).1
      exact absurd h1 (Nat.ne_of_lt this)
  · obtain ⟨a, rfl, rfl⟩ := hA
    rcases hC.own.2 with ⟨h0, _⟩ | ⟨g, cap, cur', hv, _, hh, _⟩
    · cases h0
    · injection hv with e1
      injection e1 with e1
      subst e1
      exact hty _ _ hh hB
  · obtain ⟨b, off, cur, e, hp, hh, hc⟩ := hC.rows i hi hn
    have hnb : ¬ blockOf B b := fun hB => h.apart i hi hn b ⟨_, e, rfl⟩ hB
    have hh1 := hk.heap hh hnb
    exact ⟨b, off, cur, e, hp, hh1, hc⟩
end Go.Proofs.YtlfjchlkooemdaaDoor
