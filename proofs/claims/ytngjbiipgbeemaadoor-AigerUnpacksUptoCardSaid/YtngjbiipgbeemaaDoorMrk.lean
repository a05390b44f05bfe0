/- Slices of bytes of the call's own, of which '[]byte(s)' is one: such a row bears a mark behind its cells; append, told of them. No condition. -/
import Derived.Test.YtngjbiipgbeemaaDoorOwn
import Derived.Test.YtngjbiipgbeemaaDoorPrG
import Derived.Lib.ConvBytes
import Derived.Lib.UnsafeStr
namespace Go.Proofs.YtngjbiipgbeemaaDoor
open Go.RowKit

/-- the slice A, of n bytes and capacity c, owns the cells xs: nil, or at the head of a row from block base on, whose mark, if it has one, lies behind its cells -/
def OwnB (base : Nat) (w : World) (A : Option Addr) (n c : Nat) (xs : List Value) : Prop :=
  xs.length = n ∧ ((A = none ∧ n = 0 ∧ c = 0) ∨ ∃ g cur lo hi, A = some ⟨g, 0, none⟩ ∧ base ≤ g ∧ w.heap[g]? = some (.cells cur 5 (lo, hi)) ∧ (hi = 0 ∨ cur.size ≤ lo) ∧ n ≤ c ∧ c ≤ maxLen ∧ cur.size = c ∧ cur.toList.take n = xs)

theorem OwnB.of {base : Nat} {w : World} {A : Option Addr} {n c : Nat} {xs : List Value} (h : w.ownsRow base 5 1 (.slice A n c) n xs) : OwnB base w A n c xs := by
  refine ⟨by simpa using h.1, ?_⟩
  rcases h.2 with ⟨h0, hn⟩ | ⟨g, cap, cur, hv, hb, hg, hnc, hcm, hcs, ht⟩
  · injection h0 with h1 _ h3
    exact .inl ⟨h1, hn, h3⟩
  · injection hv with h1 _ h3
    subst h1; subst h3
    exact .inr ⟨g, cur, 0, 0, rfl, hb, hg, .inl rfl, hnc, hcm, by simpa using hcs, by simpa using ht⟩
theorem OwnB.nil (base : Nat) (w : World) : OwnB base w none 0 0 [] := ⟨rfl, .inl ⟨rfl, rfl, rfl⟩⟩
theorem OwnB.only {S : Nat → Prop} {base : Nat} {w w1 : World} {A : Option Addr} {n c : Nat} {xs : List Value} (h : OwnB base w A n c xs) (k : Only S w w1) (hs : ∀ b, blockOf A b → ¬ S b) : OwnB base w1 A n c xs := by
  refine ⟨h.1, ?_⟩
  rcases h.2 with h0 | ⟨g, cur, lo, hi, rfl, hb, hg, r⟩
  · exact .inl h0
  · exact .inr ⟨g, cur, lo, hi, rfl, hb, (k.block g (Array.getElem?_eq_some_iff.1 hg).1 (hs g ⟨_, rfl, rfl⟩)).trans hg, r⟩
theorem OwnB.below {base : Nat} {w w1 : World} {A : Option Addr} {n c : Nat} {xs : List Value} (h : OwnB base w A n c xs) (k : Below w.heap.size w w1) : OwnB base w1 A n c xs := by
  refine ⟨h.1, ?_⟩
  rcases h.2 with h0 | ⟨g, cur, lo, hi, rfl, hb, hg, r⟩
  · exact .inl h0
  · exact .inr ⟨g, cur, lo, hi, rfl, hb, (k.block g (Array.getElem?_eq_some_iff.1 hg).1).trans hg, r⟩
theorem OwnB.alloc {base : Nat} {w : World} {A : Option Addr} {n c : Nat} {xs : List Value} (h : OwnB base w A n c xs) (o : Obj) : OwnB base (w.alloc o) A n c xs := h.below ((Below.refl _ _).alloc (Nat.le_refl _) o)
theorem OwnB.row {base : Nat} {w : World} {A : Option Addr} {n c : Nat} {xs : List Value} (h : OwnB base w A n c xs) : Row1 w A n (fun k => xs.getD k undef) := fun hn => by
  rcases h.2 with ⟨_, h0, _⟩ | ⟨g, cur, lo, hi, rfl, _, hg, _, hnc, _, hcs, ht⟩
  · omega
  · refine ⟨g, 0, rfl, fun k hk => ?_⟩
    have e : xs[k]? = cur[k]? := by rw [← ht, List.getElem?_take, if_pos hk]; simp
    rw [Nat.zero_add, cell_of_row w g k cur _ _ hg]
    show cur[k]? = some (xs.getD k undef)
    rw [List.getD_eq_getElem?_getD, e, Array.getElem?_eq_getElem (by omega)]; rfl
theorem OwnB.base {base : Nat} {w : World} {A : Option Addr} {n c : Nat} {xs : List Value} (h : OwnB base w A n c xs) : ∀ k, blockOf A k → base ≤ k ∧ k < w.heap.size := fun k hk => by
  obtain ⟨a, rfl, rfl⟩ := hk
  rcases h.2 with ⟨h0, _⟩ | ⟨g, cur, lo, hi, h0, hb, hg, _⟩
  · cases h0
  · injection h0 with h0; subst h0
    exact ⟨hb, (Array.getElem?_eq_some_iff.1 hg).1⟩

/-- cells are stored ahead of the mark -/
theorem store_mk (g o : Nat) (t : TypeId) (lo hi : Nat) : ∀ (vs : List Value) (i : Nat) (cur : Array Value) (w : World), w.heap[g]? = some (.cells cur t (lo, hi)) → (hi = 0 ∨ cur.size ≤ lo) → o + i + vs.length ≤ cur.size → (∀ v ∈ vs, v.oneCell' = true) →
    (storeCells ⟨g, o, none⟩ vs i).run Tryd.prog w = .ok () (w.setRow g (cur.toList.take (o + i) ++ vs ++ cur.toList.drop (o + i + vs.length)).toArray) := by
  intro vs
  induction vs with
  | nil =>
    intro i cur w hg _ _ _
    have h1 := setRow_self w g cur t (lo, hi) hg
    simp only [storeCells, List.append_nil, List.length_nil, Nat.add_zero, List.take_append_drop, Array.toArray_toList, h1]
    rfl
  | cons v vs ih =>
    intro i cur w hg hm hl hone
    simp only [List.length_cons] at hl
    have hlt : o + i < cur.size := by omega
    have hc : w.cell? ⟨g, o + i, none⟩ = some cur[o + i] := by simp [World.cell?, hg, hlt]
    have hf : w.frozen? ⟨g, o + i, none⟩ = false := by
      simp only [World.frozen?, hg, Bool.and_eq_false_iff, decide_eq_false_iff_not]
      rcases hm with hm | hm
      · right; omega
      · left; omega
    have h1 : (store ((⟨g, o, none⟩ : Addr).add i) v).run Tryd.prog w = .ok () (w.setRow g (cur.setIfInBounds (o + i) v)) := by
      rw [add_eq, run_store Tryd.prog w _ v _ (hone v (by simp)), hc]
      simp [hf, setCell_eq_setRow w g (o + i) cur t (lo, hi) v hg]
    have h2 := ih (i + 1) (cur.setIfInBounds (o + i) v) (w.setRow g (cur.setIfInBounds (o + i) v)) (setRow_heap w g cur _ t _ hg) (by simpa using hm) (by simp; omega) (fun x hx => hone x (by simp [hx]))
    have h3 := list_seg_step cur.toList (o + i) v vs (by simp; omega)
    simp only [storeCells, Sem.run_bind, h1, Result.andThen_ok, h2, setRow_setRow]
    congr 3
    simpa [Array.toList_setIfInBounds, Nat.add_assoc] using h3

theorem elByte : Elem Tryd.prog 30 5 1 1 := elem_mk Tryd.underlying30 (z := .int .u8 0) (by kernel_rfl) rfl (by omega) (by omega)

theorem run_append_b {w : World} {base n c : Nat} {A : Option Addr} {xs : List Value} (ty : TypeId) (h : OwnB base w A n c xs) (D : Option Addr) (m d : Nat) (news : List Value) (hsrc : Src w 1 D m news) (hbytes : n + m ≤ 140737488355328) (hbase : base ≤ w.heap.size) :
    ∃ A' c' w', (Builtin.append_ #[30, 30] ty #[.slice A n c, .slice D m d]).run Tryd.prog w = .ok (.slice A' (n + m) c') w' ∧ OwnB base w' A' (n + m) c' (xs ++ news) ∧ Only (blockOf A) w w' ∧ ∀ k, blockOf A' k → blockOf A k ∨ k = w.heap.size := by
  obtain ⟨i, z, ht, hi, hz, hsz, hby, hzs, hpos, hbpos⟩ := elByte
  obtain ⟨hl, hone, hcells⟩ := hsrc
  have h63 : n + m ≤ maxLen := by simp only [maxLen]; omega
  cases D with
  | none =>
    have hm : m = 0 := by
      rcases Nat.eq_zero_or_pos m with h0 | h0
      · exact h0
      · obtain ⟨ad, h1, _⟩ := hcells h0; cases h1
    subst hm
    obtain rfl : news = [] := List.eq_nil_of_length_eq_zero (by simpa using hl)
    refine ⟨A, c, w, ?_, by simpa using h, Only.refl _ _, fun k hk => .inl hk⟩
    rcases h.2 with ⟨rfl, rfl, rfl⟩ | ⟨g, cur, lo, hi', rfl, _, _, _, hnc, _⟩
    · simp [Builtin.append_, run_underlying ht, sizeOf, typeInfo, hi, Builtin.lenOf, Builtin.firstCells]
    · simp [Builtin.append_, run_underlying ht, sizeOf, typeInfo, hi, Builtin.lenOf, Builtin.firstCells, hnc, storeCells]
  | some ad =>
    have hnews : ∀ j u, news[j]? = some u → w.cell? (ad.add j) = some u := by
      intro j u hu
      rcases Nat.eq_zero_or_pos m with h0 | h0
      · subst h0
        obtain rfl : news = [] := List.eq_nil_of_length_eq_zero (by simpa using hl)
        simp at hu
      · obtain ⟨ad', h1, h2⟩ := hcells h0
        obtain rfl := Option.some.inj h1
        exact h2 j u hu
    rcases h.2 with ⟨rfl, rfl, rfl⟩ | ⟨g, cur, lo, hi', rfl, hbg, hg, hmk, hnc, hcm, hcs, htk⟩
    · obtain rfl : xs = [] := List.eq_nil_of_length_eq_zero h.1
      obtain ⟨v', w', hr, h2, h3, _, h5⟩ := run_append_own_at (P := Tryd.prog) w base 30 ty 5 i z 1 1 ht hi hz hsz hby hzs hpos (.slice none 0 0) 0 [] (World.ownsRow_nil _ _ _ _) ad m d news hl hnews hone h63 (by omega) hbase
      obtain ⟨A', c', rfl, _⟩ := own_slice h2
      refine ⟨A', c', w', hr, OwnB.of h2, Only.grown h3, fun k hk => ?_⟩
      obtain ⟨a', rfl, rfl⟩ := hk
      rcases h5 with h5 | h5
      · simp [Value.ownBlock] at h5
      · right; simpa [Value.ownBlock] using h5
    · have hsz1 : i.size = 1 := hsz
      have hlen : (xs ++ news).length = n + m := by rw [List.length_append, h.1, hl, Nat.mul_one]
      by_cases hroom : n + m ≤ c
      · have hf := run_firstCells_some (P := Tryd.prog) w i.size m ad m d news (by rw [hl, hsz1]) hnews
        have hst := store_mk g (n * i.size) 5 lo hi' news 0 cur w hg hmk (by rw [hsz1, hl]; omega) hone
        simp only [Nat.add_zero, hsz1, Nat.mul_one] at hst
        have hr : (Builtin.append_ #[30, 30] ty #[.slice (some ⟨g, 0, none⟩) n c, .slice (some ad) m d]).run Tryd.prog w = .ok (.slice (some ⟨g, 0, none⟩) (n + m) c) (w.setRow g (cur.toList.take n ++ news ++ cur.toList.drop (n + news.length)).toArray) := by
          rw [hsz1] at hf
          simp [Builtin.append_, run_underlying ht, sizeOf, typeInfo, hi, hsz1, Builtin.lenOf, hroom, hf, Addr.add_lit, hst]
        have hsz2 : (cur.toList.take n ++ news ++ cur.toList.drop (n + news.length)).toArray.size = cur.size := by
          simp only [List.size_toArray, List.length_append, List.length_take, List.length_drop, Array.length_toList]
          omega
        refine ⟨some ⟨g, 0, none⟩, c, _, hr, ⟨hlen, .inr ⟨g, _, lo, hi', rfl, hbg, setRow_heap w g cur _ _ _ hg, by rw [hsz2]; exact hmk, hroom, hcm, by rw [hsz2]; exact hcs, ?_⟩⟩, ⟨rfl, rfl, rfl, by simp, fun k _ hk => setRow_other w g k _ (fun e => hk ⟨_, rfl, e⟩)⟩, fun k hk => .inl hk⟩
        rw [List.toList_toArray, htk, ← hlen]
        exact List.take_left
      · have holds : ∀ j u, xs[j]? = some u → w.cell? ((⟨g, 0, none⟩ : Addr).add j) = some u := by
          intro j u hu
          have hj : j < n := by rw [← h.1]; exact (List.getElem?_eq_some_iff.1 hu).1
          rw [add_eq, Nat.zero_add, cell_of_row w g j cur _ _ hg]
          rw [← htk, List.getElem?_take, if_pos hj] at hu
          simpa using hu
        have hr := run_append_grow (P := Tryd.prog) w 30 ty 5 i z ht hi hz ⟨g, 0, none⟩ n c xs (by rw [h.1, hsz1, Nat.mul_one]) holds ad m d news (by rw [hl, hsz1]) hnews (by omega) (by omega) (growslice_fits (by omega) (by rw [hby]; omega))
        have hge := grownCap_ge w (n + m) c 5
        have hcm2 : grownCap w (n + m) c 5 ≤ maxLen := grownCap_le_maxLen w (n + m) c 5 h63
        refine ⟨some ⟨w.heap.size, 0, none⟩, _, _, hr, ⟨hlen, .inr ⟨w.heap.size, _, 0, 0, rfl, hbase, heap_alloc_new w.drew _, .inl rfl, hge, hcm2, ?_, ?_⟩⟩, ⟨rfl, rfl, rfl, by simp, fun k hk _ => Below.heap_alloc w.drew _ k hk⟩, fun k hk => .inr ?_⟩
        · simp only [Array.size_append, List.size_toArray, size_zeroCells, hzs, h.1, hl]
          omega
        · simp only [Array.toList_append, List.append_assoc]
          rw [← List.append_assoc, ← hlen]
          exact List.take_left
        · obtain ⟨a', e, rfl⟩ := hk
          obtain rfl := Option.some.inj e; rfl

/-- the operation, for the walk -/
theorem wp_append_b {w : World} {ops : Array Oper} {rest : List Oper} {o : Oper} {a : Act} {Q : Exit → Act → World → Prop} (hgd : o.guard = none) (s x : Operand)
    (ho : o.op = .call { callee := .builtin .append, args := #[s, x], argTypes := #[30, 30] })
    (base : Nat) (A : Option Addr) (n c : Nat) (xs : List Value) (hs : a.eval s = .slice A n c) (hown : OwnB base w A n c xs)
    (D : Option Addr) (m d : Nat) (news : List Value) (hx : a.eval x = .slice D m d) (hsrc : Src w 1 D m news)
    (hbytes : n + m ≤ 140737488355328) (hbase : base ≤ w.heap.size)
    (h : ∀ A' c' w', OwnB base w' A' (n + m) c' (xs ++ news) → Only (blockOf A) w w' → (∀ k, blockOf A' k → blockOf A k ∨ k = w.heap.size) → wpList Tryd.prog ops Q rest (a.put o.dst (.slice A' (n + m) c')) w') :
    wpList Tryd.prog ops Q (o :: rest) a w := by
  refine wpList_plain hgd fun K hK => ?_
  obtain ⟨A', c', w', hr, h2, h3, h4⟩ := run_append_b o.type hown D m d news hsrc hbytes hbase
  unfold Oper.wp execOp
  simp only [ho, resolve, invoke, builtin, Sem.run_bind, Sem.run_pure, Result.andThen_ok, List.map_toArray, List.map_cons, List.map_nil, hs, hx, hr]
  exact hK _ _ (h A' c' w' h2 h3 h4)

/-- '[]byte(s)' -/
theorem conv_bytes (w : World) (l : List UInt8) (hl : l.length ≤ 1000000000) : ∃ c w', (convert 9 30 (.string (str l))).run Tryd.prog w = .ok (.slice (some ⟨w.heap.size, 0, none⟩) l.length c) w' ∧ OwnB w.heap.size w' (some ⟨w.heap.size, 0, none⟩) l.length c (Lib.byteCells l) ∧ Below w.heap.size w w' := by
  have hge := grownCap_ge w l.length 0 5
  have hcm : grownCap w l.length 0 5 ≤ maxLen := grownCap_le_maxLen w l.length 0 5 (by simp only [maxLen]; omega)
  refine ⟨_, _, Lib.run_convert_string_bytes (P := Tryd.prog) w 9 30 5 (str l) Tryd.underlying9 Tryd.underlying30 Tryd.underlying5, ⟨by simp [Lib.byteCells], .inr ⟨w.heap.size, _, _, _, rfl, Nat.le_refl _, Lib.bytesWorld_at_new w 5 (str l), .inr (Nat.le_refl _), hge, hcm, ?_, ?_⟩⟩, ⟨rfl, rfl, rfl, by rw [Lib.bytesWorld_size]; omega, fun k hk => Lib.bytesWorld_at_old w _ _ k hk⟩⟩
  · show (Lib.bytesCells w 5 (str l)).size = grownCap w l.length 0 5
    have e : (str l).size = l.length := rfl
    have e2 : (str l).data.size = l.length := rfl
    simp only [Lib.bytesCells, Array.size_append, Array.size_map, Array.size_replicate, e, e2]; omega
  · have e2 : (str l).data.toList = l := rfl
    simp only [Lib.bytesCells, Array.toList_append, Array.toList_map, e2]
    rw [List.take_append_of_le_length (by simp), List.take_of_length_le (by simp)]
    rfl
/-- 'string(b)' -/
theorem conv_string {base : Nat} {w : World} {A : Option Addr} {c : Nat} {l : List UInt8} (h : OwnB base w A l.length c (Lib.byteCells l)) (h0 : l ≠ []) :
    (convert 30 9 (.slice A l.length c)).run Tryd.prog w = .ok (.string (str l)) w := by
  have hp : 0 < l.length := List.length_pos_iff.2 h0
  obtain ⟨b, off, rfl, hc⟩ := h.row hp
  refine run_convert_bytes_back (P := Tryd.prog) w 30 9 5 ⟨b, off, none⟩ c l Tryd.underlying30 Tryd.underlying5 Tryd.underlying9 fun j hj => ?_
  rw [add_eq, hc j hj]
  simp [Lib.byteCells, List.getD_eq_getElem?_getD, hj]
end Go.Proofs.YtngjbiipgbeemaaDoor
