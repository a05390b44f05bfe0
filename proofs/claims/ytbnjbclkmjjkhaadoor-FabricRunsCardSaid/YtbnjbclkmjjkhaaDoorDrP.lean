/- For the reference's Decode: strings of bytes in memory. No condition. -/
import Derived.Test.YtbnjbclkmjjkhaaDoorDrT
import Derived.Test.YtbnjbclkmjjkhaaDoorDkY
namespace Go.Proofs.YtbnjbclkmjjkhaaDoor
open Go.RowKit Go.Shelf

theorem conv_mem {w : World} {A : Option Addr} {l : List UInt8} (n c : Nat) (hn : n = l.length) (h : Mem w A l) (h0 : 0 < l.length) : (convert 22 9 (.slice A n c)).run Tryd.prog w = .ok (.string (str l)) w := by
  subst hn
  obtain ⟨b, off, rfl, hc⟩ := h h0
  refine run_convert_bytes_back (P := Tryd.prog) w 22 9 5 ⟨b, off, none⟩ c l Tryd.underlying22 Tryd.underlying5 Tryd.underlying9 fun j hj => ?_
  rw [add_eq, hc j hj]
  simp [List.getD_eq_getElem?_getD, hj]
theorem mem_take {w : World} {A : Option Addr} {l : List UInt8} (h : Mem w A l) (n : Nat) : Mem w A (l.take n) := fun hn => by
  have hn2 : 0 < min n l.length := by simpa using hn
  obtain ⟨b, o, e, hc⟩ := h (by omega)
  refine ⟨b, o, e, fun k hk => ?_⟩
  have hk2 : k < min n l.length := by simpa using hk
  rw [hc k (by omega)]
  simp only [List.getD_eq_getElem?_getD, List.getElem?_take, if_pos (show k < n by omega)]
theorem mem_drop {w : World} {b o : Nat} {l : List UInt8} (h : Mem w (some ⟨b, o, none⟩) l) (n : Nat) : Mem w (some ⟨b, o + n, none⟩) (l.drop n) := fun hn => by
  have hn2 : 0 < l.length - n := by simpa using hn
  obtain ⟨b', o', e, hc⟩ := h (by omega)
  injection e with e; injection e with e1 e2; subst e1 e2
  refine ⟨b, o + n, rfl, fun k hk => ?_⟩
  have hk2 : k < l.length - n := by simpa using hk
  rw [Nat.add_assoc, hc (n + k) (by omega)]
  simp only [List.getD_eq_getElem?_getD, List.getElem?_drop]
theorem str_eq {a b : List UInt8} : (str a = str b) ↔ a = b := ⟨fun h => by have h2 := congrArg (fun x => x.data.toList) h; simpa [str] using h2, fun h => by rw [h]⟩
theorem str_toList (l : List UInt8) : (str l).toList = l := by rw [ByteArray.toList_eq]; rfl
theorem crc_last {l : List UInt8} (_ : 4 ≤ l.length) : (be4 (crcF (body l)) = l.drop (l.length - 4)) ↔ l = body l ++ be4 (crcF (body l)) := by
  constructor
  · intro e; rw [e]; exact (List.take_append_drop _ _).symm
  · intro e
    generalize hb : be4 (crcF (body l)) = t at *
    have hlen := body_len l
    generalize body l = m at *
    have h2 : l.length - 4 = m.length := hlen.symm
    rw [h2, e, List.drop_left]
/-- the results' boxes and the fault's -/
structure Lr (n0 : Nat) (W : World) : Prop where
  r0 : W.heap[n0]? = some (.cells #[.int .i64 0, .int .i64 0, .int .i64 0, .int .i64 0, .int .i64 0, .slice none 0 0, .slice none 0 0, .slice none 0 0] 31)
  r1 : W.heap[n0 + 1]? = some (.cells #[.int .i64 0, .int .i64 0] 41)
  r2 : W.heap[n0 + 1 + 1]? = some (.cells #[.int .i64 18, .int .i64 0] 41)
theorem Lr.below {n0 : Nat} {W W1 : World} (h : Lr n0 W) (k : Below W.heap.size W W1) : Lr n0 W1 := ⟨heap_below k h.r0, heap_below k h.r1, heap_below k h.r2⟩
theorem Lr.only {S : Nat → Prop} {n0 : Nat} {W W1 : World} (h : Lr n0 W) (k : Only S W W1) (h0 : ¬ S n0) (h1 : ¬ S (n0 + 1)) (h2 : ¬ S (n0 + 1 + 1)) : Lr n0 W1 :=
  ⟨(k.block _ (Array.getElem?_eq_some_iff.1 h.r0).1 h0).trans h.r0, (k.block _ (Array.getElem?_eq_some_iff.1 h.r1).1 h1).trans h.r1, (k.block _ (Array.getElem?_eq_some_iff.1 h.r2).1 h2).trans h.r2⟩
theorem Lr.mk_ (w : World) : Lr w.heap.size (((w.alloc (.cells #[.int .i64 0, .int .i64 0, .int .i64 0, .int .i64 0, .int .i64 0, .slice none 0 0, .slice none 0 0, .slice none 0 0] 31)).alloc (.cells #[.int .i64 0, .int .i64 0] 41)).alloc (.cells #[.int .i64 18, .int .i64 0] 41)) ∧
    Below w.heap.size w (((w.alloc (.cells #[.int .i64 0, .int .i64 0, .int .i64 0, .int .i64 0, .int .i64 0, .slice none 0 0, .slice none 0 0, .slice none 0 0] 31)).alloc (.cells #[.int .i64 0, .int .i64 0] 41)).alloc (.cells #[.int .i64 18, .int .i64 0] 41)) ∧
    (((w.alloc (.cells #[.int .i64 0, .int .i64 0, .int .i64 0, .int .i64 0, .int .i64 0, .slice none 0 0, .slice none 0 0, .slice none 0 0] 31)).alloc (.cells #[.int .i64 0, .int .i64 0] 41)).alloc (.cells #[.int .i64 18, .int .i64 0] 41)).heap.size = w.heap.size + 1 + 1 + 1 := by
  have h0 := heap_alloc_new w (.cells #[.int .i64 0, .int .i64 0, .int .i64 0, .int .i64 0, .int .i64 0, .slice none 0 0, .slice none 0 0, .slice none 0 0] 31)
  have b0 : Below w.heap.size w (w.alloc (.cells #[.int .i64 0, .int .i64 0, .int .i64 0, .int .i64 0, .int .i64 0, .slice none 0 0, .slice none 0 0, .slice none 0 0] 31)) := (Below.refl _ _).alloc (Nat.le_refl _) _
  have z0 : (w.alloc (.cells #[.int .i64 0, .int .i64 0, .int .i64 0, .int .i64 0, .int .i64 0, .slice none 0 0, .slice none 0 0, .slice none 0 0] 31)).heap.size = w.heap.size + 1 := by simp
  generalize w.alloc (.cells #[.int .i64 0, .int .i64 0, .int .i64 0, .int .i64 0, .int .i64 0, .slice none 0 0, .slice none 0 0, .slice none 0 0] 31) = w1 at *
  have h1 := heap_alloc_new w1 (.cells #[.int .i64 0, .int .i64 0] 41)
  have b1 : Below w1.heap.size w1 (w1.alloc (.cells #[.int .i64 0, .int .i64 0] 41)) := (Below.refl _ _).alloc (Nat.le_refl _) _
  have z1 : (w1.alloc (.cells #[.int .i64 0, .int .i64 0] 41)).heap.size = w.heap.size + 1 + 1 := by simp [z0]
  generalize w1.alloc (.cells #[.int .i64 0, .int .i64 0] 41) = w2 at *
  have h2 := heap_alloc_new w2 (.cells #[.int .i64 18, .int .i64 0] 41)
  have b2 : Below w2.heap.size w2 (w2.alloc (.cells #[.int .i64 18, .int .i64 0] 41)) := (Below.refl _ _).alloc (Nat.le_refl _) _
  have z2 : (w2.alloc (.cells #[.int .i64 18, .int .i64 0] 41)).heap.size = w.heap.size + 1 + 1 + 1 := by simp [z1]
  generalize w2.alloc (.cells #[.int .i64 18, .int .i64 0] 41) = w3 at *
  rw [z1] at h2; rw [z0] at h1
  exact ⟨⟨heap_below b2 (heap_below b1 h0), heap_below b2 h1, h2⟩, (b0.trans (b1.mono (by omega))).trans (b2.mono (by omega)), z2⟩

/-- a fault written over another -/
def set2 (W : World) (b : Nat) (x0 x1 : Value) : World := (W.setCell ⟨b, 0, none⟩ x0).setCell ⟨b, 1, none⟩ x1
theorem fold2 (W : World) (b : Nat) (x0 x1 : Value) : (W.setCell ⟨b, 0, none⟩ x0).setCell ⟨b, 1, none⟩ x1 = set2 W b x0 x1 := rfl
theorem set2_heap {W : World} {b : Nat} {y0 y1 : Value} {t : TypeId} (h : W.heap[b]? = some (.cells #[y0, y1] t)) (x0 x1 : Value) : (set2 W b x0 x1).heap[b]? = some (.cells #[x0, x1] t) := by
  have h0 := set1_heap h 0 x0
  have h1 := set1_heap h0 1 x1
  unfold set2
  rw [h1]; simp
theorem set2_only (W : World) (b : Nat) (x0 x1 : Value) : Only (fun k => k = b) W (set2 W b x0 x1) := ((Only.refl (fun k => k = b) W).setCell (p := ⟨b, 0, none⟩) (fun _ => rfl) x0).setCell (p := ⟨b, 1, none⟩) (fun _ => rfl) x1
theorem cells2 {W : World} {b : Nat} {x0 x1 : Value} {t : TypeId} (h : W.heap[b]? = some (.cells #[x0, x1] t)) : (W.cell? ⟨b, 0, none⟩ = some x0 ∧ W.cell? ⟨b, 1, none⟩ = some x1) ∧ ∀ j, W.frozen? ⟨b, j, none⟩ = false := by
  refine ⟨⟨?_, ?_⟩, fun j => by simp [World.frozen?, h]⟩
  all_goals (rw [cell_of_row W b _ _ _ _ h]; rfl)
theorem Lr.drew {n0 : Nat} {W : World} (h : Lr n0 W) : Lr n0 W.drew := ⟨h.r0, h.r1, h.r2⟩
theorem bad_zap0 {n0 : Nat} {v : World} (h : Lr n0 v) : Lr n0 (zap v n0) :=
  ⟨zap_heap h.r0, ((zap_only v n0).block _ (Array.getElem?_eq_some_iff.1 h.r1).1 (by omega)).trans h.r1, ((zap_only v n0).block _ (Array.getElem?_eq_some_iff.1 h.r2).1 (by omega)).trans h.r2⟩
theorem bad_zap {n0 : Nat} {w v : World} (h : Lr n0 v) (hb : Below w.heap.size w v) (hn : w.heap.size ≤ n0) : Lr n0 (zap v n0).drew ∧ Below w.heap.size w (zap v n0).drew :=
  ⟨(bad_zap0 h).drew, (zap_below hb hn).drew⟩
/-- the boxes as a way out without a configuration leaves them -/
structure LrBad (n0 : Nat) (W : World) : Prop where
  r0 : W.heap[n0]? = some (.cells #[.int .i64 0, .int .i64 0, .int .i64 0, .int .i64 0, .int .i64 0, .slice none 0 0, .slice none 0 0, .slice none 0 0] 31)
  r1 : W.heap[n0 + 1]? = some (.cells #[.int .i64 18, .int .i64 0] 41)
  f0 : W.cell? ⟨n0 + 1 + 1, 0, none⟩ = some (.int .i64 18)
  f1 : W.cell? ⟨n0 + 1 + 1, 1, none⟩ = some (.int .i64 0)
theorem bad_set {n0 : Nat} {w v : World} (h : Lr n0 v) (hb : Below w.heap.size w v) (hn : w.heap.size ≤ n0) : LrBad n0 (set2 v (n0 + 1) (.int .i64 18) (.int .i64 0)) ∧ Below w.heap.size w (set2 v (n0 + 1) (.int .i64 18) (.int .i64 0)) := by
  have ho := set2_only v (n0 + 1) (.int .i64 18) (.int .i64 0)
  obtain ⟨⟨f0, f1⟩, _⟩ := cells2 h.r2
  exact ⟨⟨(ho.block _ (Array.getElem?_eq_some_iff.1 h.r0).1 (by omega)).trans h.r0, set2_heap h.r1 _ _, ho.cell f0 (by simp), ho.cell f1 (by simp)⟩, (hb.setCell (p := ⟨n0 + 1, 0, none⟩) (by show w.heap.size ≤ n0 + 1; omega) _).setCell (p := ⟨n0 + 1, 1, none⟩) (by show w.heap.size ≤ n0 + 1; omega) _⟩
attribute [local go_sem] Oper.semAt_some in
theorem outsR {tmps : Array Value} {W : World} {b d : Nat} {x0 x1 x2 x3 x4 x5 x6 x7 y0 y1 : Value} (h2 : tmps[2]? = some (.pointer (some ⟨b, 0, none⟩))) (h3 : tmps[3]? = some (.pointer (some ⟨d, 0, none⟩))) (h : W.heap[b]? = some (.cells #[x0, x1, x2, x3, x4, x5, x6, x7] 31)) (h' : W.heap[d]? = some (.cells #[y0, y1] 41)) :
    (results Tryd.f10 tmps).run Tryd.prog W = .ok (.tuple #[.agg #[x0, x1, x2, x3, x4, x5, x6, x7], .agg #[y0, y1]]) W := by
  obtain ⟨⟨c0, c1, c2, c3, c4, c5, c6, c7⟩, _⟩ := cells8 h
  obtain ⟨⟨d0, d1⟩, _⟩ := cells2 h'
  simp [results, Tryd.f10, go_sem, h2, h3, c0, c1, c2, c3, c4, c5, c6, c7, d0, d1]
/-- the shape's numbers as the reference reads them -/
structure RdS (l : List UInt8) (A : Option Addr) (c n0 bS k : Nat) (W : World) : Prop where
  rd : Rd (body l) A c bS W (32 + 16 * k)
  sh : Arr W (bS + 1) 26 5 (shW (body l) k)
  lr : Lr n0 W
theorem rdS0 {l : List UInt8} {A : Option Addr} {c n0 : Nat} {w : World} (hL : Lr n0 w) (hM : Mem w A (body l)) (h4 : 4 ≤ (body l).length) :
    RdS l A c n0 w.heap.size 0 ((w.alloc (.cells #[.slice A (body l).length c, .int .i64 0, .int .i64 32, .bool false] 48)).alloc (.cells #[.int .i64 0, .int .i64 0, .int .i64 0, .int .i64 0, .int .i64 0] 26)) ∧
    Below w.heap.size w ((w.alloc (.cells #[.slice A (body l).length c, .int .i64 0, .int .i64 32, .bool false] 48)).alloc (.cells #[.int .i64 0, .int .i64 0, .int .i64 0, .int .i64 0, .int .i64 0] 26)) := by
  have h0 := heap_alloc_new w (.cells #[.slice A (body l).length c, .int .i64 0, .int .i64 32, .bool false] 48)
  have b0 : Below w.heap.size w (w.alloc (.cells #[.slice A (body l).length c, .int .i64 0, .int .i64 32, .bool false] 48)) := (Below.refl _ _).alloc (Nat.le_refl _) _
  have z0 : (w.alloc (.cells #[.slice A (body l).length c, .int .i64 0, .int .i64 32, .bool false] 48)).heap.size = w.heap.size + 1 := by simp
  generalize w.alloc (.cells #[.slice A (body l).length c, .int .i64 0, .int .i64 32, .bool false] 48) = w1 at *
  have h1 := heap_alloc_new w1 (.cells #[.int .i64 0, .int .i64 0, .int .i64 0, .int .i64 0, .int .i64 0] 26)
  have b1 : Below w1.heap.size w1 (w1.alloc (.cells #[.int .i64 0, .int .i64 0, .int .i64 0, .int .i64 0, .int .i64 0] 26)) := (Below.refl _ _).alloc (Nat.le_refl _) _
  generalize w1.alloc (.cells #[.int .i64 0, .int .i64 0, .int .i64 0, .int .i64 0, .int .i64 0] 26) = w2 at *
  rw [z0] at h1
  have bb : Below w.heap.size w w2 := b0.trans (b1.mono (by omega))
  refine ⟨⟨⟨⟨_, heap_below b1 h0, rfl, fun k hk => ?_⟩, hM.keeps (Keeps.of_below bb)⟩, ⟨_, h1, rfl, fun k hk => ?_⟩, hL.below bb⟩, bb⟩
  · obtain rfl | rfl | rfl | rfl : k = 0 ∨ k = 1 ∨ k = 2 ∨ k = 3 := by omega
    · rfl
    · rfl
    · simp only [rdV]; rw [show min (32 + 16 * 0) (8 * (body l).length) = 32 by omega]; rfl
    · simp only [rdV]; rw [decide_eq_false (show ¬ (8 * (body l).length < 32 + 16 * 0) by omega)]; rfl
  · obtain rfl | rfl | rfl | rfl | rfl : k = 0 ∨ k = 1 ∨ k = 2 ∨ k = 3 ∨ k = 4 := by omega
    all_goals rfl
theorem RdS.next {l : List UInt8} {A : Option Addr} {c n0 bS k : Nat} {W W1 : World} (h : RdS l A c n0 bS k W) (hn : n0 + 1 + 1 < bS) (hM : ∀ b, blockOf A b → b < bS) (hT : Rd (body l) A c bS W1 (32 + 16 * k + 16)) (hO : Only (fun b => b = bS) W W1) (hk : k < 5) :
    (∃ v, W1.cell? ⟨bS + 1, k, none⟩ = some v) ∧ W1.frozen? ⟨bS + 1, k, none⟩ = false ∧ RdS l A c n0 bS (k + 1) (W1.setCell ⟨bS + 1, k, none⟩ (.int .i64 (tkv (body l) (32 + 16 * k) 16))) := by
  have ha := h.sh.only hO (by omega)
  have hO2 : Only (fun b => b = bS + 1) W1 (W1.setCell ⟨bS + 1, k, none⟩ (.int .i64 (tkv (body l) (32 + 16 * k) 16))) := Only.setCell (p := ⟨bS + 1, k, none⟩) (Only.refl (fun b => b = bS + 1) W1) (fun _ => rfl) _
  refine ⟨⟨_, ha.cell hk⟩, ha.thaw k, ⟨?_, ha.set (fun j hj hne => ?_) ?_, (h.lr.only hO (by omega) (by omega) (by omega)).only hO2 (by omega) (by omega) (by omega)⟩⟩
  · rw [show 32 + 16 * (k + 1) = 32 + 16 * k + 16 by omega]
    exact hT.only hO2 (by omega) (fun b hb e => by have := hM b hb; omega)
  · unfold shW
    by_cases h1 : j < k
    · rw [if_pos h1, if_pos (by omega)]
    · rw [if_neg h1, if_neg (by omega)]
  · unfold shW shD
    rw [if_pos (by omega)]
theorem rdN_yes {l : List UInt8} {q n : Nat} (h : q + n ≤ 8 * l.length) : rdN l q n = tkv l q n := if_pos h
end Go.Proofs.YtbnjbclkmjjkhaaDoor
