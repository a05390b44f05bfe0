/- The reference's CnfParse, walked. Condition: the text is shorter than 1000000000 bytes. -/
import Derived.Test.YtlfjchlkooemdaaDoorPaW
import Derived.Test.YtlfjchlkooemdaaDoorNuR
import Derived.Test.YtlfjchlkooemdaaDoorWdR
namespace Go.Proofs.YtlfjchlkooemdaaDoor
open Go.RowKit Go.Shelf Go.Deep

/-- what stands while the reference's CnfParse runs: the results' boxes, the fault's in the making, the words' -/
structure RcI (w0 : World) (txt : List UInt8) (Ws : List Wd0) (a b2 b3 b5 : Nat) (A : Option Addr) (W : World) : Prop where
  r2 : W.heap[b2]? = some (.cells #[.int .i64 0, .slice none 0 0] 25)
  r3 : W.heap[b3]? = some (.cells #[.int .i64 0, .int .i64 0] 31)
  f5 : W.heap[b5]? = some (.cells #[.int .i64 1, .int .i64 (a : Int)] 31)
  row : RowT (fun _ => True) W 51 2 A Ws.length (wv Ws)
  bel : Below w0.heap.size w0 W
  low : w0.heap.size ≤ b2 ∧ b2 < b3 ∧ b3 < b5
def RcBad (txt : List UInt8) (e : Ending) : Prop := ∃ p, parseW (scan txt 0 [] 0) txt.length = .inr p ∧ e = .returned (.tuple #[.agg #[.int .i64 0, .slice none 0 0], .agg #[.int .i64 1, .int .i64 (p : Nat)]])
def RcFine (txt : List UInt8) (e : Ending) (W : World) : Prop := ∃ cs A c, parseW (scan txt 0 [] 0) txt.length = .inl cs ∧ e = .returned (.tuple #[.agg #[.int .i64 ((hdN (scan txt 0 [] 0) 2 : Nat) : Int), .slice A cs.length c], .agg #[.int .i64 0, .int .i64 0]]) ∧ ClM W A cs
/-- two cells written -/
def st2 (W : World) (b : Nat) (x0 x1 : Value) : World := (W.setCell ⟨b, 0, none⟩ x0).setCell ⟨b, 1, none⟩ x1
theorem fold2s (W : World) (b : Nat) (x0 x1 : Value) : (W.setCell ⟨b, 0, none⟩ x0).setCell ⟨b, 1, none⟩ x1 = st2 W b x0 x1 := rfl
theorem st2_only (W : World) (b : Nat) (x0 x1 : Value) : Only (fun k => k = b) W (st2 W b x0 x1) := ((Only.refl (fun k => k = b) W).setCell (p := ⟨b, 0, none⟩) (fun _ => rfl) x0).setCell (p := ⟨b, 1, none⟩) (fun _ => rfl) x1
theorem st2_heap {W : World} {b : Nat} {y0 y1 : Value} {t : TypeId} (h : W.heap[b]? = some (.cells #[y0, y1] t)) (x0 x1 : Value) : (st2 W b x0 x1).heap[b]? = some (.cells #[x0, x1] t) := set2_1 (set2_0 h _) _
section
variable {w0 W W1 : World} {txt : List UInt8} {Ws : List Wd0} {a b2 b3 b5 : Nat} {A : Option Addr}
theorem RcI.call (h : RcI w0 txt Ws a b2 b3 b5 A W) (hb : Below W.heap.size W W1) : RcI w0 txt Ws a b2 b3 b5 A W1 :=
  ⟨heap_below hb h.r2, heap_below hb h.r3, heap_below hb h.f5, h.row.below hb, h.bel.trans (hb.mono h.bel.size), h.low⟩
theorem RcI.drew (h : RcI w0 txt Ws a b2 b3 b5 A W) : RcI w0 txt Ws a b2 b3 b5 A W.drew := h.call ((Below.refl _ W).drew)
theorem RcI.only {S : Nat → Prop} (h : RcI w0 txt Ws a b2 b3 b5 A W) (k : Only S W W1) (h2 : ¬ S b2) (h3 : ¬ S b3) (h5 : ¬ S b5) (hr : ∀ b cur, W.heap[b]? = some (.cells cur 51 (0, 0)) → ¬ S b) (hl : ∀ b, S b → w0.heap.size ≤ b) : RcI w0 txt Ws a b2 b3 b5 A W1 :=
  ⟨k.heap h.r2 h2, k.heap h.r3 h3, k.heap h.f5 h5, h.row.only k (fun b cur _ hb => hr b cur hb), h.bel.trans (k.below (fun b _ hs => hl b hs) h.bel.size), h.low⟩
theorem RcI.at_ (h : RcI w0 txt Ws a b2 b3 b5 A W) (a' : Nat) : RcI w0 txt Ws a' b2 b3 b5 A (W.setCell ⟨b5, 1, none⟩ (.int .i64 (a' : Int))) := by
  have k : Only (fun b => b = b5) W (W.setCell ⟨b5, 1, none⟩ (.int .i64 (a' : Int))) := Only.setCell (p := ⟨b5, 1, none⟩) (Only.refl (fun b => b = b5) W) (fun _ => rfl) _
  have hl := h.low
  exact ⟨k.heap h.r2 (by omega), k.heap h.r3 (by omega), set2_1 h.f5 _, h.row.only k (fun b cur _ hb hs => ne_type hb h.f5 (by decide) hs), h.bel.trans (k.below (fun b _ e => by omega) h.bel.size), h.low⟩
theorem RcI.zap (h : RcI w0 txt Ws a b2 b3 b5 A W) : RcI w0 txt Ws a b2 b3 b5 A (st2 W b2 (.int .i64 0) (.slice none 0 0)).drew := by
  have k := st2_only W b2 (.int .i64 0) (.slice none 0 0)
  have hl := h.low
  exact RcI.drew ⟨st2_heap h.r2 _ _, k.heap h.r3 (by omega), k.heap h.f5 (by omega), h.row.only k (fun b cur _ hb hs => ne_type hb h.r2 (by decide) hs), h.bel.trans (k.below (fun b _ e => by omega) h.bel.size), h.low⟩
theorem RcI.bad (h : RcI w0 txt Ws a b2 b3 b5 A W) (p : Nat) : (st2 W b3 (.int .i64 1) (.int .i64 (p : Int))).heap[b2]? = some (.cells #[.int .i64 0, .slice none 0 0] 25) ∧
    (st2 W b3 (.int .i64 1) (.int .i64 (p : Int))).heap[b3]? = some (.cells #[.int .i64 1, .int .i64 (p : Int)] 31) ∧ (st2 W b3 (.int .i64 1) (.int .i64 (p : Int))).heap[b5]? = some (.cells #[.int .i64 1, .int .i64 (a : Int)] 31) ∧ RowT (fun _ => True) (st2 W b3 (.int .i64 1) (.int .i64 (p : Int))) 51 2 A Ws.length (wv Ws) ∧ Below w0.heap.size w0 (st2 W b3 (.int .i64 1) (.int .i64 (p : Int))) := by
  have k := st2_only W b3 (.int .i64 1) (.int .i64 (p : Int))
  have hl := h.low
  exact ⟨k.heap h.r2 (by omega), st2_heap h.r3 _ _, k.heap h.f5 (by omega), h.row.only k (fun b cur _ hb hs => ne_type hb h.r3 (by decide) hs), h.bel.trans (k.below (fun b _ e => by omega) h.bel.size)⟩
theorem RcI.fine {cs : List (List Int)} {vs c2 z : Nat} {A2 : Option Addr} {RA : Nat → Option Addr} {RC : Nat → Nat} (h : RcI w0 txt Ws a b2 b3 b5 A W) (hp : parseW (scan txt 0 [] 0) txt.length = .inl cs) (hv : vs = hdN (scan txt 0 [] 0) 2) (hc : Cls W z A2 c2 cs RA RC) :
    (st2 (st2 W b2 (.int .i64 (vs : Int)) (.slice A2 cs.length c2)) b3 (.int .i64 0) (.int .i64 0)).heap[b2]? = some (.cells #[.int .i64 (vs : Int), .slice A2 cs.length c2] 25) ∧
    (st2 (st2 W b2 (.int .i64 (vs : Int)) (.slice A2 cs.length c2)) b3 (.int .i64 0) (.int .i64 0)).heap[b3]? = some (.cells #[.int .i64 0, .int .i64 0] 31) ∧
    (RcFine txt (.returned (.tuple #[.agg #[.int .i64 (vs : Int), .slice A2 cs.length c2], .agg #[.int .i64 0, .int .i64 0]])) (st2 (st2 W b2 (.int .i64 (vs : Int)) (.slice A2 cs.length c2)) b3 (.int .i64 0) (.int .i64 0)) ∧
      Below w0.heap.size w0 (st2 (st2 W b2 (.int .i64 (vs : Int)) (.slice A2 cs.length c2)) b3 (.int .i64 0) (.int .i64 0))) := by
  have hl := h.low
  have k1 := st2_only W b2 (.int .i64 (vs : Int)) (.slice A2 cs.length c2)
  have k2 := st2_only (st2 W b2 (.int .i64 (vs : Int)) (.slice A2 cs.length c2)) b3 (.int .i64 0) (.int .i64 0)
  have e2 := st2_heap h.r2 (.int .i64 (vs : Int)) (.slice A2 cs.length c2)
  have e3 := k1.heap h.r3 (by omega)
  have c1 : Cls _ z A2 c2 cs RA RC := hc.only k1 (fun b cur e he hb hs => ne_type hb h.r2 (by rcases he with rfl | rfl <;> decide) hs)
  have c3 : Cls _ z A2 c2 cs RA RC := c1.only k2 (fun b cur e he hb hs => ne_type hb e3 (by rcases he with rfl | rfl <;> decide) hs)
  have b1 := h.bel.trans (k1.below (fun b _ e => by omega) h.bel.size)
  exact ⟨k2.heap e2 (by omega), st2_heap e3 _ _, ⟨cs, A2, c2, hp, by rw [hv], c3.mat⟩, b1.trans (k2.below (fun b _ e => by omega) b1.size)⟩
end
attribute [local go_sem] Oper.semAt_some in
theorem outsC {tmps : Array Value} {W : World} {b b' : Nat} {x0 x1 y0 y1 : Value} (h2 : tmps[2]? = some (.pointer (some ⟨b, 0, none⟩))) (h3 : tmps[3]? = some (.pointer (some ⟨b', 0, none⟩))) (h : W.heap[b]? = some (.cells #[x0, x1] 25)) (h' : W.heap[b']? = some (.cells #[y0, y1] 31)) :
    (results Tryd.f6 tmps).run Tryd.prog W = .ok (.tuple #[.agg #[x0, x1], .agg #[y0, y1]]) W := by
  obtain ⟨⟨c0, c1⟩, _⟩ := box2 h
  obtain ⟨⟨d0, d1⟩, _⟩ := box2 h'
  simp [results, Tryd.f6, go_sem, h2, h3, c0, c1, d0, d1]
/-- the head's numbers, laid on one by one -/
def hv (Ws : List Wd0) (j : Nat) : Value := .int .i64 ((hdN Ws j : Nat) : Int)
theorem hv_more (Ws : List Wd0) (k : Nat) : ((List.range k).map (hv Ws)) ++ [.int .i64 ((hdN Ws k : Nat) : Int)] = (List.range (k + 1)).map (hv Ws) := by rw [List.range_succ]; simp [hv]

theorem word_in2 {p : Nat → Prop} {w : World} {e : TypeId} {A : Option Addr} {Ws : List Wd0} (h : RowT p w e 2 A Ws.length (wv Ws)) {i : Nat} (hi : i < Ws.length) :
    ∃ b off cur, A = some ⟨b, off, none⟩ ∧ w.heap[b]? = some (.cells cur e (0, 0)) ∧ w.cell? ⟨b, off + i * 2, none⟩ = some (.string (bstr (Ws.getD i ([], 0)).1)) ∧ w.cell? ⟨b, off + i * 2 + 1, none⟩ = some (.int .i64 ((Ws.getD i ([], 0)).2 : Nat)) := by
  obtain ⟨b, off, cur, e', _, hh, hc⟩ := h (by omega)
  refine ⟨b, off, cur, e', hh, ?_, ?_⟩
  · rw [cell_of_row w b _ _ _ _ hh]
    exact hc i hi 0 (by omega)
  · rw [cell_of_row w b _ _ _ _ hh]
    exact hc i hi 1 (by omega)
theorem own_no {w : World} {base : Nat} {e : TypeId} {sz n c : Nat} {A : Option Addr} {xs : List Value} (h : w.ownsRow base e sz (.slice A n c) n xs) {b : Nat} (hb : b < base) : ¬ blockOf A b := fun hs => by have := own_base h b hs; omega
theorem Only.drewCell {S : Nat → Prop} {A B : World} (k : Only S A B) : Only S A B.drew := k.drew
set_option maxRecDepth 100000 in
set_option maxHeartbeats 16000000 in
theorem cnfParse_any (txt : List UInt8) (w : World) (hs : txt.length ≤ 1000000000) (hwl : ∀ x ∈ scan txt 0 [] 0, x.1.length ≤ 1000000000) (hWs : (scan txt 0 [] 0).length ≤ 1000000000) :
    Calls Tryd.prog 6 #[.string (bstr txt)] w fun e w' => (RcBad txt e ∨ RcFine txt e w') ∧ Below w.heap.size w w' := by
  obtain ⟨Ws, hWe⟩ : ∃ Ws, Ws = scan txt 0 [] 0 := ⟨_, rfl⟩
  have HWE := Lib.hid hWe
  have hwa : ∀ w1 : World, Calls Tryd.prog 13 #[.string (bstr txt)] w1 fun e w' => (∃ A c, e = .returned (.slice A Ws.length c) ∧ RowT (fun _ => True) w' 51 2 A Ws.length (wv Ws)) ∧ Below w1.heap.size w1 w' := fun w1 => by rw [hWe]; exact refWords_any txt w1 hs
  rw [← hWe] at hwl hWs
  obtain ⟨s, hse⟩ : ∃ s, s = bstr txt := ⟨_, rfl⟩
  have hsz : s.size = txt.length := by rw [hse]; exact bstr_size txt
  rw [← hse] at hwa ⊢
  clear hWe hse
  have HWL := Lib.hid hwl
  clear hwl
  go_enter Tryd.func6, Tryd.ntmps6
  go_wp2_with fail
  have hw0 : Below w.heap.size w ((w.alloc (.cells #[.int .i64 0, .slice none 0 0] 25)).alloc (.cells #[.int .i64 0, .int .i64 0] 31)) := ((Below.refl _ _).alloc (Nat.le_refl _) _).alloc (by simp) _
  have hk1 : ((w.alloc (.cells #[.int .i64 0, .slice none 0 0] 25)).alloc (.cells #[.int .i64 0, .int .i64 0] 31)).heap[w.heap.size]? = some (.cells #[.int .i64 0, .slice none 0 0] 25) := (Below.heap_alloc _ _ _ (by simp)).trans (heap_alloc_new w _)
  have hk2 : ((w.alloc (.cells #[.int .i64 0, .slice none 0 0] 25)).alloc (.cells #[.int .i64 0, .int .i64 0] 31)).heap[w.heap.size + 1]? = some (.cells #[.int .i64 0, .int .i64 0] 31) := by
    have h := heap_alloc_new (w.alloc (.cells #[.int .i64 0, .slice none 0 0] 25)) (.cells #[.int .i64 0, .int .i64 0] 31)
    rw [World.size_alloc] at h
    exact h
  refine (hwa _).mono ?_
  rintro e w1 ⟨⟨A, c, rfl, hrow⟩, hb1⟩
  replace hk1 := heap_below hb1 hk1
  replace hk2 := heap_below hb1 hk2
  have hw1 := hw0.trans (hb1.mono (by simp; omega))
  have hsz1 : w.heap.size + 2 ≤ w1.heap.size := by have := hb1.size; simpa using this
  clear hw0 hb1 hwa
  go_wp2_with fail
  have hn5 := heap_alloc_new w1 (.cells #[.int .i64 1, .int .i64 (txt.length : Int)] 31)
  have hba : Below w1.heap.size w1 (w1.alloc (.cells #[.int .i64 1, .int .i64 (txt.length : Int)] 31)) := (Below.refl _ _).alloc (Nat.le_refl _) _
  have hP3 : RcI w txt Ws txt.length w.heap.size (w.heap.size + 1) w1.heap.size A (w1.alloc (.cells #[.int .i64 1, .int .i64 (txt.length : Int)] 31)) :=
    ⟨heap_below hba hk1, heap_below hba hk2, hn5, hrow.below hba, hw1.trans (hba.mono (by omega)), by omega⟩
  have hz3 : (w1.alloc (.cells #[.int .i64 1, .int .i64 (txt.length : Int)] 31)).heap.size = w1.heap.size + 1 := by simp
  generalize w1.alloc (.cells #[.int .i64 1, .int .i64 (txt.length : Int)] 31) = w3 at *
  obtain ⟨b5, hb5⟩ : ∃ b, b = w1.heap.size := ⟨_, rfl⟩
  rw [← hb5] at hP3 ⊢
  obtain ⟨b3, hb3⟩ : ∃ b, b = w.heap.size + 1 := ⟨_, rfl⟩
  rw [← hb3] at hP3 ⊢
  obtain ⟨b2, hb2⟩ : ∃ b, b = w.heap.size := ⟨_, rfl⟩
  rw [← hb2] at hP3 ⊢
  obtain ⟨z, hz⟩ : ∃ z, z = w3.heap.size := ⟨_, rfl⟩
  have HE : Hid (b2 = w.heap.size ∧ b3 = b2 + 1 ∧ b3 < b5 ∧ z = w3.heap.size ∧ w3.heap.size = b5 + 1) := Lib.hid ⟨hb2, by omega, by omega, hz, by omega⟩
  have HP3 := Lib.hid hP3
  clear hb2 hb3 hb5 hP3 hn5 hba hk1 hk2 hw1 hsz1 hz3 hrow hz
  go_loopw [6, 7] (fun vh vk wr => ∃ (k : Nat) (H : Option Addr) (ch : Nat), k ≤ 4 ∧ k ≤ Ws.length ∧ vh = .slice H k ch ∧ vk = .int .i64 k ∧ Hid (HdOk Ws txt.length k) ∧ Hid (RcI w txt Ws txt.length b2 b3 b5 A wr) ∧ Hid (z ≤ wr.heap.size ∧ wr.ownsRow z 3 1 (.slice H k ch) k ((List.range k).map (hv Ws)))) (fun _ vk _ => 4 - (intOf vk).toNat)
  case atStart => exact ⟨0, none, 0, by omega, by omega, rfl, rfl, Lib.hid rfl, HP3, Lib.hid ⟨by have := HE.out; omega, World.ownsRow_nil _ _ _ _⟩⟩
  case round =>
    clear HP3
    obtain ⟨k, H, ch, hk, hkl, rfl, rfl, HOK, HP, HH⟩ := hrel
    obtain ⟨wq, hwq⟩ : ∃ wq, wq = wr := ⟨_, rfl⟩
    subst hwq
    by_cases hk4 : k < 4
    · -- QB head
      by_cases hlt : k < Ws.length
      · obtain rfl | rfl | rfl | rfl : k = 0 ∨ k = 1 ∨ k = 2 ∨ k = 3 := by omega
        · obtain ⟨bA, oA, cur, rfl, hhA, x0, x1⟩ := word_in2 HP.out.row hlt
          obtain ⟨wk, hwk⟩ : ∃ wk, wk = (Ws.getD 0 ([], 0)).1 := ⟨_, rfl⟩
          obtain ⟨P, hPe⟩ : ∃ P, P = (Ws.getD 0 ([], 0)).2 := ⟨_, rfl⟩
          rw [← hwk] at x0
          rw [← hPe] at x1
          obtain ⟨q, hq⟩ : ∃ q, q = bstr wk := ⟨_, rfl⟩
          rw [← hq] at x0
          have HQT : Hid (q.toList = wk) := Lib.hid (by rw [hq]; exact bstr_toList wk)
          have HPE : Hid (P = atW Ws txt.length 0) := Lib.hid (by rw [atW_lt hlt]; exact hPe)
          have HNU : Hid (∀ W, Calls Tryd.prog 14 #[.string q] W fun e w' => e = .returned (.tuple #[.int .i64 ((numB wk).getD 0 : Nat), .bool (numB wk).isSome]) ∧ Below W.heap.size W w') := Lib.hid (fun W => by
            rw [hq]
            exact figures_any wk W (by rw [hwk]; exact HWL.out _ (getD_mem hlt)))
          obtain ⟨N, hN⟩ : ∃ N, N = numB wk := ⟨_, rfl⟩
          rw [← hN] at HNU
          have HDN : Hid (hdN Ws 0 = N.getD 0) := Lib.hid (by unfold hdN; rw [← hwk, ← hN])
          have HNL : Hid (N.getD 0 < 1000000000) := Lib.hid (by
            cases hNe : N with
            | none => simp
            | some n => exact numB_le (by rw [← hN]; exact hNe))
          have HNW := Lib.hid hN
          have HWK := Lib.hid hwk
          clear hwk hq hN hPe
          have hne : ¬ Ws = [] := fun h => by rw [h] at hlt; exact absurd hlt (Nat.not_lt_zero _)
          rw [show ((0 : Nat) : Int) = 0 from rfl]
          replace x0 : wq.cell? ⟨bA, oA, none⟩ = some (.string q) := by simpa using x0
          replace x1 : wq.cell? ⟨bA, oA + 1, none⟩ = some (.int .i64 (P : Nat)) := by simpa using x1
          obtain ⟨⟨f0, f1⟩, fz⟩ := box2 HP.out.f5
          have fz1 := fz 1
          have hneA := ne_type hhA HP.out.f5 (by decide)
          have HPa := Lib.hid (HP.out.at_ P)
          have hk5 : Only (fun b => b = b5) wq (wq.setCell ⟨b5, 1, none⟩ (.int .i64 (P : Int))) := Only.setCell (p := ⟨b5, 1, none⟩) (Only.refl (fun b => b = b5) wq) (fun _ => rfl) _
          have HHa : Hid (z ≤ (wq.setCell ⟨b5, 1, none⟩ (.int .i64 (P : Int))).heap.size ∧ (wq.setCell ⟨b5, 1, none⟩ (.int .i64 (P : Int))).ownsRow z 3 1 (.slice H 0 ch) 0 ((List.range 0).map (hv Ws))) := Lib.hid ⟨Nat.le_trans HH.out.1 hk5.size, own_only HH.out.2 hk5 (fun j hj e => by have := own_base HH.out.2 j hj; have := HE.out; omega)⟩
          have x0a := hk5.cell (p := ⟨bA, oA, none⟩) x0 hneA
          go_upto_region 10 with (fail)
          clear f0 f1 fz fz1 x0 x1 hneA hk5 HP HH
          generalize wq.setCell ⟨b5, 1, none⟩ (.int .i64 (P : Int)) = wa at *
          go_wp2_with fail
          refine (HNU.out _).mono ?_
          rintro e w2 ⟨rfl, hb2⟩
          have HP2 := Lib.hid (HPa.out.call hb2)
          have HH2 : Hid (z ≤ w2.heap.size ∧ w2.ownsRow z 3 1 (.slice H 0 ch) 0 ((List.range 0).map (hv Ws))) := Lib.hid ⟨Nat.le_trans HHa.out.1 hb2.size, own_below HHa.out.2 hb2⟩
          have x2 := (Keeps.of_below hb2) _ _ x0a
          clear hb2 x0a HPa HHa hhA HNU
          by_cases hp : wk = [112]
          · have hqp : (q.toList == [112]) = true := by rw [HQT.out, hp]; rfl
            have hnl := HNL.out
            have HG := Lib.hid (HOK.out.next hk4 hlt (by rw [← HWK.out, hp]; rfl))
            clear hp
            have hzz := HH2.out.1
            have hoh := HH2.out.2
            go_wp2_with (at_builtin; refine wp_append rfl (.tmp 84) (.tmp 86) _ rfl elIn z H 0 ch _ rfl (hoh.alloc _) _ 1 1 [.int .i64 (N.getD 0 : Nat)] rfl (src_new _ _ _ rfl) (by omega) (sz_alloc hzz) ?_; intro H' ch' w4 ho hk' hb'; have HP4 := Lib.hid ((HP2.out.call ((Below.refl _ w2).alloc (Nat.le_refl _) _)).only hk' (own_no hoh (by have := HE.out; omega)) (own_no hoh (by have := HE.out; omega)) (own_no hoh (by have := HE.out; omega)) (fun b cur hb => own_type (e' := 51) (hoh.alloc _) (by decide) b cur hb) (fun b e => by have := own_base hoh b e; have := HE.out; omega)); obtain ⟨⟨g0, g1⟩, gz⟩ := box2 HP4.out.f5; have gz1 := gz 1)
            have HP5 := Lib.hid (HP4.out.at_ txt.length)
            have hk5 : Only (fun b => b = b5) w4 (w4.setCell ⟨b5, 1, none⟩ (.int .i64 (txt.length : Int))) := Only.setCell (p := ⟨b5, 1, none⟩) (Only.refl (fun b => b = b5) w4) (fun _ => rfl) _
            have hzl : z ≤ w4.heap.size := Nat.le_trans hzz (Nat.le_trans (by simp) hk'.size)
            rw [← HDN.out, hv_more] at ho
            exact ⟨⟨1, H', ch', by omega, hlt, rfl, rfl, HG, HP5, Lib.hid ⟨Nat.le_trans hzl hk5.size, own_only ho hk5 (fun j hj e => by have := own_base ho j hj; have := HE.out; omega)⟩⟩, by simp [intOf]⟩
          · have hqp : (q.toList == [112]) = false := by rw [HQT.out]; simpa using hp
            have HBD := Lib.hid (HOK.out.bad hk4 (fun _ => by rw [← HWK.out]; show (!(wk == [112])) = true; simp [hp]))
            clear hp
            obtain ⟨⟨f0, f1⟩, fz⟩ := box2 HP2.out.f5
            obtain ⟨⟨c0, c1⟩, cz⟩ := box2 HP2.out.r2
            have cz0 := cz 0
            have cz1 := cz 1
            go_wp2_with fail
            refine wp_region_z (fun w' => w'.cell? ⟨b5, 0, none⟩ = some (.int .i64 1) ∧ w'.cell? ⟨b5, 1, none⟩ = some (.int .i64 (P : Nat))) [0, 1] [] (by kernel_rfl) (by kernel_rfl) (by kernel_rfl) (by rfl) (fun _ _ _ _ e h => ⟨e.symm.trans h.1, h.2⟩) ⟨f0, f1⟩ ?_
            iterate 2
              refine Heads.step (v := ?_) rfl (by first | (go_simp; done) | rfl) (fun W hW => ?_) ?_
              rotate_left
              · (obtain ⟨t0, t1⟩ := hW; go_simp; try with_reducible rfl)
            refine AnyZ.one (i := 2) (by kernel_rfl) rfl (fun K hK => ?_)
            go_simp
            rw [fold2s]
            have hL5 := HP2.out.zap
            clear c0 c1 cz cz0 cz1 f0 f1 fz
            generalize (st2 _ b2 (.int .i64 0) (.slice none 0 0)).drew = v5 at *
            obtain ⟨⟨f0, f1⟩, fz⟩ := box2 hL5.f5
            refine hK _ _ (fun _ => ⟨f0, f1⟩) ?_
            clear hK
            obtain ⟨⟨d0, d1⟩, dz⟩ := box2 hL5.r3
            have dz0 := dz 0
            have dz1 := dz 1
            refine AnyZ.one (i := 3) (by kernel_rfl) rfl (fun K hK => ?_)
            go_simp
            rw [fold2s]
            have hL6 := hL5.bad (P)
            clear d0 d1 dz dz0 dz1
            clear f0 f1 fz
            generalize st2 v5 b3 (.int .i64 1) _ = v6 at *
            obtain ⟨⟨f0, f1⟩, fz⟩ := box2 hL6.2.2.1
            refine hK _ _ (fun _ => ⟨f0, f1⟩) (AnyZ.done (by kernel_rfl) ?_)
            clear hK
            go_simp
            obtain ⟨⟨c0, c1⟩, cz⟩ := box2 hL6.1
            obtain ⟨⟨d0, d1⟩, dz⟩ := box2 hL6.2.1
            go_wp2_with fail
            exact ⟨rfl, _, outsC rfl rfl hL6.1 hL6.2.1, .inl ⟨P, (by rw [← HWE.out, HPE.out]; exact HBD.out), rfl⟩, hL6.2.2.2.2⟩
        · obtain ⟨bA, oA, cur, rfl, hhA, x0, x1⟩ := word_in2 HP.out.row hlt
          obtain ⟨wk, hwk⟩ : ∃ wk, wk = (Ws.getD 1 ([], 0)).1 := ⟨_, rfl⟩
          obtain ⟨P, hPe⟩ : ∃ P, P = (Ws.getD 1 ([], 0)).2 := ⟨_, rfl⟩
          rw [← hwk] at x0
          rw [← hPe] at x1
          obtain ⟨q, hq⟩ : ∃ q, q = bstr wk := ⟨_, rfl⟩
          rw [← hq] at x0
          have HQT : Hid (q.toList = wk) := Lib.hid (by rw [hq]; exact bstr_toList wk)
          have HPE : Hid (P = atW Ws txt.length 1) := Lib.hid (by rw [atW_lt hlt]; exact hPe)
          have HNU : Hid (∀ W, Calls Tryd.prog 14 #[.string q] W fun e w' => e = .returned (.tuple #[.int .i64 ((numB wk).getD 0 : Nat), .bool (numB wk).isSome]) ∧ Below W.heap.size W w') := Lib.hid (fun W => by
            rw [hq]
            exact figures_any wk W (by rw [hwk]; exact HWL.out _ (getD_mem hlt)))
          obtain ⟨N, hN⟩ : ∃ N, N = numB wk := ⟨_, rfl⟩
          rw [← hN] at HNU
          have HDN : Hid (hdN Ws 1 = N.getD 0) := Lib.hid (by unfold hdN; rw [← hwk, ← hN])
          have HNL : Hid (N.getD 0 < 1000000000) := Lib.hid (by
            cases hNe : N with
            | none => simp
            | some n => exact numB_le (by rw [← hN]; exact hNe))
          have HNW := Lib.hid hN
          have HWK := Lib.hid hwk
          clear hwk hq hN hPe
          have hne : ¬ Ws = [] := fun h => by rw [h] at hlt; exact absurd hlt (Nat.not_lt_zero _)
          rw [show ((1 : Nat) : Int) = 1 from rfl]
          replace x0 : wq.cell? ⟨bA, oA + 2, none⟩ = some (.string q) := by simpa using x0
          replace x1 : wq.cell? ⟨bA, oA + 3, none⟩ = some (.int .i64 (P : Nat)) := by simpa using x1
          obtain ⟨⟨f0, f1⟩, fz⟩ := box2 HP.out.f5
          have fz1 := fz 1
          have hneA := ne_type hhA HP.out.f5 (by decide)
          have HPa := Lib.hid (HP.out.at_ P)
          have hk5 : Only (fun b => b = b5) wq (wq.setCell ⟨b5, 1, none⟩ (.int .i64 (P : Int))) := Only.setCell (p := ⟨b5, 1, none⟩) (Only.refl (fun b => b = b5) wq) (fun _ => rfl) _
          have HHa : Hid (z ≤ (wq.setCell ⟨b5, 1, none⟩ (.int .i64 (P : Int))).heap.size ∧ (wq.setCell ⟨b5, 1, none⟩ (.int .i64 (P : Int))).ownsRow z 3 1 (.slice H 1 ch) 1 ((List.range 1).map (hv Ws))) := Lib.hid ⟨Nat.le_trans HH.out.1 hk5.size, own_only HH.out.2 hk5 (fun j hj e => by have := own_base HH.out.2 j hj; have := HE.out; omega)⟩
          have x0a := hk5.cell (p := ⟨bA, oA + 2, none⟩) x0 hneA
          go_upto_region 10 with (fail)
          clear f0 f1 fz fz1 x0 x1 hneA hk5 HP HH
          generalize wq.setCell ⟨b5, 1, none⟩ (.int .i64 (P : Int)) = wa at *
          go_wp2_with fail
          refine (HNU.out _).mono ?_
          rintro e w2 ⟨rfl, hb2⟩
          have HP2 := Lib.hid (HPa.out.call hb2)
          have HH2 : Hid (z ≤ w2.heap.size ∧ w2.ownsRow z 3 1 (.slice H 1 ch) 1 ((List.range 1).map (hv Ws))) := Lib.hid ⟨Nat.le_trans HHa.out.1 hb2.size, own_below HHa.out.2 hb2⟩
          have x2 := (Keeps.of_below hb2) _ _ x0a
          clear hb2 x0a HPa HHa hhA HNU
          by_cases hp : wk = [99, 110, 102]
          · have hqp : (q.toList == [99, 110, 102]) = true := by rw [HQT.out, hp]; rfl
            have hnl := HNL.out
            have HG := Lib.hid (HOK.out.next hk4 hlt (by rw [← HWK.out, hp]; rfl))
            clear hp
            have hzz := HH2.out.1
            have hoh := HH2.out.2
            go_wp2_with (at_builtin; refine wp_append rfl (.tmp 84) (.tmp 86) _ rfl elIn z H 1 ch _ rfl (hoh.alloc _) _ 1 1 [.int .i64 (N.getD 0 : Nat)] rfl (src_new _ _ _ rfl) (by omega) (sz_alloc hzz) ?_; intro H' ch' w4 ho hk' hb'; have HP4 := Lib.hid ((HP2.out.call ((Below.refl _ w2).alloc (Nat.le_refl _) _)).only hk' (own_no hoh (by have := HE.out; omega)) (own_no hoh (by have := HE.out; omega)) (own_no hoh (by have := HE.out; omega)) (fun b cur hb => own_type (e' := 51) (hoh.alloc _) (by decide) b cur hb) (fun b e => by have := own_base hoh b e; have := HE.out; omega)); obtain ⟨⟨g0, g1⟩, gz⟩ := box2 HP4.out.f5; have gz1 := gz 1)
            have HP5 := Lib.hid (HP4.out.at_ txt.length)
            have hk5 : Only (fun b => b = b5) w4 (w4.setCell ⟨b5, 1, none⟩ (.int .i64 (txt.length : Int))) := Only.setCell (p := ⟨b5, 1, none⟩) (Only.refl (fun b => b = b5) w4) (fun _ => rfl) _
            have hzl : z ≤ w4.heap.size := Nat.le_trans hzz (Nat.le_trans (by simp) hk'.size)
            rw [← HDN.out, hv_more] at ho
            exact ⟨⟨2, H', ch', by omega, hlt, rfl, rfl, HG, HP5, Lib.hid ⟨Nat.le_trans hzl hk5.size, own_only ho hk5 (fun j hj e => by have := own_base ho j hj; have := HE.out; omega)⟩⟩, by simp [intOf]⟩
          · have hqp : (q.toList == [99, 110, 102]) = false := by rw [HQT.out]; simpa using hp
            have HBD := Lib.hid (HOK.out.bad hk4 (fun _ => by rw [← HWK.out]; show (!(wk == [99, 110, 102])) = true; simp [hp]))
            clear hp
            obtain ⟨⟨f0, f1⟩, fz⟩ := box2 HP2.out.f5
            obtain ⟨⟨c0, c1⟩, cz⟩ := box2 HP2.out.r2
            have cz0 := cz 0
            have cz1 := cz 1
            go_wp2_with fail
            refine wp_region_z (fun w' => w'.cell? ⟨b5, 0, none⟩ = some (.int .i64 1) ∧ w'.cell? ⟨b5, 1, none⟩ = some (.int .i64 (P : Nat))) [0, 1] [] (by kernel_rfl) (by kernel_rfl) (by kernel_rfl) (by rfl) (fun _ _ _ _ e h => ⟨e.symm.trans h.1, h.2⟩) ⟨f0, f1⟩ ?_
            iterate 2
              refine Heads.step (v := ?_) rfl (by first | (go_simp; done) | rfl) (fun W hW => ?_) ?_
              rotate_left
              · (obtain ⟨t0, t1⟩ := hW; go_simp; try with_reducible rfl)
            refine AnyZ.one (i := 2) (by kernel_rfl) rfl (fun K hK => ?_)
            go_simp
            rw [fold2s]
            have hL5 := HP2.out.zap
            clear c0 c1 cz cz0 cz1 f0 f1 fz
            generalize (st2 _ b2 (.int .i64 0) (.slice none 0 0)).drew = v5 at *
            obtain ⟨⟨f0, f1⟩, fz⟩ := box2 hL5.f5
            refine hK _ _ (fun _ => ⟨f0, f1⟩) ?_
            clear hK
            obtain ⟨⟨d0, d1⟩, dz⟩ := box2 hL5.r3
            have dz0 := dz 0
            have dz1 := dz 1
            refine AnyZ.one (i := 3) (by kernel_rfl) rfl (fun K hK => ?_)
            go_simp
            rw [fold2s]
            have hL6 := hL5.bad (P)
            clear d0 d1 dz dz0 dz1
            clear f0 f1 fz
            generalize st2 v5 b3 (.int .i64 1) _ = v6 at *
            obtain ⟨⟨f0, f1⟩, fz⟩ := box2 hL6.2.2.1
            refine hK _ _ (fun _ => ⟨f0, f1⟩) (AnyZ.done (by kernel_rfl) ?_)
            clear hK
            go_simp
            obtain ⟨⟨c0, c1⟩, cz⟩ := box2 hL6.1
            obtain ⟨⟨d0, d1⟩, dz⟩ := box2 hL6.2.1
            go_wp2_with fail
            exact ⟨rfl, _, outsC rfl rfl hL6.1 hL6.2.1, .inl ⟨P, (by rw [← HWE.out, HPE.out]; exact HBD.out), rfl⟩, hL6.2.2.2.2⟩
        · obtain ⟨bA, oA, cur, rfl, hhA, x0, x1⟩ := word_in2 HP.out.row hlt
          obtain ⟨wk, hwk⟩ : ∃ wk, wk = (Ws.getD 2 ([], 0)).1 := ⟨_, rfl⟩
          obtain ⟨P, hPe⟩ : ∃ P, P = (Ws.getD 2 ([], 0)).2 := ⟨_, rfl⟩
          rw [← hwk] at x0
          rw [← hPe] at x1
          obtain ⟨q, hq⟩ : ∃ q, q = bstr wk := ⟨_, rfl⟩
          rw [← hq] at x0
          have HQT : Hid (q.toList = wk) := Lib.hid (by rw [hq]; exact bstr_toList wk)
          have HPE : Hid (P = atW Ws txt.length 2) := Lib.hid (by rw [atW_lt hlt]; exact hPe)
          have HNU : Hid (∀ W, Calls Tryd.prog 14 #[.string q] W fun e w' => e = .returned (.tuple #[.int .i64 ((numB wk).getD 0 : Nat), .bool (numB wk).isSome]) ∧ Below W.heap.size W w') := Lib.hid (fun W => by
            rw [hq]
            exact figures_any wk W (by rw [hwk]; exact HWL.out _ (getD_mem hlt)))
          obtain ⟨N, hN⟩ : ∃ N, N = numB wk := ⟨_, rfl⟩
          rw [← hN] at HNU
          have HDN : Hid (hdN Ws 2 = N.getD 0) := Lib.hid (by unfold hdN; rw [← hwk, ← hN])
          have HNL : Hid (N.getD 0 < 1000000000) := Lib.hid (by
            cases hNe : N with
            | none => simp
            | some n => exact numB_le (by rw [← hN]; exact hNe))
          have HNW := Lib.hid hN
          have HWK := Lib.hid hwk
          clear hwk hq hN hPe
          have hne : ¬ Ws = [] := fun h => by rw [h] at hlt; exact absurd hlt (Nat.not_lt_zero _)
          rw [show ((2 : Nat) : Int) = 2 from rfl]
          replace x0 : wq.cell? ⟨bA, oA + 4, none⟩ = some (.string q) := by simpa using x0
          replace x1 : wq.cell? ⟨bA, oA + 5, none⟩ = some (.int .i64 (P : Nat)) := by simpa using x1
          obtain ⟨⟨f0, f1⟩, fz⟩ := box2 HP.out.f5
          have fz1 := fz 1
          have hneA := ne_type hhA HP.out.f5 (by decide)
          have HPa := Lib.hid (HP.out.at_ P)
          have hk5 : Only (fun b => b = b5) wq (wq.setCell ⟨b5, 1, none⟩ (.int .i64 (P : Int))) := Only.setCell (p := ⟨b5, 1, none⟩) (Only.refl (fun b => b = b5) wq) (fun _ => rfl) _
          have HHa : Hid (z ≤ (wq.setCell ⟨b5, 1, none⟩ (.int .i64 (P : Int))).heap.size ∧ (wq.setCell ⟨b5, 1, none⟩ (.int .i64 (P : Int))).ownsRow z 3 1 (.slice H 2 ch) 2 ((List.range 2).map (hv Ws))) := Lib.hid ⟨Nat.le_trans HH.out.1 hk5.size, own_only HH.out.2 hk5 (fun j hj e => by have := own_base HH.out.2 j hj; have := HE.out; omega)⟩
          have x0a := hk5.cell (p := ⟨bA, oA + 4, none⟩) x0 hneA
          go_upto_region 10 with (fail)
          clear f0 f1 fz fz1 x0 x1 hneA hk5 HP HH
          generalize wq.setCell ⟨b5, 1, none⟩ (.int .i64 (P : Int)) = wa at *
          go_wp2_with fail
          refine (HNU.out _).mono ?_
          rintro e w2 ⟨rfl, hb2⟩
          have HP2 := Lib.hid (HPa.out.call hb2)
          have HH2 : Hid (z ≤ w2.heap.size ∧ w2.ownsRow z 3 1 (.slice H 2 ch) 2 ((List.range 2).map (hv Ws))) := Lib.hid ⟨Nat.le_trans HHa.out.1 hb2.size, own_below HHa.out.2 hb2⟩
          have x2 := (Keeps.of_below hb2) _ _ x0a
          clear hb2 x0a HPa HHa hhA HNU
          cases N with
          | none =>
            simp only [Option.isSome_none, Option.getD_none] at *
            have HBD := Lib.hid (HOK.out.bad hk4 (fun _ => by rw [← HWK.out]; show (match numB wk with | some n => decide (100000 < n) | none => true) = true; rw [← HNW.out]))
            obtain ⟨⟨f0, f1⟩, fz⟩ := box2 HP2.out.f5
            obtain ⟨⟨c0, c1⟩, cz⟩ := box2 HP2.out.r2
            have cz0 := cz 0
            have cz1 := cz 1
            go_wp2_with fail
            refine wp_region_z (fun w' => w'.cell? ⟨b5, 0, none⟩ = some (.int .i64 1) ∧ w'.cell? ⟨b5, 1, none⟩ = some (.int .i64 (P : Nat))) [0, 1] [] (by kernel_rfl) (by kernel_rfl) (by kernel_rfl) (by rfl) (fun _ _ _ _ e h => ⟨e.symm.trans h.1, h.2⟩) ⟨f0, f1⟩ ?_
            iterate 2
              refine Heads.step (v := ?_) rfl (by first | (go_simp; done) | rfl) (fun W hW => ?_) ?_
              rotate_left
              · (obtain ⟨t0, t1⟩ := hW; go_simp; try with_reducible rfl)
            refine AnyZ.one (i := 2) (by kernel_rfl) rfl (fun K hK => ?_)
            go_simp
            rw [fold2s]
            have hL5 := HP2.out.zap
            clear c0 c1 cz cz0 cz1 f0 f1 fz
            generalize (st2 _ b2 (.int .i64 0) (.slice none 0 0)).drew = v5 at *
            obtain ⟨⟨f0, f1⟩, fz⟩ := box2 hL5.f5
            refine hK _ _ (fun _ => ⟨f0, f1⟩) ?_
            clear hK
            obtain ⟨⟨d0, d1⟩, dz⟩ := box2 hL5.r3
            have dz0 := dz 0
            have dz1 := dz 1
            refine AnyZ.one (i := 3) (by kernel_rfl) rfl (fun K hK => ?_)
            go_simp
            rw [fold2s]
            have hL6 := hL5.bad (P)
            clear d0 d1 dz dz0 dz1
            clear f0 f1 fz
            generalize st2 v5 b3 (.int .i64 1) _ = v6 at *
            obtain ⟨⟨f0, f1⟩, fz⟩ := box2 hL6.2.2.1
            refine hK _ _ (fun _ => ⟨f0, f1⟩) (AnyZ.done (by kernel_rfl) ?_)
            clear hK
            go_simp
            obtain ⟨⟨c0, c1⟩, cz⟩ := box2 hL6.1
            obtain ⟨⟨d0, d1⟩, dz⟩ := box2 hL6.2.1
            go_wp2_with fail
            exact ⟨rfl, _, outsC rfl rfl hL6.1 hL6.2.1, .inl ⟨P, (by rw [← HWE.out, HPE.out]; exact HBD.out), rfl⟩, hL6.2.2.2.2⟩
          | some n =>
            simp only [Option.isSome_some, Option.getD_some] at *
            have hnl := HNL.out
            by_cases hm : n ≤ 100000
            · have HG := Lib.hid (HOK.out.next hk4 hlt (by rw [← HWK.out]; show (match numB wk with | some n => decide (100000 < n) | none => true) = false; rw [← HNW.out]; simp; omega))
              have hzz := HH2.out.1
              have hoh := HH2.out.2
              go_wp2_with (at_builtin; refine wp_append rfl (.tmp 84) (.tmp 86) _ rfl elIn z H 2 ch _ rfl (hoh.alloc _) _ 1 1 [.int .i64 (n : Nat)] rfl (src_new _ _ _ rfl) (by omega) (sz_alloc hzz) ?_; intro H' ch' w4 ho hk' hb'; have HP4 := Lib.hid ((HP2.out.call ((Below.refl _ w2).alloc (Nat.le_refl _) _)).only hk' (own_no hoh (by have := HE.out; omega)) (own_no hoh (by have := HE.out; omega)) (own_no hoh (by have := HE.out; omega)) (fun b cur hb => own_type (e' := 51) (hoh.alloc _) (by decide) b cur hb) (fun b e => by have := own_base hoh b e; have := HE.out; omega)); obtain ⟨⟨g0, g1⟩, gz⟩ := box2 HP4.out.f5; have gz1 := gz 1)
              have HP5 := Lib.hid (HP4.out.at_ txt.length)
              have hk5 : Only (fun b => b = b5) w4 (w4.setCell ⟨b5, 1, none⟩ (.int .i64 (txt.length : Int))) := Only.setCell (p := ⟨b5, 1, none⟩) (Only.refl (fun b => b = b5) w4) (fun _ => rfl) _
              have hzl : z ≤ w4.heap.size := Nat.le_trans hzz (Nat.le_trans (by simp) hk'.size)
              rw [← HDN.out, hv_more] at ho
              exact ⟨⟨3, H', ch', by omega, hlt, rfl, rfl, HG, HP5, Lib.hid ⟨Nat.le_trans hzl hk5.size, own_only ho hk5 (fun j hj e => by have := own_base ho j hj; have := HE.out; omega)⟩⟩, by simp [intOf]⟩
            · have HBD := Lib.hid (HOK.out.bad hk4 (fun _ => by rw [← HWK.out]; show (match numB wk with | some n => decide (100000 < n) | none => true) = true; rw [← HNW.out]; simp; omega))
              obtain ⟨⟨f0, f1⟩, fz⟩ := box2 HP2.out.f5
              obtain ⟨⟨c0, c1⟩, cz⟩ := box2 HP2.out.r2
              have cz0 := cz 0
              have cz1 := cz 1
              go_wp2_with fail
              refine wp_region_z (fun w' => w'.cell? ⟨b5, 0, none⟩ = some (.int .i64 1) ∧ w'.cell? ⟨b5, 1, none⟩ = some (.int .i64 (P : Nat))) [0, 1] [] (by kernel_rfl) (by kernel_rfl) (by kernel_rfl) (by rfl) (fun _ _ _ _ e h => ⟨e.symm.trans h.1, h.2⟩) ⟨f0, f1⟩ ?_
              iterate 2
                refine Heads.step (v := ?_) rfl (by first | (go_simp; done) | rfl) (fun W hW => ?_) ?_
                rotate_left
                · (obtain ⟨t0, t1⟩ := hW; go_simp; try with_reducible rfl)
              refine AnyZ.one (i := 2) (by kernel_rfl) rfl (fun K hK => ?_)
              go_simp
              rw [fold2s]
              have hL5 := HP2.out.zap
              clear c0 c1 cz cz0 cz1 f0 f1 fz
              generalize (st2 _ b2 (.int .i64 0) (.slice none 0 0)).drew = v5 at *
              obtain ⟨⟨f0, f1⟩, fz⟩ := box2 hL5.f5
              refine hK _ _ (fun _ => ⟨f0, f1⟩) ?_
              clear hK
              obtain ⟨⟨d0, d1⟩, dz⟩ := box2 hL5.r3
              have dz0 := dz 0
              have dz1 := dz 1
              refine AnyZ.one (i := 3) (by kernel_rfl) rfl (fun K hK => ?_)
              go_simp
              rw [fold2s]
              have hL6 := hL5.bad (P)
              clear d0 d1 dz dz0 dz1
              clear f0 f1 fz
              generalize st2 v5 b3 (.int .i64 1) _ = v6 at *
              obtain ⟨⟨f0, f1⟩, fz⟩ := box2 hL6.2.2.1
              refine hK _ _ (fun _ => ⟨f0, f1⟩) (AnyZ.done (by kernel_rfl) ?_)
              clear hK
              go_simp
              obtain ⟨⟨c0, c1⟩, cz⟩ := box2 hL6.1
              obtain ⟨⟨d0, d1⟩, dz⟩ := box2 hL6.2.1
              go_wp2_with fail
              exact ⟨rfl, _, outsC rfl rfl hL6.1 hL6.2.1, .inl ⟨P, (by rw [← HWE.out, HPE.out]; exact HBD.out), rfl⟩, hL6.2.2.2.2⟩
        · obtain ⟨bA, oA, cur, rfl, hhA, x0, x1⟩ := word_in2 HP.out.row hlt
          obtain ⟨wk, hwk⟩ : ∃ wk, wk = (Ws.getD 3 ([], 0)).1 := ⟨_, rfl⟩
          obtain ⟨P, hPe⟩ : ∃ P, P = (Ws.getD 3 ([], 0)).2 := ⟨_, rfl⟩
          rw [← hwk] at x0
          rw [← hPe] at x1
          obtain ⟨q, hq⟩ : ∃ q, q = bstr wk := ⟨_, rfl⟩
          rw [← hq] at x0
          have HQT : Hid (q.toList = wk) := Lib.hid (by rw [hq]; exact bstr_toList wk)
          have HPE : Hid (P = atW Ws txt.length 3) := Lib.hid (by rw [atW_lt hlt]; exact hPe)
          have HNU : Hid (∀ W, Calls Tryd.prog 14 #[.string q] W fun e w' => e = .returned (.tuple #[.int .i64 ((numB wk).getD 0 : Nat), .bool (numB wk).isSome]) ∧ Below W.heap.size W w') := Lib.hid (fun W => by
            rw [hq]
            exact figures_any wk W (by rw [hwk]; exact HWL.out _ (getD_mem hlt)))
          obtain ⟨N, hN⟩ : ∃ N, N = numB wk := ⟨_, rfl⟩
          rw [← hN] at HNU
          have HDN : Hid (hdN Ws 3 = N.getD 0) := Lib.hid (by unfold hdN; rw [← hwk, ← hN])
          have HNL : Hid (N.getD 0 < 1000000000) := Lib.hid (by
            cases hNe : N with
            | none => simp
            | some n => exact numB_le (by rw [← hN]; exact hNe))
          have HNW := Lib.hid hN
          have HWK := Lib.hid hwk
          clear hwk hq hN hPe
          have hne : ¬ Ws = [] := fun h => by rw [h] at hlt; exact absurd hlt (Nat.not_lt_zero _)
          rw [show ((3 : Nat) : Int) = 3 from rfl]
          replace x0 : wq.cell? ⟨bA, oA + 6, none⟩ = some (.string q) := by simpa using x0
          replace x1 : wq.cell? ⟨bA, oA + 7, none⟩ = some (.int .i64 (P : Nat)) := by simpa using x1
          obtain ⟨⟨f0, f1⟩, fz⟩ := box2 HP.out.f5
          have fz1 := fz 1
          have hneA := ne_type hhA HP.out.f5 (by decide)
          have HPa := Lib.hid (HP.out.at_ P)
          have hk5 : Only (fun b => b = b5) wq (wq.setCell ⟨b5, 1, none⟩ (.int .i64 (P : Int))) := Only.setCell (p := ⟨b5, 1, none⟩) (Only.refl (fun b => b = b5) wq) (fun _ => rfl) _
          have HHa : Hid (z ≤ (wq.setCell ⟨b5, 1, none⟩ (.int .i64 (P : Int))).heap.size ∧ (wq.setCell ⟨b5, 1, none⟩ (.int .i64 (P : Int))).ownsRow z 3 1 (.slice H 3 ch) 3 ((List.range 3).map (hv Ws))) := Lib.hid ⟨Nat.le_trans HH.out.1 hk5.size, own_only HH.out.2 hk5 (fun j hj e => by have := own_base HH.out.2 j hj; have := HE.out; omega)⟩
          have x0a := hk5.cell (p := ⟨bA, oA + 6, none⟩) x0 hneA
          go_upto_region 10 with (fail)
          clear f0 f1 fz fz1 x0 x1 hneA hk5 HP HH
          generalize wq.setCell ⟨b5, 1, none⟩ (.int .i64 (P : Int)) = wa at *
          go_wp2_with fail
          refine (HNU.out _).mono ?_
          rintro e w2 ⟨rfl, hb2⟩
          have HP2 := Lib.hid (HPa.out.call hb2)
          have HH2 : Hid (z ≤ w2.heap.size ∧ w2.ownsRow z 3 1 (.slice H 3 ch) 3 ((List.range 3).map (hv Ws))) := Lib.hid ⟨Nat.le_trans HHa.out.1 hb2.size, own_below HHa.out.2 hb2⟩
          have x2 := (Keeps.of_below hb2) _ _ x0a
          clear hb2 x0a HPa HHa hhA HNU
          cases N with
          | none =>
            simp only [Option.isSome_none, Option.getD_none] at *
            have HBD := Lib.hid (HOK.out.bad hk4 (fun _ => by rw [← HWK.out]; show (numB wk).isNone = true; rw [← HNW.out]; rfl))
            obtain ⟨⟨f0, f1⟩, fz⟩ := box2 HP2.out.f5
            obtain ⟨⟨c0, c1⟩, cz⟩ := box2 HP2.out.r2
            have cz0 := cz 0
            have cz1 := cz 1
            go_wp2_with fail
            refine wp_region_z (fun w' => w'.cell? ⟨b5, 0, none⟩ = some (.int .i64 1) ∧ w'.cell? ⟨b5, 1, none⟩ = some (.int .i64 (P : Nat))) [0, 1] [] (by kernel_rfl) (by kernel_rfl) (by kernel_rfl) (by rfl) (fun _ _ _ _ e h => ⟨e.symm.trans h.1, h.2⟩) ⟨f0, f1⟩ ?_
            iterate 2
              refine Heads.step (v := ?_) rfl (by first | (go_simp; done) | rfl) (fun W hW => ?_) ?_
              rotate_left
              · (obtain ⟨t0, t1⟩ := hW; go_simp; try with_reducible rfl)
            refine AnyZ.one (i := 2) (by kernel_rfl) rfl (fun K hK => ?_)
            go_simp
            rw [fold2s]
            have hL5 := HP2.out.zap
            clear c0 c1 cz cz0 cz1 f0 f1 fz
            generalize (st2 _ b2 (.int .i64 0) (.slice none 0 0)).drew = v5 at *
            obtain ⟨⟨f0, f1⟩, fz⟩ := box2 hL5.f5
            refine hK _ _ (fun _ => ⟨f0, f1⟩) ?_
            clear hK
            obtain ⟨⟨d0, d1⟩, dz⟩ := box2 hL5.r3
            have dz0 := dz 0
            have dz1 := dz 1
            refine AnyZ.one (i := 3) (by kernel_rfl) rfl (fun K hK => ?_)
            go_simp
            rw [fold2s]
            have hL6 := hL5.bad (P)
            clear d0 d1 dz dz0 dz1
            clear f0 f1 fz
            generalize st2 v5 b3 (.int .i64 1) _ = v6 at *
            obtain ⟨⟨f0, f1⟩, fz⟩ := box2 hL6.2.2.1
            refine hK _ _ (fun _ => ⟨f0, f1⟩) (AnyZ.done (by kernel_rfl) ?_)
            clear hK
            go_simp
            obtain ⟨⟨c0, c1⟩, cz⟩ := box2 hL6.1
            obtain ⟨⟨d0, d1⟩, dz⟩ := box2 hL6.2.1
            go_wp2_with fail
            exact ⟨rfl, _, outsC rfl rfl hL6.1 hL6.2.1, .inl ⟨P, (by rw [← HWE.out, HPE.out]; exact HBD.out), rfl⟩, hL6.2.2.2.2⟩
          | some n =>
            simp only [Option.isSome_some, Option.getD_some] at *
            have hnl := HNL.out
            have HG := Lib.hid (HOK.out.next hk4 hlt (by rw [← HWK.out]; show (numB wk).isNone = false; rw [← HNW.out]; rfl))
            have hzz := HH2.out.1
            have hoh := HH2.out.2
            go_wp2_with (at_builtin; refine wp_append rfl (.tmp 84) (.tmp 86) _ rfl elIn z H 3 ch _ rfl (hoh.alloc _) _ 1 1 [.int .i64 (n : Nat)] rfl (src_new _ _ _ rfl) (by omega) (sz_alloc hzz) ?_; intro H' ch' w4 ho hk' hb'; have HP4 := Lib.hid ((HP2.out.call ((Below.refl _ w2).alloc (Nat.le_refl _) _)).only hk' (own_no hoh (by have := HE.out; omega)) (own_no hoh (by have := HE.out; omega)) (own_no hoh (by have := HE.out; omega)) (fun b cur hb => own_type (e' := 51) (hoh.alloc _) (by decide) b cur hb) (fun b e => by have := own_base hoh b e; have := HE.out; omega)); obtain ⟨⟨g0, g1⟩, gz⟩ := box2 HP4.out.f5; have gz1 := gz 1)
            have HP5 := Lib.hid (HP4.out.at_ txt.length)
            have hk5 : Only (fun b => b = b5) w4 (w4.setCell ⟨b5, 1, none⟩ (.int .i64 (txt.length : Int))) := Only.setCell (p := ⟨b5, 1, none⟩) (Only.refl (fun b => b = b5) w4) (fun _ => rfl) _
            have hzl : z ≤ w4.heap.size := Nat.le_trans hzz (Nat.le_trans (by simp) hk'.size)
            rw [← HDN.out, hv_more] at ho
            exact ⟨⟨4, H', ch', by omega, hlt, rfl, rfl, HG, HP5, Lib.hid ⟨Nat.le_trans hzl hk5.size, own_only ho hk5 (fun j hj e => by have := own_base ho j hj; have := HE.out; omega)⟩⟩, by simp [intOf]⟩
      · have HBD := Lib.hid (HOK.out.bad hk4 (fun h => absurd h hlt))
        have hat : atW Ws txt.length k = txt.length := by unfold atW; rw [if_neg hlt]
        rw [hat] at HBD
        obtain ⟨⟨f0, f1⟩, fz⟩ := box2 HP.out.f5
        obtain ⟨⟨c0, c1⟩, cz⟩ := box2 HP.out.r2
        have cz0 := cz 0
        have cz1 := cz 1
        go_wp2_with fail
        refine wp_region_z (fun w' => w'.cell? ⟨b5, 0, none⟩ = some (.int .i64 1) ∧ w'.cell? ⟨b5, 1, none⟩ = some (.int .i64 (txt.length : Nat))) [0, 1] [] (by kernel_rfl) (by kernel_rfl) (by kernel_rfl) (by rfl) (fun _ _ _ _ e h => ⟨e.symm.trans h.1, h.2⟩) ⟨f0, f1⟩ ?_
        iterate 2
          refine Heads.step (v := ?_) rfl (by first | (go_simp; done) | rfl) (fun W hW => ?_) ?_
          rotate_left
          · (obtain ⟨t0, t1⟩ := hW; go_simp; try with_reducible rfl)
        refine AnyZ.one (i := 2) (by kernel_rfl) rfl (fun K hK => ?_)
        go_simp
        rw [fold2s]
        have hL5 := HP.out.zap
        clear c0 c1 cz cz0 cz1 f0 f1 fz
        generalize (st2 _ b2 (.int .i64 0) (.slice none 0 0)).drew = v5 at *
        obtain ⟨⟨f0, f1⟩, fz⟩ := box2 hL5.f5
        refine hK _ _ (fun _ => ⟨f0, f1⟩) ?_
        clear hK
        obtain ⟨⟨d0, d1⟩, dz⟩ := box2 hL5.r3
        have dz0 := dz 0
        have dz1 := dz 1
        refine AnyZ.one (i := 3) (by kernel_rfl) rfl (fun K hK => ?_)
        go_simp
        rw [fold2s]
        have hL6 := hL5.bad (txt.length)
        clear d0 d1 dz dz0 dz1
        clear f0 f1 fz
        generalize st2 v5 b3 (.int .i64 1) _ = v6 at *
        obtain ⟨⟨f0, f1⟩, fz⟩ := box2 hL6.2.2.1
        refine hK _ _ (fun _ => ⟨f0, f1⟩) (AnyZ.done (by kernel_rfl) ?_)
        clear hK
        go_simp
        obtain ⟨⟨c0, c1⟩, cz⟩ := box2 hL6.1
        obtain ⟨⟨d0, d1⟩, dz⟩ := box2 hL6.2.1
        go_wp2_with fail
        exact ⟨rfl, _, outsC rfl rfl hL6.1 hL6.2.1, .inl ⟨txt.length, (by rw [← HWE.out]; exact HBD.out), rfl⟩, hL6.2.2.2.2⟩
      -- QE head
    · obtain rfl : k = 4 := by omega
      have HB := Lib.hid (show BdOk Ws txt.length 4 [] [] from HOK.out.end_)
      obtain ⟨bH, oH, rfl, hcH⟩ := own_row1 HH.out.2 (by omega)
      have e2 : wq.cell? ⟨bH, oH + 2, none⟩ = some (.int .i64 (hdN Ws 2 : Nat)) := hcH 2 (by omega)
      have e3 : wq.cell? ⟨bH, oH + 3, none⟩ = some (.int .i64 (hdN Ws 3 : Nat)) := hcH 3 (by omega)
      have hbl : bH < wq.heap.size := World.block_lt_of_cell? wq _ e3
      obtain ⟨vs, hvs⟩ : ∃ v, v = hdN Ws 2 := ⟨_, rfl⟩
      obtain ⟨n3, hn3⟩ : ∃ v, v = hdN Ws 3 := ⟨_, rfl⟩
      rw [← hvs] at e2
      rw [← hn3] at e3
      have HVS := Lib.hid hvs; have HN3' := Lib.hid hn3
      clear hcH HH HOK hk hk4 hvs hn3
      rw [show ((4 : Nat) : Int) = 4 from rfl]
      go_upto_region 16 with (fail)
      have hba : Below wq.heap.size wq (wq.alloc (.cells #[.int .i64 (vs : Int), .slice none 0 0] 25)) := (Below.refl _ _).alloc (Nat.le_refl _) _
      have hnf := heap_alloc_new wq (.cells #[.int .i64 (vs : Int), .slice none 0 0] 25)
      have HPz := Lib.hid (HP.out.call hba)
      have HX3 := Lib.hid ((Keeps.of_below hba) _ _ e3)
      have hzz : (wq.alloc (.cells #[.int .i64 (vs : Int), .slice none 0 0] 25)).heap.size = wq.heap.size + 1 := by simp
      have hb5l := (Array.getElem?_eq_some_iff.1 HP.out.f5).1
      clear hba e2 e3 HP
      generalize wq.alloc (.cells #[.int .i64 (vs : Int), .slice none 0 0] 25) = wz at *
      obtain ⟨b9, hb9⟩ : ∃ b, b = wq.heap.size := ⟨_, rfl⟩
      rw [← hb9] at hnf hzz hb5l hbl ⊢
      have HE9 : Hid (b9 < wz.heap.size ∧ b5 < b9 ∧ bH < b9) := Lib.hid ⟨by omega, hb5l, hbl⟩
      have HZ0 : Hid (PbI wz b9 vs none 0 [] (fun _ => none) (fun _ => 0) none 0 [] wz) := Lib.hid ⟨hnf, Only.refl _ _, Cls.nil _ _, ClI.nil _ _ _ _⟩
      have HZF := Lib.hid hnf
      clear hb9 hnf hzz hb5l hbl
      go_wp2_with fail
      go_loopw [11, 12] (fun vc vi wr => ∃ (i : Nat) (cs : List (List Int)) (cl : List Int) (B : Option Addr) (d : Nat) (A2 : Option Addr) (c2 : Nat) (RA : Nat → Option Addr) (RC : Nat → Nat), i ≤ Ws.length ∧ vc = .slice B cl.length d ∧ vi = .int .i64 i ∧ cs.length ≤ i ∧ cl.length ≤ i ∧ Hid (BdOk Ws txt.length i cs cl) ∧ Hid (PbI wz b9 vs A2 c2 cs RA RC B d cl wr)) (fun _ vi _ => Ws.length - (intOf vi).toNat)
      case atStart => exact ⟨4, [], [], none, 0, none, 0, _, _, hkl, rfl, rfl, by simp, by simp, HB, HZ0⟩
      case round =>
        clear HB HZ0 hkl
        obtain ⟨i, cs, cl, B, d, A2, c2, RA, RC, hi, rfl, rfl, hcs, hcl, HB, HZ⟩ := hrel
        obtain ⟨wo, hwo⟩ : ∃ x, x = wr := ⟨_, rfl⟩
        subst hwo
        have HP := Lib.hid (HPz.out.only HZ.out.only (by have := HE.out; have := HE9.out; omega) (by have := HE.out; have := HE9.out; omega) (by have := HE.out; have := HE9.out; omega) (fun b cu hb hs => ne_type hb HZF.out (by decide) hs) (fun b e => by have := HE.out; have := HE9.out; omega))
        have e3 := HZ.out.only.cell (p := ⟨bH, oH + 3, none⟩) HX3.out (by have := HE9.out; show ¬ bH = b9; omega)
        obtain ⟨⟨f0, f1⟩, fz⟩ := box2 HZ.out.f
        by_cases hlt : i < Ws.length
        · obtain ⟨bA, oA, cur, rfl, hhA, x0, x1⟩ := word_in2 HP.out.row hlt
          obtain ⟨wk, hwk⟩ : ∃ wk, wk = (Ws.getD i ([], 0)).1 := ⟨_, rfl⟩
          obtain ⟨P, hPe⟩ : ∃ P, P = (Ws.getD i ([], 0)).2 := ⟨_, rfl⟩
          rw [← hwk] at x0
          rw [← hPe] at x1
          obtain ⟨q, hq⟩ : ∃ q, q = bstr wk := ⟨_, rfl⟩
          rw [← hq] at x0
          have HQT : Hid (q.toList = wk) := Lib.hid (by rw [hq]; exact bstr_toList wk)
          have HPE : Hid (P = atW Ws txt.length i) := Lib.hid (by rw [atW_lt hlt]; exact hPe)
          have HWK := Lib.hid hwk
          by_cases hfull : cs.length = n3
          · have HBD := Lib.hid (HB.out.full hlt (by rw [← HN3'.out]; exact hfull))
            clear hq hwk hPe x0
            go_upto_region 20 with (fail)
            refine wp_region_z (fun w' => w'.cell? ⟨b9, 1, none⟩ = some (.slice A2 cs.length c2) ∧ w'.cell? ⟨bH, oH + 3, none⟩ = some (.int .i64 (n3 : Nat))) [0, 1, 2, 3, 4, 5, 6] [] (by kernel_rfl) (by kernel_rfl) (by kernel_rfl) (by rfl) (fun _ _ _ _ e h => ⟨e.symm.trans h.1, h.2⟩) ⟨f1, e3⟩ ?_
            iterate 7
              refine Heads.step (v := ?_) rfl (by first | (go_simp; done) | rfl) (fun W hW => ?_) ?_
              rotate_left
              · (obtain ⟨t0, t1⟩ := hW; go_simp; try with_reducible rfl)
            refine AnyZ.done (by kernel_rfl) ?_
            go_simp
            have hbd : Below wo.heap.size wo wo.drew := (Below.refl _ wo).drew
            replace HP := Lib.hid (HP.out.call hbd)
            replace HZ := Lib.hid (HZ.out.call hbd)
            have kp := Keeps.of_below hbd
            replace e3 := kp _ _ e3
            replace x1 := kp _ _ x1
            replace hhA := heap_below hbd hhA
            clear f0 f1 fz kp hbd
            generalize wo.drew = wv at *
            obtain ⟨⟨f0, f1⟩, fz⟩ := box2 HZ.out.f
            go_upto_region 21 with (fail)
            clear f0 f1 fz e3
            obtain ⟨⟨c0, c1⟩, cz⟩ := box2 HP.out.r2
            have cz0 := cz 0
            have cz1 := cz 1
            go_wp2_with fail
            refine wp_region_z (fun w' => w'.cell? ⟨bA, oA + i * 2 + 1, none⟩ = some (.int .i64 (P : Nat))) [0, 1, 2, 3, 4, 5, 6] [] (by kernel_rfl) (by kernel_rfl) (by kernel_rfl) (by rfl) (fun _ _ _ _ e h => ⟨e.symm.trans h.1, h.2⟩) x1 ?_
            iterate 7
              refine Heads.step (v := ?_) rfl (by first | (go_simp; done) | rfl) (fun W hW => ?_) ?_
              rotate_left
              · (have t0 := hW; go_simp; try with_reducible rfl)
            refine AnyZ.one (i := 7) (by kernel_rfl) rfl (fun K hK => ?_)
            go_simp
            rw [fold2s]
            have hL5 := HP.out.zap
            have hneA := ne_type hhA HP.out.r2 (by decide)
            have hA5 := (Only.drewCell (st2_only _ b2 (.int .i64 0) (.slice none 0 0))).heap hhA hneA
            have x5 := (Only.drewCell (st2_only _ b2 (.int .i64 0) (.slice none 0 0))).cell (p := ⟨bA, oA + i * 2 + 1, none⟩) x1 hneA
            clear c0 c1 cz cz0 cz1
            generalize (st2 _ b2 (.int .i64 0) (.slice none 0 0)).drew = v5 at *
            refine hK _ _ (fun _ => x5) ?_
            clear hK
            obtain ⟨⟨d0, d1⟩, dz⟩ := box2 hL5.r3
            have dz0 := dz 0
            have dz1 := dz 1
            refine AnyZ.one (i := 8) (by kernel_rfl) rfl (fun K hK => ?_)
            go_simp
            rw [fold2s]
            have hL6 := hL5.bad (P)
            clear d0 d1 dz dz0 dz1
            have hne3 := ne_type hA5 hL5.r3 (by decide)
            refine hK _ _ (fun _ => (st2_only v5 b3 _ _).cell (p := ⟨bA, oA + i * 2 + 1, none⟩) x5 hne3) (AnyZ.done (by kernel_rfl) ?_)
            generalize st2 v5 b3 (.int .i64 1) _ = v6 at *
            clear hK
            go_simp
            obtain ⟨⟨c0, c1⟩, cz⟩ := box2 hL6.1
            obtain ⟨⟨d0, d1⟩, dz⟩ := box2 hL6.2.1
            go_wp2_with fail
            exact ⟨rfl, _, outsC rfl rfl hL6.1 hL6.2.1, .inl ⟨P, (by rw [← HWE.out, HPE.out]; exact HBD.out), rfl⟩, hL6.2.2.2.2⟩
          · have hwl := HWL.out _ (getD_mem hlt)
            rw [← hwk] at hwl
            have hn3 : cs.length ≠ hdN Ws 3 := by rw [← HN3'.out]; exact hfull
            by_cases h0 : wk = [48]
            · have hq0 : (q.toList == [48]) = true := by rw [HQT.out, h0]; rfl
              have HB1 := Lib.hid (HB.out.zero hlt hn3 (by rw [← HWK.out]; exact h0))
              have hl9 := HE9.out.1
              clear hwk hq h0 hn3 hwl hPe x1
              go_upto_region 20 with (fail)
              refine wp_region_z (fun w' => w'.cell? ⟨b9, 1, none⟩ = some (.slice A2 cs.length c2) ∧ w'.cell? ⟨bH, oH + 3, none⟩ = some (.int .i64 (n3 : Nat))) [0, 1, 2, 3, 4, 5, 6] [] (by kernel_rfl) (by kernel_rfl) (by kernel_rfl) (by rfl) (fun _ _ _ _ e h => ⟨e.symm.trans h.1, h.2⟩) ⟨f1, e3⟩ ?_
              iterate 7
                refine Heads.step (v := ?_) rfl (by first | (go_simp; done) | rfl) (fun W hW => ?_) ?_
                rotate_left
                · (obtain ⟨t0, t1⟩ := hW; go_simp; try with_reducible rfl)
              refine AnyZ.done (by kernel_rfl) ?_
              go_simp
              have hbd : Below wo.heap.size wo wo.drew := (Below.refl _ wo).drew
              replace HP := Lib.hid (HP.out.call hbd)
              replace HZ := Lib.hid (HZ.out.call hbd)
              have kp := Keeps.of_below hbd
              replace e3 := kp _ _ e3
              replace x0 := kp _ _ x0
              replace hhA := heap_below hbd hhA
              clear f0 f1 fz kp hbd
              generalize wo.drew = wv at *
              obtain ⟨⟨f0, f1⟩, fz⟩ := box2 HZ.out.f
              have fz1 := fz 1
              go_wp2_with (at_builtin; refine wp_append rfl (.tmp 122) (.tmp 124) _ rfl elCl wz.heap.size A2 cs.length c2 _ rfl (HZ.out.cls.own.alloc _) _ 1 1 [.slice B cl.length d] rfl (src_new _ _ _ rfl) (by omega) (sz_alloc HZ.out.only.size) ?_; intro A' c' w1 ho hk' hb'; have HJ := Lib.hid ((HZ.out.alloc _).push hl9 ho hk'); have f1' := (box2 HJ.out.1).1.2; have fz' := (box2 HJ.out.1).2 1)
              exact ⟨⟨i + 1, cs ++ [cl], [], none, 0, A', c', _, _, by omega, rfl, by simp, by simp; omega, by simp, HB1, Lib.hid HJ.out.2⟩, by simp [intOf]; omega⟩
            · have hq0 : (q.toList == [48]) = false := by rw [HQT.out]; simpa using h0
              have HSI : Hid (∀ W, Calls Tryd.prog 15 #[.string q, .int .i64 (vs : Int)] W fun e w' => e = .returned (.int .i64 (litB vs wk)) ∧ Below W.heap.size W w') := Lib.hid (fun W => by rw [hq]; exact signed_any wk vs W hwl)
              obtain ⟨x, hx⟩ : ∃ x, x = litB vs wk := ⟨_, rfl⟩
              rw [← hx] at HSI
              have HX : Hid (x = litB vs wk) := Lib.hid hx
              clear hwk hq h0 hwl hPe hx
              go_upto_region 20 with (fail)
              refine wp_region_z (fun w' => w'.cell? ⟨b9, 1, none⟩ = some (.slice A2 cs.length c2) ∧ w'.cell? ⟨bH, oH + 3, none⟩ = some (.int .i64 (n3 : Nat))) [0, 1, 2, 3, 4, 5, 6] [] (by kernel_rfl) (by kernel_rfl) (by kernel_rfl) (by rfl) (fun _ _ _ _ e h => ⟨e.symm.trans h.1, h.2⟩) ⟨f1, e3⟩ ?_
              iterate 7
                refine Heads.step (v := ?_) rfl (by first | (go_simp; done) | rfl) (fun W hW => ?_) ?_
                rotate_left
                · (obtain ⟨t0, t1⟩ := hW; go_simp; try with_reducible rfl)
              refine AnyZ.done (by kernel_rfl) ?_
              go_simp
              have hbd : Below wo.heap.size wo wo.drew := (Below.refl _ wo).drew
              replace HP := Lib.hid (HP.out.call hbd)
              replace HZ := Lib.hid (HZ.out.call hbd)
              have kp := Keeps.of_below hbd
              replace e3 := kp _ _ e3
              replace x0 := kp _ _ x0
              replace x1 := kp _ _ x1
              replace hhA := heap_below hbd hhA
              clear f0 f1 fz kp hbd
              generalize wo.drew = wv at *
              obtain ⟨⟨f0, f1⟩, fz⟩ := box2 HZ.out.f
              go_upto_region 25 with (fail)
              clear f1 fz e3
              refine wp_region_z (fun w' => w'.cell? ⟨bA, oA + i * 2, none⟩ = some (.string q) ∧ w'.cell? ⟨b9, 0, none⟩ = some (.int .i64 (vs : Int))) [0, 1, 2, 3, 4, 5, 6] [] (by kernel_rfl) (by kernel_rfl) (by kernel_rfl) (by rfl) (fun _ _ _ _ e h => ⟨e.symm.trans h.1, h.2⟩) ⟨x0, f0⟩ ?_
              iterate 7
                refine Heads.step (v := ?_) rfl (by first | (go_simp; done) | rfl) (fun W hW => ?_) ?_
                rotate_left
                · (obtain ⟨t0, t1⟩ := hW; go_simp; try with_reducible rfl)
              refine AnyZ.one (i := 7) (by kernel_rfl) rfl (fun K hK => ?_)
              go_simp
              refine (HSI.out _).mono ?_
              rintro e w2 ⟨rfl, hb2⟩
              have hb2 : Below wv.heap.size wv w2 := (Below.refl _ wv).drew.trans hb2
              have kp := Keeps.of_below hb2
              refine hK _ _ (fun _ => ⟨kp _ _ x0, kp _ _ f0⟩) ?_
              clear hK
              replace x0 := kp _ _ x0
              replace f0 := kp _ _ f0
              refine AnyZ.mid [8] [] 0 rfl (by kernel_rfl) (by kernel_rfl) (by kernel_rfl) (fun _ _ _ _ e h => ⟨e.symm.trans h.1, h.2⟩) ⟨x0, f0⟩ ?_
              iterate 1
                refine Heads.step (v := ?_) rfl (by first | (go_simp; done) | rfl) (fun W hW => ?_) ?_
                rotate_left
                · (obtain ⟨t0, t1⟩ := hW; go_simp; try with_reducible rfl)
              refine AnyZ.done (by kernel_rfl) ?_
              go_simp
              have HP2 := Lib.hid (HP.out.call hb2)
              have HZ2 := Lib.hid (HZ.out.call hb2)
              have hA2 := heap_below hb2 hhA
              replace x1 := kp _ _ x1
              clear kp hb2 x0 f0 hhA HP
              by_cases hx0 : x = 0
              · have HBD := Lib.hid (HB.out.none hlt hn3 (by rw [← HWK.out]; exact fun h => by have := HQT.out; rw [h] at this; rw [this] at hq0; cases hq0) (by rw [← HWK.out, ← HVS.out, ← HX.out]; exact hx0))
                go_upto_region 27 with (fail)
                have hhA := hA2
                clear hA2
                obtain ⟨⟨c0, c1⟩, cz⟩ := box2 HP2.out.r2
                have cz0 := cz 0
                have cz1 := cz 1
                go_wp2_with fail
                refine wp_region_z (fun w' => w'.cell? ⟨bA, oA + i * 2 + 1, none⟩ = some (.int .i64 (P : Nat))) [0, 1, 2, 3, 4, 5, 6] [] (by kernel_rfl) (by kernel_rfl) (by kernel_rfl) (by rfl) (fun _ _ _ _ e h => ⟨e.symm.trans h.1, h.2⟩) x1 ?_
                iterate 7
                  refine Heads.step (v := ?_) rfl (by first | (go_simp; done) | rfl) (fun W hW => ?_) ?_
                  rotate_left
                  · (have t0 := hW; go_simp; try with_reducible rfl)
                refine AnyZ.one (i := 7) (by kernel_rfl) rfl (fun K hK => ?_)
                go_simp
                rw [fold2s]
                have hL5 := HP2.out.zap
                have hneA := ne_type hhA HP2.out.r2 (by decide)
                have hA5 := (Only.drewCell (st2_only _ b2 (.int .i64 0) (.slice none 0 0))).heap hhA hneA
                have x5 := (Only.drewCell (st2_only _ b2 (.int .i64 0) (.slice none 0 0))).cell (p := ⟨bA, oA + i * 2 + 1, none⟩) x1 hneA
                clear c0 c1 cz cz0 cz1
                generalize (st2 _ b2 (.int .i64 0) (.slice none 0 0)).drew = v5 at *
                refine hK _ _ (fun _ => x5) ?_
                clear hK
                obtain ⟨⟨d0, d1⟩, dz⟩ := box2 hL5.r3
                have dz0 := dz 0
                have dz1 := dz 1
                refine AnyZ.one (i := 8) (by kernel_rfl) rfl (fun K hK => ?_)
                go_simp
                rw [fold2s]
                have hL6 := hL5.bad (P)
                clear d0 d1 dz dz0 dz1
                have hne3 := ne_type hA5 hL5.r3 (by decide)
                refine hK _ _ (fun _ => (st2_only v5 b3 _ _).cell (p := ⟨bA, oA + i * 2 + 1, none⟩) x5 hne3) (AnyZ.done (by kernel_rfl) ?_)
                generalize st2 v5 b3 (.int .i64 1) _ = v6 at *
                clear hK
                go_simp
                obtain ⟨⟨c0, c1⟩, cz⟩ := box2 hL6.1
                obtain ⟨⟨d0, d1⟩, dz⟩ := box2 hL6.2.1
                go_wp2_with fail
                exact ⟨rfl, _, outsC rfl rfl hL6.1 hL6.2.1, .inl ⟨P, (by rw [← HWE.out, HPE.out]; exact HBD.out), rfl⟩, hL6.2.2.2.2⟩
              · have HB1 := Lib.hid (HB.out.lit hlt hn3 (by rw [← HWK.out]; exact fun h => by have := HQT.out; rw [h] at this; rw [this] at hq0; cases hq0) (by rw [← HWK.out, ← HVS.out, ← HX.out]; exact hx0))
                rw [← HWK.out, ← HVS.out, ← HX.out] at HB1
                have hl9 := HE9.out.1
                clear hn3 x1 hA2
                go_wp2_with (at_builtin; refine wp_append rfl (.tmp 144) (.tmp 146) _ rfl elIn wz.heap.size B cl.length d _ rfl (HZ2.out.cur.own.alloc _) _ 1 1 [.int .i64 x] rfl (src_new _ _ _ rfl) (by omega) (sz_alloc HZ2.out.only.size) ?_; intro B' d' w4 ho hk' hb'; have HJ := Lib.hid ((HZ2.out.alloc _).more hl9 ho hk' hb'))
                exact ⟨⟨i + 1, cs, cl ++ [x], B', d', A2, c2, _, _, by omega, by simp, by simp, by omega, by simp; omega, HB1, Lib.hid HJ.out⟩, by simp [intOf]; omega⟩
        · obtain rfl : Ws.length = i := by omega
          have hat : atW Ws txt.length Ws.length = txt.length := by unfold atW; rw [if_neg (Nat.lt_irrefl _)]
          by_cases hfew : cs.length < n3
          · have HBD := Lib.hid (HB.out.few (by rw [← HN3'.out]; exact hfew))
            rw [hat] at HBD
            go_upto_region 29 with (fail)
            refine wp_region_z (fun w' => w'.cell? ⟨b9, 1, none⟩ = some (.slice A2 cs.length c2) ∧ w'.cell? ⟨bH, oH + 3, none⟩ = some (.int .i64 (n3 : Nat))) [0, 1, 2, 3, 4, 5, 6] [] (by kernel_rfl) (by kernel_rfl) (by kernel_rfl) (by rfl) (fun _ _ _ _ e h => ⟨e.symm.trans h.1, h.2⟩) ⟨f1, e3⟩ ?_
            iterate 7
              refine Heads.step (v := ?_) rfl (by first | (go_simp; done) | rfl) (fun W hW => ?_) ?_
              rotate_left
              · (obtain ⟨t0, t1⟩ := hW; go_simp; try with_reducible rfl)
            refine AnyZ.done (by kernel_rfl) ?_
            go_simp
            have hbd : Below wo.heap.size wo wo.drew := (Below.refl _ wo).drew
            replace HP := Lib.hid (HP.out.call hbd)
            replace HZ := Lib.hid (HZ.out.call hbd)
            have kp := Keeps.of_below hbd
            replace e3 := kp _ _ e3
            clear f0 f1 fz kp hbd
            generalize wo.drew = wv at *
            obtain ⟨⟨f0, f1⟩, fz⟩ := box2 HZ.out.f
            go_upto_region 30 with (fail)
            clear f0 f1 fz e3
            obtain ⟨⟨f0, f1⟩, fz⟩ := box2 HP.out.f5
            obtain ⟨⟨c0, c1⟩, cz⟩ := box2 HP.out.r2
            have cz0 := cz 0
            have cz1 := cz 1
            go_wp2_with fail
            refine wp_region_z (fun w' => w'.cell? ⟨b5, 0, none⟩ = some (.int .i64 1) ∧ w'.cell? ⟨b5, 1, none⟩ = some (.int .i64 (txt.length : Nat))) [0, 1] [] (by kernel_rfl) (by kernel_rfl) (by kernel_rfl) (by rfl) (fun _ _ _ _ e h => ⟨e.symm.trans h.1, h.2⟩) ⟨f0, f1⟩ ?_
            iterate 2
              refine Heads.step (v := ?_) rfl (by first | (go_simp; done) | rfl) (fun W hW => ?_) ?_
              rotate_left
              · (obtain ⟨t0, t1⟩ := hW; go_simp; try with_reducible rfl)
            refine AnyZ.one (i := 2) (by kernel_rfl) rfl (fun K hK => ?_)
            go_simp
            rw [fold2s]
            have hL5 := HP.out.zap
            clear c0 c1 cz cz0 cz1 f0 f1 fz
            generalize (st2 _ b2 (.int .i64 0) (.slice none 0 0)).drew = v5 at *
            obtain ⟨⟨f0, f1⟩, fz⟩ := box2 hL5.f5
            refine hK _ _ (fun _ => ⟨f0, f1⟩) ?_
            clear hK
            obtain ⟨⟨d0, d1⟩, dz⟩ := box2 hL5.r3
            have dz0 := dz 0
            have dz1 := dz 1
            refine AnyZ.one (i := 3) (by kernel_rfl) rfl (fun K hK => ?_)
            go_simp
            rw [fold2s]
            have hL6 := hL5.bad (txt.length)
            clear d0 d1 dz dz0 dz1
            clear f0 f1 fz
            generalize st2 v5 b3 (.int .i64 1) _ = v6 at *
            obtain ⟨⟨f0, f1⟩, fz⟩ := box2 hL6.2.2.1
            refine hK _ _ (fun _ => ⟨f0, f1⟩) (AnyZ.done (by kernel_rfl) ?_)
            clear hK
            go_simp
            obtain ⟨⟨c0, c1⟩, cz⟩ := box2 hL6.1
            obtain ⟨⟨d0, d1⟩, dz⟩ := box2 hL6.2.1
            go_wp2_with fail
            exact ⟨rfl, _, outsC rfl rfl hL6.1 hL6.2.1, .inl ⟨txt.length, (by rw [← HWE.out]; exact HBD.out), rfl⟩, hL6.2.2.2.2⟩
          · have HFI := Lib.hid (HB.out.fine (by rw [← HN3'.out]; exact hfew))
            go_upto_region 29 with (fail)
            refine wp_region_z (fun w' => w'.cell? ⟨b9, 1, none⟩ = some (.slice A2 cs.length c2) ∧ w'.cell? ⟨bH, oH + 3, none⟩ = some (.int .i64 (n3 : Nat))) [0, 1, 2, 3, 4, 5, 6] [] (by kernel_rfl) (by kernel_rfl) (by kernel_rfl) (by rfl) (fun _ _ _ _ e h => ⟨e.symm.trans h.1, h.2⟩) ⟨f1, e3⟩ ?_
            iterate 7
              refine Heads.step (v := ?_) rfl (by first | (go_simp; done) | rfl) (fun W hW => ?_) ?_
              rotate_left
              · (obtain ⟨t0, t1⟩ := hW; go_simp; try with_reducible rfl)
            refine AnyZ.done (by kernel_rfl) ?_
            go_simp
            have hbd : Below wo.heap.size wo wo.drew := (Below.refl _ wo).drew
            replace HP := Lib.hid (HP.out.call hbd)
            replace HZ := Lib.hid (HZ.out.call hbd)
            have kp := Keeps.of_below hbd
            replace e3 := kp _ _ e3
            clear f0 f1 fz kp hbd
            generalize wo.drew = wv at *
            obtain ⟨⟨f0, f1⟩, fz⟩ := box2 HZ.out.f
            obtain ⟨⟨r20, r21⟩, rz⟩ := box2 HP.out.r2
            have rz0 := rz 0
            have rz1 := rz 1
            obtain ⟨⟨s20, s21⟩, sz⟩ := box2 HP.out.r3
            have sz0 := sz 0
            have sz1 := sz 1
            have HQ := Lib.hid (HP.out.fine (vs := vs) (by rw [← HWE.out]; exact HFI.out) (by rw [← HWE.out]; exact HVS.out) HZ.out.cls)
            have hn32 : ¬ b3 = b2 := by have := HE.out; omega
            have hn23 : ¬ b2 = b3 := by have := HE.out; omega
            clear rz sz
            go_wp2_with fail
            exact ⟨rfl, _, outsC rfl rfl HQ.out.1 HQ.out.2.1, .inr HQ.out.2.2.1, HQ.out.2.2.2⟩
end Go.Proofs.YtlfjchlkooemdaaDoor
