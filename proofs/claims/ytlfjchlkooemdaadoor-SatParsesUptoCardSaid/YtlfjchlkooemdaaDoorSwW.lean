/- sat.words, walked: the words of a formula's text. Condition: the text is shorter than 1000000000 bytes. -/
import Derived.Test.YtlfjchlkooemdaaDoorSwP
import Derived.Test.YtlfjchlkooemdaaDoorApS
namespace Go.Proofs.YtlfjchlkooemdaaDoor
open Go.RowKit Go.Shelf Go.Deep
attribute [local go_sem] Oper.semAt_some

theorem lines_any (s : ByteArray) (w : World) : Calls Tryd.prog 17 #[.string s] w fun e w' => e = .returned (.func (.func 25) #[] #[.pointer (some ⟨w.heap.size, 0, none⟩)]) ∧ w' = w.alloc (.cells #[.string s] 9) := by
  go_enter Tryd.func17, Tryd.ntmps17
  go_wp2
  go_ret
  exact ⟨rfl, rfl⟩
/-- a word, as it lies -/
def wv (W : List Wd0) (k : Nat) : Nat → Value := two (.string (bstr (W.getD k ([], 0)).1)) (.int .i64 ((W.getD k ([], 0)).2 : Nat))
/-- what stands between two lines: out's box, at's box -/
structure WdI (w0 : World) (z b0 b1 : Nat) (Ws : List Wd0) (a : Nat) (W : World) : Prop where
  out : ∃ A c, W.heap[b0]? = some (.cells #[.slice A Ws.length c] 36) ∧ W.ownsRow z 39 2 (.slice A Ws.length c) Ws.length (flatF 2 (wv Ws) Ws.length)
  at_ : W.heap[b1]? = some (.cells #[.int .i64 (a : Int)] 3)
  bel : Below w0.heap.size w0 W
  sz : z ≤ W.heap.size

theorem own_cells {w : World} {base : Nat} {e : TypeId} {sz n c : Nat} {A : Option Addr} {xs : List Value} (h : w.ownsRow base e sz (.slice A n c) n xs) : ∀ k, blockOf A k → ∃ o : Obj, w.heap[k]? = some o ∧ o.isCells = true := by
  intro k ⟨a, ha, hk⟩
  subst ha; subst hk
  rcases h.2 with ⟨h0, _⟩ | ⟨g, cap, cur', hv, hg, hh, _⟩
  · cases h0
  · injection hv with e1
    injection e1 with e1
    subst e1
    exact ⟨_, hh, rfl⟩
theorem WdI.move {w0 : World} {z b0 b1 : Nat} {Ws : List Wd0} {a : Nat} {A B : World} {S : Nat → Prop} (h : WdI w0 z b0 b1 Ws a A) (k : Only S A B) (h0 : ¬ S b0) (h1 : ¬ S b1) (hr : ∀ j, S j → j < z ∨ ∃ o : Obj, A.heap[j]? = some o ∧ o.isCells = false) (hb : ∀ j, S j → w0.heap.size ≤ j) : WdI w0 z b0 b1 Ws a B := by
  obtain ⟨⟨X, c, e1, e2⟩, e3, e4, e5⟩ := h
  refine ⟨⟨X, c, (k.block b0 (Array.getElem?_eq_some_iff.1 e1).1 h0).trans e1, own_only e2 k (fun j hj hs => ?_)⟩, (k.block b1 (Array.getElem?_eq_some_iff.1 e3).1 h1).trans e3, e4.trans (k.below (fun j _ hs => hb j hs) e4.size), Nat.le_trans e5 k.size⟩
  rcases hr j hs with h2 | ⟨o, h2, h3⟩
  · have := own_base e2 j hj; omega
  · obtain ⟨o', h4, h5⟩ := own_cells e2 j hj
    rw [h2] at h4
    injection h4 with h4
    subst h4
    rw [h3] at h5; cases h5
theorem only_grown {A B : World} {row : Option Nat} (h : A.grownBy B row) : Only (fun k => row = some k) A B := ⟨h.os, h.tape, h.output, h.size, fun k hk hn => h.block k hk (fun e => hn e.symm)⟩
theorem WdI.own {w0 : World} {z b0 b1 : Nat} (hz : w0.heap.size ≤ z) (h0 : b0 < z) (h1 : b1 < z) (Wf : List (List UInt8) → List Wd0 × Nat) : OwnFrom z (fun pre W => WdI w0 z b0 b1 (Wf pre).1 (Wf pre).2 W) := fun s A B row hs hg hr =>
  hs.move (only_grown hg) (fun e => by have := (hr _ e).1; omega) (fun e => by have := (hr _ e).1; omega) (fun j e => .inr (hr j e).2) (fun j e => by have := (hr j e).1; omega)

theorem wpIn_append1 {F : Fence} {n : Nat} {P : Program} {o : Oper} {a : Act} {w w' : World} {K : Act → World → Prop} {Q : Exit → Act → World → Prop} (hF : ∀ f, F.fn f) (s x : Operand) (t : TypeId)
    (ho : o.op = .call { callee := .builtin .append, args := #[s, x], argTypes := #[t, t] }) {v vs vx : Value} (hs : a.eval s = vs) (hx : a.eval x = vx)
    (hr : (Builtin.append_ #[t, t] o.type #[vs, vx]).run P w = .ok v w') (h : K (a.put o.dst v) w') : Oper.wpIn F n P o a w K Q := by
  unfold Oper.wpIn
  refine ⟨fun f _ => hF f, ?_⟩
  rw [Oper.semAt_eq F.round _ o (fun c e => by rw [ho] at e; cases e)]
  unfold execOp
  simp only [ho, resolve, invoke, builtin, Sem.run_bind, Sem.run_pure, Result.andThen_ok, List.map_toArray, List.map_cons, List.map_nil, hs, hx, hr]
  exact h
theorem elWd : Elem Tryd.prog 36 39 2 24 := elem_mk Tryd.underlying36 (show (Tryd.prog.info? 39).map (fun i => (i.zero, i.size, i.bytes)) = some (some (.agg #[.string ⟨#[]⟩, .int .i64 0]), 2, 24) by kernel_rfl) rfl (by omega) (by omega)
theorem wv_more (V : List Wd0) (t : List UInt8) (p : Nat) : flatF 2 (wv V) V.length ++ [.string (bstr t), .int .i64 (p : Int)] = flatF 2 (wv (V ++ [(t, p)])) (V ++ [(t, p)]).length := by
  rw [List.length_append]
  show _ = flatF 2 _ (V.length + 1)
  simp only [flatF]
  rw [flatF_congr (f := wv (V ++ [(t, p)])) (g := wv V) V.length (fun k hk j _ => by
    unfold wv
    rw [List.getD_eq_getElem?_getD, List.getElem?_append_left hk, ← List.getD_eq_getElem?_getD])]
  congr 1
  simp [List.range_succ, wv, two]
theorem bstr_ext (l : List UInt8) (a b : Nat) : (bstr l).extract a b = bstr ((l.drop a).take (b - a)) := by
  rw [← bstr_of ((bstr l).extract a b), Lib.extract_data, bstr_list]
theorem idxSp (b : UInt8) (w : World) : Calls Tryd.prog 20 #[.string ⟨#[32, 9, 10]⟩, .int .u8 (b.toNat : Int)] w fun e w' => e = .returned (.int .i64 (Lib.indexByte [32, 9, 10] b)) ∧ w' = w :=
  (Tryd.strings_IndexByte ⟨#[32, 9, 10]⟩ (b.toNat : Int) w).mono (by rintro e w' ⟨h1, h2⟩; exact ⟨by rw [h1, show ((b.toNat : Int)).toNat.toUInt8 = b by simp], h2⟩)
/-- what a round may write: the two boxes, and the row of words -/
def WdS (z b0 b1 : Nat) (W : World) (j : Nat) : Prop := j = b0 ∨ j = b1 ∨ (z ≤ j ∧ ∃ o : Obj, W.heap[j]? = some o ∧ o.isCells = true)
theorem WdS.keeps {z b0 b1 B0 : Nat} {W W' : World} (h : Only (WdS z b0 b1 W) W W') (h0 : b0 < z) (h1 : b1 < z) (hB : B0 < z) (n0 : B0 ≠ b0) (n1 : B0 ≠ b1) (hBl : B0 < W.heap.size) : KeepsFrom z W W' ∧ W'.heap[B0]? = W.heap[B0]? := by
  refine ⟨⟨h.size, fun k o hk ho hc => ?_⟩, h.block B0 hBl (by rintro (e | e | ⟨e, _⟩); exact n0 e; exact n1 e; omega)⟩
  refine (h.block k (Array.getElem?_eq_some_iff.1 ho).1 ?_).trans ho
  rintro (e | e | ⟨_, o', h2, h3⟩)
  · omega
  · omega
  · rw [ho] at h2; injection h2 with h2; subst h2; rw [hc] at h3; cases h3
theorem WdI.at_set {w0 : World} {z b0 b1 : Nat} {Ws : List Wd0} {a : Nat} {A : World} (h : WdI w0 z b0 b1 Ws a A) (a' : Nat) (hne : b0 ≠ b1) (h1 : b1 < z) (hb : w0.heap.size ≤ b1) : WdI w0 z b0 b1 Ws a' (A.setCell ⟨b1, 0, none⟩ (.int .i64 (a' : Int))) := by
  obtain ⟨⟨X, c, e1, e2⟩, e3, e4, e5⟩ := h
  have k : Only (fun j => j = b1) A (A.setCell ⟨b1, 0, none⟩ (.int .i64 (a' : Int))) := Only.setCell (p := ⟨b1, 0, none⟩) (Only.refl (fun j => j = b1) A) (fun _ => rfl) _
  exact ⟨⟨X, c, (k.block b0 (Array.getElem?_eq_some_iff.1 e1).1 hne).trans e1, own_only e2 k (fun j hj e => by have := own_base e2 j hj; omega)⟩, set_box e3 _, e4.trans (k.below (fun j _ e => by omega) e4.size), Nat.le_trans e5 k.size⟩
theorem WdS.row {z b0 b1 : Nat} {W W1 : World} (h : Only (WdS z b0 b1 W) W W1) {e : TypeId} {sz n c : Nat} {A : Option Addr} {xs : List Value} (ho : W1.ownsRow z e sz (.slice A n c) n xs) : ∀ j, j < W.heap.size → blockOf A j → WdS z b0 b1 W j := fun j hj hb => by
  refine Classical.byContradiction (fun hn => ?_)
  obtain ⟨o, h1, h2⟩ := own_cells ho j hb
  rw [h.block j hj hn] at h1
  exact hn (.inr (.inr ⟨own_base ho j hb, o, h1, h2⟩))

/-- one word more: what a round has written -/
theorem WdI.push {w0 W W2 W3 w4 : World} {z b0 b1 a p cA c' : Nat} {V : List Wd0} {t : List UInt8} {A A' : Option Addr} (h : WdI w0 z b0 b1 V a W2)
    (e1 : W2.heap[b0]? = some (.cells #[.slice A V.length cA] 36)) (e2 : W2.ownsRow z 39 2 (.slice A V.length cA) V.length (flatF 2 (wv V) V.length))
    (hba : Below W2.heap.size W2 W3) (hon : Only (blockOf A) W3 w4) (hown : w4.ownsRow z 39 2 (.slice A' (V.length + 1) c') (V.length + 1) (flatF 2 (wv V) V.length ++ [.string (bstr t), .int .i64 (p : Int)]))
    (hO : Only (WdS z b0 b1 W) W W2) (h0 : b0 < z) (h1 : b1 < z) (hne : b0 ≠ b1) (hw0 : w0.heap.size ≤ b0) :
    w4.heap[b0]? = some (.cells #[.slice A V.length cA] 36) ∧ w4.heap[b1]? = some (.cells #[.int .i64 (a : Int)] 3)
      ∧ WdI w0 z b0 b1 (V ++ [(t, p)]) a (w4.setCell ⟨b0, 0, none⟩ (.slice A' (V.length + 1) c')) ∧ Only (WdS z b0 b1 W) W (w4.setCell ⟨b0, 0, none⟩ (.slice A' (V.length + 1) c')) := by
  have hA : ∀ k, blockOf A k → z ≤ k := own_base e2
  have k1 : Only (blockOf A) W2 w4 := ((Only.refl (blockOf A) W2).call hba).then_ hon (fun i _ h => h)
  have q0 := (k1.block b0 (Array.getElem?_eq_some_iff.1 e1).1 (fun hs => by have := hA _ hs; omega)).trans e1
  have q1 := (k1.block b1 (Array.getElem?_eq_some_iff.1 h.at_).1 (fun hs => by have := hA _ hs; omega)).trans h.at_
  have k2 : Only (fun j => j = b0 ∨ blockOf A j) W2 (w4.setCell ⟨b0, 0, none⟩ (.slice A' (V.length + 1) c')) := (k1.mono (fun _ _ hs => .inr hs)).setCell (p := ⟨b0, 0, none⟩) (fun _ => .inl rfl) _
  have k3 : Only (fun j => j = b0) w4 (w4.setCell ⟨b0, 0, none⟩ (.slice A' (V.length + 1) c')) := Only.setCell (p := ⟨b0, 0, none⟩) (Only.refl (fun j => j = b0) w4) (fun _ => rfl) _
  have hl : (V ++ [(t, p)]).length = V.length + 1 := by simp
  rw [wv_more, hl] at hown
  refine ⟨q0, q1, ⟨⟨A', c', ?_, ?_⟩, (k3.block b1 (Array.getElem?_eq_some_iff.1 q1).1 (fun e => hne e.symm)).trans q1, h.bel.trans (k2.below (fun j _ hs => ?_) h.bel.size), Nat.le_trans h.sz k2.size⟩, hO.then_ k2 (fun i hi hs => ?_)⟩
  · rw [hl]; exact set_box q0 _
  · rw [hl]; exact own_only hown k3 (fun j hj e => by have := own_base hown j hj; omega)
  · rcases hs with e | e
    · omega
    · have := hA _ e; omega
  · rcases hs with e | e
    · exact .inl e
    · exact WdS.row hO e2 i hi e

set_option maxRecDepth 100000 in
set_option maxHeartbeats 16000000 in
theorem words_any (txt : List UInt8) (w : World) (hs : txt.length ≤ 1000000000) :
    Calls Tryd.prog 9 #[.string (bstr txt)] w fun e w' => (∃ A c, e = .returned (.slice A (scan txt 0 [] 0).length c) ∧ RowT (fun _ => True) w' 39 2 A (scan txt 0 [] 0).length (wv (scan txt 0 [] 0))) ∧ Below w.heap.size w w' := by
  have hF : ∀ f, Fence.wide.fn f := fun _ => trivial
  refine (callsIn_wide (n := 10)).1 ?_
  refine callsIn_of_wp_marks Tryd.func9 rfl trivial ?_ rfl
  simp only [Tryd.ntmps9, List.size_toArray, List.length_cons, List.length_nil, Nat.reduceAdd, Nat.reduceSub, Array.replicate_succ, Array.replicate_zero, List.push_toArray, List.append_toArray, List.nil_append, List.cons_append]
  obtain ⟨s, hse⟩ : ∃ s, s = bstr txt := ⟨_, rfl⟩
  rw [← hse]
  have HSE := Lib.hid hse
  clear hse
  gi_wp2_with fail
  refine (callsIn_wide.2 (lines_any s _)).mono ?_
  rintro e w' ⟨rfl, hw⟩
  rw [hw]
  clear hw
  gi_wp2_with fail
  have hw3 : Below w.heap.size w (((w.alloc (.cells #[.slice none 0 0] 36)).alloc (.cells #[.int .i64 0] 3)).alloc (.cells #[.string s] 9)) := (((Below.refl _ _).alloc (Nat.le_refl _) _).alloc (by simp) _).alloc (by simp; omega) _
  have hz3 : (((w.alloc (.cells #[.slice none 0 0] 36)).alloc (.cells #[.int .i64 0] 3)).alloc (.cells #[.string s] 9)).heap.size = w.heap.size + 3 := by simp
  have hk0 : (((w.alloc (.cells #[.slice none 0 0] 36)).alloc (.cells #[.int .i64 0] 3)).alloc (.cells #[.string s] 9)).heap[w.heap.size]? = some (.cells #[.slice none 0 0] 36) :=
    (Below.heap_alloc _ _ _ (by simp; omega)).trans ((Below.heap_alloc _ _ _ (by simp)).trans (heap_alloc_new w _))
  have hk1 : (((w.alloc (.cells #[.slice none 0 0] 36)).alloc (.cells #[.int .i64 0] 3)).alloc (.cells #[.string s] 9)).heap[w.heap.size + 1]? = some (.cells #[.int .i64 0] 3) := by
    have h := heap_alloc_new (w.alloc (.cells #[.slice none 0 0] 36)) (.cells #[.int .i64 0] 3)
    rw [World.size_alloc] at h
    exact (Below.heap_alloc _ _ _ (by simp)).trans h
  have hk2 : (((w.alloc (.cells #[.slice none 0 0] 36)).alloc (.cells #[.int .i64 0] 3)).alloc (.cells #[.string s] 9)).heap[w.heap.size + 1 + 1]? = some (.cells #[.string s] 9) := by
    have h := heap_alloc_new ((w.alloc (.cells #[.slice none 0 0] 36)).alloc (.cells #[.int .i64 0] 3)) (.cells #[.string s] 9)
    rw [World.size_alloc, World.size_alloc] at h
    exact h
  generalize ((w.alloc (.cells #[.slice none 0 0] 36)).alloc (.cells #[.int .i64 0] 3)).alloc (.cells #[.string s] 9) = w3 at *
  obtain ⟨B0, hB0⟩ : ∃ b, b = w.heap.size + 1 + 1 := ⟨_, rfl⟩
  rw [← hB0] at hk2 ⊢
  obtain ⟨b1, hb1⟩ : ∃ b, b = w.heap.size + 1 := ⟨_, rfl⟩
  rw [← hb1] at hk1 ⊢
  obtain ⟨b0, hb0⟩ : ∃ b, b = w.heap.size := ⟨_, rfl⟩
  rw [← hb0] at hk0 ⊢
  obtain ⟨z, hz⟩ : ∃ z, z = w3.heap.size := ⟨_, rfl⟩
  have HE : Hid (b0 = w.heap.size ∧ b1 = w.heap.size + 1 ∧ B0 = w.heap.size + 2 ∧ z = w3.heap.size ∧ w3.heap.size = w.heap.size + 3) := Lib.hid ⟨hb0, hb1, by omega, hz, hz3⟩
  have HZ := Lib.hid hz
  clear hB0 hb1 hb0 hz hz3
  have hI0 : WdI w z b0 b1 (fw []).1 (fw []).2 w3 := ⟨⟨none, 0, hk0, World.ownsRow_nil _ _ _ _⟩, hk1, hw3, by have := HE.out; omega⟩
  refine wpIn_rangeW (α := List UInt8) (gf := 25) (lb := #[.pointer (some ⟨B0, 0, none⟩)]) rfl (by omega) rfl trivial (enters_of Tryd.func25 (by kernel_rfl) rfl) (lines_seq txt _ B0 (by omega)) (by have := HE.out; omega)
    (fun W h => by rw [h B0 (by have := HE.out; omega), hk2, HSE.out]) (fun _ => rfl)
    (fun pre W => WdI w z b0 b1 (fw pre).1 (fw pre).2 W) (by rw [← HZ.out]; have := HE.out; exact WdI.own (by omega) (by omega) (by omega) fw)
    (fun pre A B h hg => by
      have := HE.out
      exact h.move (only_grown hg) (fun e => by injection e; omega) (fun e => by injection e; omega) (fun j e => .inl (by injection e; omega)) (fun j e => by injection e; omega)) hI0
    (fun x => { tmps := #[.string s, undef, .slice none 0 0, .pointer (some ⟨b0, 0, none⟩), .pointer (some ⟨b1, 0, none⟩), .string (bstr x), undef, undef, undef, .string s, .func (.func 25) #[] #[.pointer (some ⟨B0, 0, none⟩)], .string (bstr x), undef, undef, undef, undef, undef, undef, undef, undef, undef, undef, undef, undef, undef, undef, undef, undef, undef, undef, undef, undef, undef, undef, undef, undef, undef, undef, undef, undef, undef, undef, undef, undef, undef, undef, undef, undef, undef, undef, undef, undef, undef, undef, undef, undef, undef, undef, undef], defers := [] }) ?assign ?body ?done
  case assign =>
    intro l x W K hK
    gi_wp2_with fail
    exact hK
  case done =>
    intro D W hD hI hDD
    obtain ⟨A, c, e1, e2⟩ := hI.out
    rw [fw_lines] at e1 e2
    have c0 : W.cell? ⟨b0, 0, none⟩ = some (.slice A (scan txt 0 [] 0).length c) := by rw [cell_of_row W b0 _ _ _ _ e1]; rfl
    obtain ⟨N, hN⟩ : ∃ N, N = (scan txt 0 [] 0).length := ⟨_, rfl⟩
    rw [← hN] at c0 e1 e2
    have hI2 := hI.move (only_grown (grownBy_putObj' W D (.deferred none))) (fun e => by injection e; have := HE.out; omega) (fun e => by injection e; have := HE.out; omega) (fun j e => .inr (by injection e with e; subst e; exact ⟨_, hDD, rfl⟩)) (fun j e => by injection e; have := HE.out; omega)
    have HI2 := Lib.hid hI2; have HN := Lib.hid hN; have HDD := Lib.hid hDD
    have e2' := own_only e2 (only_grown (grownBy_putObj' W D (.deferred none))) (fun k hk e => by
      injection e with e; subst e
      obtain ⟨o, h1, h2⟩ := own_cells e2 D hk
      rw [hDD] at h1; injection h1 with h1; subst h1; cases h2)
    have HE2 := Lib.hid e2'
    clear hI hI2 e1 e2 e2' hN hDD
    gi_wp2_with fail
    refine ⟨by simp, .inl ⟨_, _, rfl, run_takeDeferred HDD.out, ?_⟩⟩
    refine ⟨_, results_tmp rfl _ _ _, ⟨⟨A, c, ?_, ?_⟩, HI2.out.bel⟩⟩
    · rw [← HN.out]; rfl
    · rw [← HN.out]
      have h := (own_flat HE2.out).mono (p' := fun _ => True) (fun _ _ _ => trivial)
      rw [HN.out] at h ⊢
      exact h
  case body =>
    intro l pre x W hl hI hpx
    have hF : ∀ f, (Fence.wide.inRound l).fn f := fun _ => trivial
    have hxl : (fw (pre ++ [x])).2 ≤ txt.length := by
      have := fwGo_at txt.length txt (pre ++ [x]) ([], 0) (Nat.le_refl _) hpx
      simpa [fw] using this
    rw [fw_snoc] at hxl
    have hlen := fw_len pre
    obtain ⟨a, ha⟩ : ∃ a, a = (fw pre).2 := ⟨_, rfl⟩
    obtain ⟨Ws, hWs⟩ : ∃ Ws, Ws = (fw pre).1 := ⟨_, rfl⟩
    have HFW : Hid (fw (pre ++ [x]) = (Ws ++ lineW x a, a + x.length)) := Lib.hid (by rw [fw_snoc, hWs, ha])
    rw [← ha, ← hWs] at hI
    rw [← ha] at hxl hlen
    rw [← hWs] at hlen
    obtain ⟨sx, hsx⟩ : ∃ sx, sx = bstr x := ⟨_, rfl⟩
    rw [← hsx]
    have HSX := Lib.hid hsx; have HI := Lib.hid hI
    have hxb : a + x.length ≤ txt.length := hxl
    clear ha hWs hsx hI hpx hxl
    gi_wp2_with fail
    refine CallsIn.mono (CallsIn.inRound l (callsIn_wide.2 (Tryd.strings_TrimLeft_tab sx W))) ?_
    rintro e W1 ⟨rfl, hb1⟩
    have hO1 : Only (WdS z b0 b1 W) W W1 := (Only.refl _ _).call hb1
    have hI1 := HI.out.move (S := fun _ => False) ((Only.refl _ _).call hb1) (fun h => h) (fun h => h) (fun _ h => h.elim) (fun _ h => h.elim)
    have HO1 := Lib.hid hO1; have HI1 := Lib.hid hI1
    clear hO1 hI1 hb1
    obtain ⟨tb, htb⟩ : ∃ tb : ByteArray, tb = ⟨(Lib.trimLeftS sx.data.toList [32, 9]).toArray⟩ := ⟨_, rfl⟩
    rw [← htb]
    have HTB : Hid (Lib.hasPrefix tb.data.toList [99] = remark x) := Lib.hid (by rw [htb, HSX.out, bstr_list]; exact rem_eq x)
    clear htb
    gi_wp2_with fail
    refine CallsIn.mono (CallsIn.inRound l (callsIn_wide.2 (Tryd.strings_HasPrefix tb ⟨#[99]⟩ W1))) ?_
    rintro e w' ⟨rfl, hw⟩
    rw [hw]
    clear hw
    rw [show Lib.hasPrefix tb.data.toList (⟨#[99]⟩ : ByteArray).data.toList = remark x from HTB.out]
    by_cases hrem : remark x = true
    · rw [hrem]
      have HWE : Hid (Ws = Ws ++ lineW x a) := Lib.hid (by unfold lineW; rw [if_pos hrem, List.append_nil])
      obtain ⟨wq, hwq⟩ : ∃ wq, wq = W1 := ⟨_, rfl⟩
      subst hwq
      have HIq := HI1; have HOq := HO1
      clear hrem
      have hc1 := HIq.out.at_
      have c1 : wq.cell? ⟨b1, 0, none⟩ = some (.int .i64 (a : Int)) := by rw [cell_of_row wq b1 _ _ _ _ hc1]; rfl
      have z1 : wq.frozen? ⟨b1, 0, none⟩ = false := by simp [World.frozen?, hc1]
      have hsz : sx.size = x.length := by rw [HSX.out]; exact bstr_size x
      obtain ⟨a2, ha2⟩ : ∃ a2, a2 = a + x.length := ⟨_, rfl⟩
      have ew : IntKind.i64.wrap ((a : Int) + (x.length : Int)) = (a2 : Int) := by rw [IntKind.wrap_i64]; omega
      have HA2 := Lib.hid ha2
      clear hc1 ha2
      gi_wp2_with fail
      have hE := HE.out
      have hI9 := HIq.out.at_set a2 (by omega) (by omega) (by omega)
      have hO9 := HOq.out.setCell (p := ⟨b1, 0, none⟩) (fun _ => .inr (.inl rfl)) (.int .i64 (a2 : Int))
      have hKF := WdS.keeps (B0 := B0) hO9 (by omega) (by omega) (by omega) (by omega) (by omega) (Nat.lt_of_lt_of_le (by omega) HI.out.sz)
      refine ⟨?_, hKF.2, ?_⟩
      · rw [← HZ.out]; exact hKF.1
      · show WdI w z b0 b1 (fw (pre ++ [x])).1 (fw (pre ++ [x])).2 _
        rw [HFW.out]
        show WdI w z b0 b1 (Ws ++ lineW x a) (a + x.length) _
        rw [← HWE.out, ← HA2.out]
        exact hI9
    · rw [show remark x = false by simpa using hrem]
      have HLW : Hid (lineW x a = wordsF x 0 a) := Lib.hid (by unfold lineW; rw [if_neg hrem, wordsF_zero])
      have hsz : sx.size = x.length := by rw [HSX.out]; exact bstr_size x
      clear hrem
      gi_wp2_with fail
      gi_loopw [7] (fun vf wr => ∃ (f : Nat) (V : List Wd0), f ≤ x.length ∧ vf = .int .i64 f ∧ V.length ≤ Ws.length + f ∧ Hid (V ++ wordsF x f a = Ws ++ lineW x a) ∧ Hid (WdI w z b0 b1 V a wr) ∧ Hid (Only (WdS z b0 b1 W) W wr)) (fun vf _ => x.length - (intOf vf).toNat)
      case atStart => exact ⟨0, Ws, by omega, rfl, by omega, Lib.hid (by rw [HLW.out]), HI1, HO1⟩
      case round =>
        clear HI1 HO1
        obtain ⟨f, V, hf, rfl, hVl, HV, HIf, HOf⟩ := hrel
        obtain ⟨wq, hwq⟩ : ∃ wq, wq = wr := ⟨_, rfl⟩
        subst hwq
        by_cases hlt : f < x.length
        · have hlt2 : f < sx.size := by omega
          obtain ⟨b, hbe⟩ : ∃ b : UInt8, sx[f]'hlt2 = b := ⟨_, rfl⟩
          have hxb2 : x[f]? = some b := by
            have h := Lib.data_getElem? sx f hlt2
            rw [hbe, HSX.out, bstr_list] at h; exact h
          have HXB := Lib.hid hxb2
          clear hxb2
          gi_wp2_with fail
          refine CallsIn.mono (CallsIn.inRound l (callsIn_wide.2 (idxSp b wq))) ?_
          rintro e w' ⟨rfl, hw⟩
          rw [hw]
          clear hw hbe
          have hspb := sp_ix b
          obtain ⟨k, hk⟩ : ∃ k, k = Lib.indexByte [32, 9, 10] b := ⟨_, rfl⟩
          rw [← hk] at hspb ⊢
          clear hk
          cases hb : isSp b
          · rw [hb] at hspb
            have hlt0 : ¬ (0 : Int) ≤ k := of_decide_eq_false hspb
            have HB := Lib.hid hb
            clear hspb hb
            gi_wp2_with fail
            have hsub : sx.extract f x.length = bstr (x.drop f) := by rw [HSX.out, bstr_drop]
            rw [hsub]
            clear hsub
            refine CallsIn.mono (CallsIn.inRound l (callsIn_wide.2 (indexAny_sp (bstr (x.drop f)) wq (by rw [bstr_size, List.length_drop]; omega)))) ?_
            rintro e W2 ⟨rfl, hb2⟩
            rw [bstr_list]
            have htw := ix_tw (x.drop f)
            obtain ⟨n, hn⟩ : ∃ n, n = ((x.drop f).takeWhile (fun x => !isSp x)).length := ⟨_, rfl⟩
            have hn1 : 1 ≤ n := by rw [hn]; exact tw_pos HXB.out HB.out
            have hnl : f + n ≤ x.length := by have := tw_le x f; omega
            have HWW := Lib.hid (wordsF_word (a := a) HXB.out HB.out hn)
            rw [← hn, List.length_drop] at htw
            obtain ⟨q, hq⟩ : ∃ q, q = Lib.indexAny (x.drop f) [32, 9, 10] := ⟨_, rfl⟩
            rw [← hq] at htw ⊢
            have HI2 := Lib.hid (HIf.out.move (S := fun _ => False) ((Only.refl _ _).call hb2) (fun h => h) (fun h => h) (fun _ h => h.elim) (fun _ h => h.elim))
            have HO2 := Lib.hid (HOf.out.call hb2)
            clear hn hq hb2 HIf HOf
            rcases htw with ⟨h1, h2⟩ | ⟨h1, h2⟩
            · subst h1
              have ew : IntKind.i64.wrap ((x.length : Int) - (f : Int)) = (n : Int) := by rw [IntKind.wrap_i64]; omega
              clear h2
              gi_wp2_with fail
              obtain ⟨A, cA, e1, e2⟩ := HI2.out.out
              have c0 : W2.cell? ⟨b0, 0, none⟩ = some (.slice A V.length cA) := by rw [cell_of_row W2 b0 _ _ _ _ e1]; rfl
              have hc1 := HI2.out.at_
              have c1 : W2.cell? ⟨b1, 0, none⟩ = some (.int .i64 (a : Int)) := by rw [cell_of_row W2 b1 _ _ _ _ hc1]; rfl
              have HOWN := Lib.hid e2; have HE1 := Lib.hid e1
              clear e1 e2 hc1
              obtain ⟨j, hj⟩ : ∃ j, j = f + n := ⟨_, rfl⟩
              obtain ⟨p, hp⟩ : ∃ p, p = a + f := ⟨_, rfl⟩
              have ew1 : IntKind.i64.wrap ((f : Int) + (n : Int)) = (j : Int) := by rw [IntKind.wrap_i64]; omega
              have ew2 : IntKind.i64.wrap ((a : Int) + (f : Int)) = (p : Int) := by rw [IntKind.wrap_i64]; omega
              have hj1 : f ≤ j := by omega
              have hj2 : j ≤ x.length := by omega
              have HJ2 := Lib.hid hj; have HP2 := Lib.hid hp
              clear hj hp
              refine wpIn_region_z (fun w' => w'.cell? ⟨b0, 0, none⟩ = some (.slice A V.length cA) ∧ w'.cell? ⟨b1, 0, none⟩ = some (.int .i64 (a : Nat))) [0, 1, 2, 3, 4, 5, 6, 7, 8, 9, 10] [13] hF (by kernel_rfl) (by kernel_rfl) (by kernel_rfl) (by kernel_rfl) (by rfl) (fun _ _ _ _ _ h => h) ⟨c0, c1⟩ ?_
              iterate 11
                refine Heads.step (v := ?_) rfl (by first | (go_simp; done) | rfl) (fun W hW => ?_) ?_
                rotate_left
                · (obtain ⟨t0, t1⟩ := hW; go_simp; try with_reducible rfl)
              refine AnyY.one (i := 11) hF (by kernel_rfl) rfl (fun K hK => ?_)
              go_simp
              have hes : sx.extract f j = bstr ((x.drop f).take n) := by rw [HSX.out, bstr_ext, HJ2.out, Nat.add_sub_cancel_left]
              rw [hes]
              clear hes
              obtain ⟨_, _, hsc⟩ := src_news W2 #[.string (bstr ((x.drop f).take n)), .int .i64 (p : Int)] 39 2 1 rfl (by intro u hu; simp at hu; rcases hu with rfl | rfl <;> rfl)
              obtain ⟨ad, hae, hsc⟩ := hsc (by omega)
              injection hae with hae; subst hae
              have hba : Below W2.heap.size W2 (W2.alloc (.cells #[.string (bstr ((x.drop f).take n)), .int .i64 (p : Int)] 39)).drew := ((Below.refl _ _).alloc (Nat.le_refl _) _).drew
              have hszz := HI2.out.sz
              obtain ⟨A', c', w4, hap, hown', hon⟩ := run_append_s elWd (w := (W2.alloc (.cells #[.string (bstr ((x.drop f).take n)), .int .i64 (p : Int)] 39)).drew) (base := z) 0 (own_below HOWN.out hba) ⟨W2.heap.size, 0, none⟩ 1 [.string (bstr ((x.drop f).take n)), .int .i64 (p : Int)] rfl (fun jj u hu => hsc jj u hu) (by intro u hu; simp at hu; rcases hu with rfl | rfl <;> rfl) (by omega) (Nat.le_trans hszz hba.size)
              have HJ := Lib.hid (by have hE := HE.out; exact HI2.out.push HE1.out HOWN.out hba hon hown' HO2.out (by omega) (by omega) (by omega) (by omega))
              have kp := Keeps.of_below hba
              replace c0 := kp _ _ c0; replace c1 := kp _ _ c1
              refine hK _ _ (fun _ => ⟨c0, c1⟩) ?_
              clear hK kp
              refine AnyY.one (i := 12) hF (by kernel_rfl) rfl (fun K hK => ?_)
              rw [if_pos (by rfl)]
              refine wpIn_append1 hF (.tmp 38) (.tmp 49) 36 rfl rfl rfl hap ?_
              go_simp
              replace c0 : w4.cell? ⟨b0, 0, none⟩ = some (.slice A V.length cA) := by rw [cell_of_row w4 b0 _ _ _ _ HJ.out.1]; rfl
              replace c1 : w4.cell? ⟨b1, 0, none⟩ = some (.int .i64 (a : Int)) := by rw [cell_of_row w4 b1 _ _ _ _ HJ.out.2.1]; rfl
              have z0 : w4.frozen? ⟨b0, 0, none⟩ = false := by simp [World.frozen?, HJ.out.1]
              clear hap hown' hon hsc hszz hba
              refine hK _ _ (fun _ => ⟨c0, c1⟩) ?_
              clear hK
              refine AnyY.one (i := 13) hF (by kernel_rfl) rfl (fun K hK => ?_)
              go_simp
              refine hK _ _ (fun h => by cases h) (AnyY.done (by kernel_rfl) ?_)
              clear hK
              go_simp
              gi_wp2_with fail
              have hv1 : (V ++ [((x.drop f).take n, p)]).length = V.length + 1 := by simp
              have hjf : j = f + n := HJ2.out
              refine ⟨⟨j, V ++ [((x.drop f).take n, p)], hj2, rfl, by rw [hv1]; omega, Lib.hid ?_, Lib.hid HJ.out.2.2.1, Lib.hid HJ.out.2.2.2⟩, ?_⟩
              · rw [← HV.out, HWW.out, HP2.out, ← HJ2.out]; simp
              · simp [intOf]; omega
            · subst h2
              clear h1
              gi_wp2_with fail
              obtain ⟨A, cA, e1, e2⟩ := HI2.out.out
              have c0 : W2.cell? ⟨b0, 0, none⟩ = some (.slice A V.length cA) := by rw [cell_of_row W2 b0 _ _ _ _ e1]; rfl
              have hc1 := HI2.out.at_
              have c1 : W2.cell? ⟨b1, 0, none⟩ = some (.int .i64 (a : Int)) := by rw [cell_of_row W2 b1 _ _ _ _ hc1]; rfl
              have HOWN := Lib.hid e2; have HE1 := Lib.hid e1
              clear e1 e2 hc1
              obtain ⟨j, hj⟩ : ∃ j, j = f + n := ⟨_, rfl⟩
              obtain ⟨p, hp⟩ : ∃ p, p = a + f := ⟨_, rfl⟩
              have ew1 : IntKind.i64.wrap ((f : Int) + (n : Int)) = (j : Int) := by rw [IntKind.wrap_i64]; omega
              have ew2 : IntKind.i64.wrap ((a : Int) + (f : Int)) = (p : Int) := by rw [IntKind.wrap_i64]; omega
              have hj1 : f ≤ j := by omega
              have hj2 : j ≤ x.length := by omega
              have HJ2 := Lib.hid hj; have HP2 := Lib.hid hp
              clear hj hp
              refine wpIn_region_z (fun w' => w'.cell? ⟨b0, 0, none⟩ = some (.slice A V.length cA) ∧ w'.cell? ⟨b1, 0, none⟩ = some (.int .i64 (a : Nat))) [0, 1, 2, 3, 4, 5, 6, 7, 8, 9, 10] [13] hF (by kernel_rfl) (by kernel_rfl) (by kernel_rfl) (by kernel_rfl) (by rfl) (fun _ _ _ _ _ h => h) ⟨c0, c1⟩ ?_
              iterate 11
                refine Heads.step (v := ?_) rfl (by first | (go_simp; done) | rfl) (fun W hW => ?_) ?_
                rotate_left
                · (obtain ⟨t0, t1⟩ := hW; go_simp; try with_reducible rfl)
              refine AnyY.one (i := 11) hF (by kernel_rfl) rfl (fun K hK => ?_)
              go_simp
              have hes : sx.extract f j = bstr ((x.drop f).take n) := by rw [HSX.out, bstr_ext, HJ2.out, Nat.add_sub_cancel_left]
              rw [hes]
              clear hes
              obtain ⟨_, _, hsc⟩ := src_news W2 #[.string (bstr ((x.drop f).take n)), .int .i64 (p : Int)] 39 2 1 rfl (by intro u hu; simp at hu; rcases hu with rfl | rfl <;> rfl)
              obtain ⟨ad, hae, hsc⟩ := hsc (by omega)
              injection hae with hae; subst hae
              have hba : Below W2.heap.size W2 (W2.alloc (.cells #[.string (bstr ((x.drop f).take n)), .int .i64 (p : Int)] 39)).drew := ((Below.refl _ _).alloc (Nat.le_refl _) _).drew
              have hszz := HI2.out.sz
              obtain ⟨A', c', w4, hap, hown', hon⟩ := run_append_s elWd (w := (W2.alloc (.cells #[.string (bstr ((x.drop f).take n)), .int .i64 (p : Int)] 39)).drew) (base := z) 0 (own_below HOWN.out hba) ⟨W2.heap.size, 0, none⟩ 1 [.string (bstr ((x.drop f).take n)), .int .i64 (p : Int)] rfl (fun jj u hu => hsc jj u hu) (by intro u hu; simp at hu; rcases hu with rfl | rfl <;> rfl) (by omega) (Nat.le_trans hszz hba.size)
              have HJ := Lib.hid (by have hE := HE.out; exact HI2.out.push HE1.out HOWN.out hba hon hown' HO2.out (by omega) (by omega) (by omega) (by omega))
              have kp := Keeps.of_below hba
              replace c0 := kp _ _ c0; replace c1 := kp _ _ c1
              refine hK _ _ (fun _ => ⟨c0, c1⟩) ?_
              clear hK kp
              refine AnyY.one (i := 12) hF (by kernel_rfl) rfl (fun K hK => ?_)
              rw [if_pos (by rfl)]
              refine wpIn_append1 hF (.tmp 38) (.tmp 49) 36 rfl rfl rfl hap ?_
              go_simp
              replace c0 : w4.cell? ⟨b0, 0, none⟩ = some (.slice A V.length cA) := by rw [cell_of_row w4 b0 _ _ _ _ HJ.out.1]; rfl
              replace c1 : w4.cell? ⟨b1, 0, none⟩ = some (.int .i64 (a : Int)) := by rw [cell_of_row w4 b1 _ _ _ _ HJ.out.2.1]; rfl
              have z0 : w4.frozen? ⟨b0, 0, none⟩ = false := by simp [World.frozen?, HJ.out.1]
              clear hap hown' hon hsc hszz hba
              refine hK _ _ (fun _ => ⟨c0, c1⟩) ?_
              clear hK
              refine AnyY.one (i := 13) hF (by kernel_rfl) rfl (fun K hK => ?_)
              go_simp
              refine hK _ _ (fun h => by cases h) (AnyY.done (by kernel_rfl) ?_)
              clear hK
              go_simp
              gi_wp2_with fail
              have hv1 : (V ++ [((x.drop f).take n, p)]).length = V.length + 1 := by simp
              have hjf : j = f + n := HJ2.out
              refine ⟨⟨j, V ++ [((x.drop f).take n, p)], hj2, rfl, by rw [hv1]; omega, Lib.hid ?_, Lib.hid HJ.out.2.2.1, Lib.hid HJ.out.2.2.2⟩, ?_⟩
              · rw [← HV.out, HWW.out, HP2.out, ← HJ2.out]; simp
              · simp [intOf]; omega
          · rw [hb] at hspb
            have hge0 : (0 : Int) ≤ k := of_decide_eq_true hspb
            have HB := Lib.hid hb
            clear hspb hb
            gi_wp2_with fail
            go_roundw
            case rel => exact ⟨f + 1, V, by omega, by go_num, by omega, Lib.hid (by rw [← wordsF_sp HXB.out HB.out]; exact HV.out), HIf, HOf⟩
            case measure => simp [intOf]; omega
        · obtain rfl : x.length = f := by omega
          have HWE : Hid (V = Ws ++ lineW x a) := Lib.hid (by rw [← HV.out, wordsF_end _ _ _ (Nat.le_refl _), List.append_nil])
          have HIq := HIf; have HOq := HOf
          clear HV hVl
          have hc1 := HIq.out.at_
          have c1 : wq.cell? ⟨b1, 0, none⟩ = some (.int .i64 (a : Int)) := by rw [cell_of_row wq b1 _ _ _ _ hc1]; rfl
          have z1 : wq.frozen? ⟨b1, 0, none⟩ = false := by simp [World.frozen?, hc1]
          obtain ⟨a2, ha2⟩ : ∃ a2, a2 = a + x.length := ⟨_, rfl⟩
          have ew : IntKind.i64.wrap ((a : Int) + (x.length : Int)) = (a2 : Int) := by rw [IntKind.wrap_i64]; omega
          have HA2 := Lib.hid ha2
          clear hc1 ha2
          gi_wp2_with fail
          have hE := HE.out
          have hI9 := HIq.out.at_set a2 (by omega) (by omega) (by omega)
          have hO9 := HOq.out.setCell (p := ⟨b1, 0, none⟩) (fun _ => .inr (.inl rfl)) (.int .i64 (a2 : Int))
          have hKF := WdS.keeps (B0 := B0) hO9 (by omega) (by omega) (by omega) (by omega) (by omega) (Nat.lt_of_lt_of_le (by omega) HI.out.sz)
          refine ⟨?_, hKF.2, ?_⟩
          · rw [← HZ.out]; exact hKF.1
          · show WdI w z b0 b1 (fw (pre ++ [x])).1 (fw (pre ++ [x])).2 _
            rw [HFW.out]
            show WdI w z b0 b1 (Ws ++ lineW x a) (a + x.length) _
            rw [← HWE.out, ← HA2.out]
            exact hI9
end Go.Proofs.YtlfjchlkooemdaaDoor
