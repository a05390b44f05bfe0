/- sat.Parse, walked: the clauses, or the fault. Condition: the text is shorter than 1000000000 bytes. -/
import Derived.Test.YtlfjchlkooemdaaDoorPaP
import Derived.Deep.CutBlock
namespace Go.Proofs.YtlfjchlkooemdaaDoor
open Go.RowKit Go.Shelf Go.Deep

/-- what stands while sat.Parse runs: the text's box, the result's, the words' -/
structure PaI (w0 : World) (txt : List UInt8) (Ws : List Wd0) (b1 b2 b4 : Nat) (A : Option Addr) (c : Nat) (W : World) : Prop where
  t1 : W.heap[b1]? = some (.cells #[.string (bstr txt)] 9)
  r2 : W.heap[b2]? = some (.cells #[.int .i64 0, .slice none 0 0] 25)
  l4 : W.heap[b4]? = some (.cells #[.slice A Ws.length c] 36)
  row : RowT (fun _ => True) W 39 2 A Ws.length (wv Ws)
  bel : Below w0.heap.size w0 W
  low : w0.heap.size ≤ b2
theorem heap_below {w w1 : World} {b : Nat} {o : Obj} (hb : Below w.heap.size w w1) (h : w.heap[b]? = some o) : w1.heap[b]? = some o := (hb.block b (Array.getElem?_eq_some_iff.1 h).1).trans h
section
variable {w0 W W1 : World} {txt : List UInt8} {Ws : List Wd0} {b1 b2 b4 c : Nat} {A : Option Addr}
theorem PaI.call (h : PaI w0 txt Ws b1 b2 b4 A c W) (hb : Below W.heap.size W W1) : PaI w0 txt Ws b1 b2 b4 A c W1 :=
  ⟨heap_below hb h.t1, heap_below hb h.r2, heap_below hb h.l4, h.row.below hb, h.bel.trans (hb.mono h.bel.size), h.low⟩
theorem PaI.only {S : Nat → Prop} (h : PaI w0 txt Ws b1 b2 b4 A c W) (k : Only S W W1) (h1 : ¬ S b1) (h2 : ¬ S b2) (h4 : ¬ S b4) (hr : ∀ b cur, W.heap[b]? = some (.cells cur 39 (0, 0)) → ¬ S b) (hl : ∀ b, S b → w0.heap.size ≤ b) : PaI w0 txt Ws b1 b2 b4 A c W1 :=
  ⟨k.heap h.t1 h1, k.heap h.r2 h2, k.heap h.l4 h4, h.row.only k (fun b cur _ hb => hr b cur hb), h.bel.trans (k.below (fun b _ hs => hl b hs) h.bel.size), h.low⟩
/-- a fault is told -/
def PaBad (w0 : World) (txt : List UInt8) (e : Ending) (W : World) : Prop := ∃ p b, parseW (scan txt 0 [] 0) txt.length = .inr p ∧ e = .returned (.tuple #[.agg #[.int .i64 0, .slice none 0 0], .iface 40 (.pointer (some ⟨b, 0, none⟩))]) ∧ w0.heap.size ≤ b ∧ W.heap[b]? = some (.cells #[.int .i64 1, .int .i64 (p : Nat)] 31)
def PaFine (txt : List UInt8) (e : Ending) (W : World) : Prop := ∃ cs A c, parseW (scan txt 0 [] 0) txt.length = .inl cs ∧ e = .returned (.tuple #[.agg #[.int .i64 ((hdN (scan txt 0 [] 0) 2 : Nat) : Int), .slice A cs.length c], .nilIface]) ∧ ClM W A cs
theorem PaI.bad {p bf : Nat} (h : PaI w0 txt Ws b1 b2 b4 A c W) (hp : parseW (scan txt 0 [] 0) txt.length = .inr p) (hb : Below W.heap.size W W1) (hl : W.heap.size ≤ bf) (hf : W1.heap[bf]? = some (.cells #[.int .i64 1, .int .i64 (p : Nat)] 31)) :
    ((W1.setCell ⟨b2, 0, none⟩ (.int .i64 0)).setCell ⟨b2, 1, none⟩ (.slice none 0 0)).heap[b2]? = some (.cells #[.int .i64 0, .slice none 0 0] 25) ∧
    (PaBad w0 txt (.returned (.tuple #[.agg #[.int .i64 0, .slice none 0 0], .iface 40 (.pointer (some ⟨bf, 0, none⟩))])) ((W1.setCell ⟨b2, 0, none⟩ (.int .i64 0)).setCell ⟨b2, 1, none⟩ (.slice none 0 0)) ∧ Below w0.heap.size w0 ((W1.setCell ⟨b2, 0, none⟩ (.int .i64 0)).setCell ⟨b2, 1, none⟩ (.slice none 0 0))) := by
  have h' := h.call hb
  have hb2 : b2 < W.heap.size := (Array.getElem?_eq_some_iff.1 h.r2).1
  have k : Only (fun b => b = b2) W1 ((W1.setCell ⟨b2, 0, none⟩ (.int .i64 0)).setCell ⟨b2, 1, none⟩ (.slice none 0 0)) := ((Only.refl (fun b => b = b2) W1).setCell (p := ⟨b2, 0, none⟩) (fun _ => rfl) _).setCell (p := ⟨b2, 1, none⟩) (fun _ => rfl) _
  refine ⟨set2_1 (set2_0 h'.r2 _) _, ⟨p, bf, hp, rfl, Nat.le_trans h.bel.size hl, k.heap hf (by omega)⟩, h'.bel.trans (k.below (fun b _ e => by rw [e]; exact h.low) h'.bel.size)⟩
end
theorem word_in {p : Nat → Prop} {w : World} {e : TypeId} {A : Option Addr} {Ws : List Wd0} (h : RowT p w e 2 A Ws.length (wv Ws)) {i : Nat} (hi : i < Ws.length) :
    ∃ b off cur, A = some ⟨b, off, none⟩ ∧ w.heap[b]? = some (.cells cur e (0, 0)) ∧ w.cell? ⟨b, off + i * 2, none⟩ = some (.string (bstr (Ws.getD i ([], 0)).1)) := by
  obtain ⟨b, off, cur, e', _, hh, hc⟩ := h (by omega)
  refine ⟨b, off, cur, e', hh, ?_⟩
  rw [cell_of_row w b _ _ _ _ hh]
  exact hc i hi 0 (by omega)
theorem getD_mem {Ws : List Wd0} {i : Nat} (h : i < Ws.length) : Ws.getD i ([], 0) ∈ Ws := by
  rw [List.getD_eq_getElem?_getD, List.getElem?_eq_getElem h]; exact List.getElem_mem h
theorem nv0 (W : List Wd0) (v : Nat) (h : hdN W 0 = v) : #[.int .i64 (v : Int), nvK W 0 1, nvK W 0 2, nvK W 0 3] = #[nvK W 1 0, nvK W 1 1, nvK W 1 2, nvK W 1 3] := by subst h; simp [nvK]
theorem nv1 (W : List Wd0) (v : Nat) (h : hdN W 1 = v) : #[nvK W 1 0, .int .i64 (v : Int), nvK W 1 2, nvK W 1 3] = #[nvK W 2 0, nvK W 2 1, nvK W 2 2, nvK W 2 3] := by subst h; simp [nvK]
theorem nv2 (W : List Wd0) (v : Nat) (h : hdN W 2 = v) : #[nvK W 2 0, nvK W 2 1, .int .i64 (v : Int), nvK W 2 3] = #[nvK W 3 0, nvK W 3 1, nvK W 3 2, nvK W 3 3] := by subst h; simp [nvK]
theorem nv3 (W : List Wd0) (v : Nat) (h : hdN W 3 = v) : #[nvK W 3 0, nvK W 3 1, nvK W 3 2, .int .i64 (v : Int)] = #[nvK W 4 0, nvK W 4 1, nvK W 4 2, nvK W 4 3] := by subst h; simp [nvK]
theorem ne_type {w : World} {b b' : Nat} {cur cur' : Array Value} {e e' : TypeId} (h : w.heap[b]? = some (.cells cur e)) (h' : w.heap[b']? = some (.cells cur' e')) (hne : e ≠ e') : b ≠ b' := fun hb => by
  subst hb
  rw [h] at h'
  injection h' with h'
  injection h' with _ h' _
  exact hne h'
theorem PaI.fine {cs : List (List Int)} {vs c2 z : Nat} {A2 : Option Addr} {RA : Nat → Option Addr} {RC : Nat → Nat} {w0 W : World} {txt : List UInt8} {Ws : List Wd0} {b1 b2 b4 c : Nat} {A : Option Addr} (h : PaI w0 txt Ws b1 b2 b4 A c W)
    (hp : parseW (scan txt 0 [] 0) txt.length = .inl cs) (hv : vs = hdN (scan txt 0 [] 0) 2) (hc : Cls W z A2 c2 cs RA RC) :
    ((W.setCell ⟨b2, 0, none⟩ (.int .i64 (vs : Int))).setCell ⟨b2, 1, none⟩ (.slice A2 cs.length c2)).heap[b2]? = some (.cells #[.int .i64 (vs : Int), .slice A2 cs.length c2] 25) ∧
    (PaFine txt (.returned (.tuple #[.agg #[.int .i64 (vs : Int), .slice A2 cs.length c2], .nilIface])) ((W.setCell ⟨b2, 0, none⟩ (.int .i64 (vs : Int))).setCell ⟨b2, 1, none⟩ (.slice A2 cs.length c2)) ∧
      Below w0.heap.size w0 ((W.setCell ⟨b2, 0, none⟩ (.int .i64 (vs : Int))).setCell ⟨b2, 1, none⟩ (.slice A2 cs.length c2))) := by
  have k : Only (fun b => b = b2) W ((W.setCell ⟨b2, 0, none⟩ (.int .i64 (vs : Int))).setCell ⟨b2, 1, none⟩ (.slice A2 cs.length c2)) := ((Only.refl (fun b => b = b2) W).setCell (p := ⟨b2, 0, none⟩) (fun _ => rfl) _).setCell (p := ⟨b2, 1, none⟩) (fun _ => rfl) _
  refine ⟨set2_1 (set2_0 h.r2 _) _, ⟨cs, A2, c2, hp, by rw [hv], (hc.only k (fun b cur e he hb hs => ?_)).mat⟩, h.bel.trans (k.below (fun b _ e => by rw [e]; exact h.low) h.bel.size)⟩
  exact ne_type hb h.r2 (by rcases he with rfl | rfl <;> decide) hs
/-- .. while it reads the clauses: the formula's box, the clauses, the clause in the making -/
structure PbI (wz : World) (b9 vars : Nat) (A2 : Option Addr) (c2 : Nat) (cs : List (List Int)) (RA : Nat → Option Addr) (RC : Nat → Nat) (B : Option Addr) (d : Nat) (cl : List Int) (W : World) : Prop where
  f : W.heap[b9]? = some (.cells #[.int .i64 (vars : Int), .slice A2 cs.length c2] 25)
  only : Only (fun k => k = b9) wz W
  cls : Cls W wz.heap.size A2 c2 cs RA RC
  cur : ClI wz.heap.size B d cl cs RA W
section
variable {wz W w1 : World} {b9 vars c2 c' d d' : Nat} {A2 A' B B' : Option Addr} {cs : List (List Int)} {RA : Nat → Option Addr} {RC : Nat → Nat} {cl : List Int}
theorem PbI.call (h : PbI wz b9 vars A2 c2 cs RA RC B d cl W) (hb : Below W.heap.size W w1) : PbI wz b9 vars A2 c2 cs RA RC B d cl w1 := ⟨heap_below hb h.f, h.only.call hb, h.cls.below hb, h.cur.below hb⟩
theorem PbI.alloc (h : PbI wz b9 vars A2 c2 cs RA RC B d cl W) (o : Obj) : PbI wz b9 vars A2 c2 cs RA RC B d cl (W.alloc o) := h.call ((Below.refl _ _).alloc (Nat.le_refl _) o)
theorem PbI.push (h : PbI wz b9 vars A2 c2 cs RA RC B d cl W) (hl : b9 < wz.heap.size) (ho : w1.ownsRow wz.heap.size 45 1 (.slice A' (cs.length + 1) c') (cs.length + 1) (((List.range cs.length).map fun i => .slice (RA i) (cs.getD i []).length (RC i)) ++ [.slice B cl.length d])) (hk : Only (blockOf A2) W w1) :
    w1.heap[b9]? = some (.cells #[.int .i64 (vars : Int), .slice A2 cs.length c2] 25) ∧
    PbI wz b9 vars A' c' (cs ++ [cl]) (lastC cs.length B RA) (lastC cs.length d RC) none 0 [] (w1.setCell ⟨b9, 1, none⟩ (.slice A' (cs.length + 1) c')) := by
  have hA : ∀ k, blockOf A2 k → wz.heap.size ≤ k := own_base h.cls.own
  have hf := hk.heap h.f (fun hs => by have := hA _ hs; omega)
  have k1 : Only (fun k => k = b9) w1 (w1.setCell ⟨b9, 1, none⟩ (.slice A' (cs.length + 1) c')) := Only.setCell (p := ⟨b9, 1, none⟩) (Only.refl (fun k => k = b9) w1) (fun _ => rfl) _
  have hc := h.cls.push ho hk h.cur.rowT
  have hl2 : (cs ++ [cl]).length = cs.length + 1 := by simp
  refine ⟨hf, ?_, ?_, hc.only k1 (fun b cur e he hb hs => ?_), ClI.nil _ _ _ _⟩
  · rw [hl2]; exact set2_1 hf _
  · exact (h.only.then_ hk (fun i hi hs => by have := hA _ hs; omega)).setCell (p := ⟨b9, 1, none⟩) (fun _ => rfl) _
  · subst hs
    exact ne_type hb hf (by rcases he with rfl | rfl <;> decide) rfl
theorem PbI.more {x : Int} (h : PbI wz b9 vars A2 c2 cs RA RC B d cl W) (hl : b9 < wz.heap.size) (ho : w1.ownsRow wz.heap.size 3 1 (.slice B' (cl.length + 1) d') (cl.length + 1) (((List.range cl.length).map (iv cl)) ++ [.int .i64 x])) (hk : Only (blockOf B) W w1)
    (hb : ∀ k, blockOf B' k → blockOf B k ∨ k = W.heap.size) : PbI wz b9 vars A2 c2 cs RA RC B' d' (cl ++ [x]) w1 := by
  have hB : ∀ k, blockOf B k → wz.heap.size ≤ k := own_base h.cur.own
  have hm := h.cur.more h.cls ho hk hb
  exact ⟨hk.heap h.f (fun hs => by have := hB _ hs; omega), h.only.then_ hk (fun i hi hs => by have := hB _ hs; omega), hm.2, hm.1⟩
end
theorem cut_any (l : List UInt8) (w : World) : Calls Tryd.prog 12 #[.string (bstr l), .string ⟨#[45]⟩] w fun e w' => e = .returned (.tuple #[.string (bstr (cutL l)), .bool (decide (l.head? = some 45))]) ∧ w' = w :=
  (Tryd.strings_CutPrefix (bstr l) ⟨#[45]⟩ w).mono (by
    rintro e w' ⟨rfl, rfl⟩
    refine ⟨?_, rfl⟩
    rw [show Lib.trimPrefix (bstr l).data.toList (⟨#[45]⟩ : ByteArray).data.toList = cutL l from cut_trim l, show Lib.hasPrefix (bstr l).data.toList (⟨#[45]⟩ : ByteArray).data.toList = decide (l.head? = some 45) from pre45 l]; rfl)
attribute [local go_sem] Oper.semAt_some in
theorem outsP {tmps : Array Value} {W : World} {b : Nat} {x0 x1 v : Value} (h2 : tmps[2]? = some (.pointer (some ⟨b, 0, none⟩))) (h3 : tmps[3]? = some v) (h : W.heap[b]? = some (.cells #[x0, x1] 25)) :
    (results Tryd.f5 tmps).run Tryd.prog W = .ok (.tuple #[.agg #[x0, x1], v]) W := by
  obtain ⟨⟨c0, c1⟩, _⟩ := box2 h
  simp [results, Tryd.f5, go_sem, h2, h3, c0, c1]

set_option maxRecDepth 100000 in
set_option maxHeartbeats 16000000 in
theorem parse_any (txt : List UInt8) (w : World) (hs : txt.length ≤ 1000000000) (hwl : ∀ x ∈ scan txt 0 [] 0, x.1.length ≤ 1000000000) (hWs : (scan txt 0 [] 0).length ≤ 1000000000) :
    Calls Tryd.prog 5 #[.string (bstr txt)] w fun e w' => (PaBad w txt e w' ∨ PaFine txt e w') ∧ Below w.heap.size w w' := by
  obtain ⟨Ws, hWe⟩ : ∃ Ws, Ws = scan txt 0 [] 0 := ⟨_, rfl⟩
  have HWE := Lib.hid hWe
  have hwa : ∀ w1 : World, Calls Tryd.prog 9 #[.string (bstr txt)] w1 fun e w' => (∃ A c, e = .returned (.slice A Ws.length c) ∧ RowT (fun _ => True) w' 39 2 A Ws.length (wv Ws)) ∧ Below w1.heap.size w1 w' := fun w1 => by rw [hWe]; exact words_any txt w1 hs
  rw [← hWe] at hwl hWs
  clear hWe hs
  obtain ⟨s, hse⟩ : ∃ s, s = bstr txt := ⟨_, rfl⟩
  rw [← hse] at hwa ⊢
  have HSE := Lib.hid hse
  clear hse
  have HWL := Lib.hid hwl
  clear hwl
  go_enter Tryd.func5, Tryd.ntmps5
  go_wp2_with fail
  have hw0 : Below w.heap.size w ((w.alloc (.cells #[.string s] 9)).alloc (.cells #[.int .i64 0, .slice none 0 0] 25)) := ((Below.refl _ _).alloc (Nat.le_refl _) _).alloc (by simp) _
  have hk1 : ((w.alloc (.cells #[.string s] 9)).alloc (.cells #[.int .i64 0, .slice none 0 0] 25)).heap[w.heap.size]? = some (.cells #[.string s] 9) := (Below.heap_alloc _ _ _ (by simp)).trans (heap_alloc_new w _)
  have hk2 : ((w.alloc (.cells #[.string s] 9)).alloc (.cells #[.int .i64 0, .slice none 0 0] 25)).heap[w.heap.size + 1]? = some (.cells #[.int .i64 0, .slice none 0 0] 25) := by
    have h := heap_alloc_new (w.alloc (.cells #[.string s] 9)) (.cells #[.int .i64 0, .slice none 0 0] 25)
    rw [World.size_alloc] at h
    exact h
  refine (hwa _).mono ?_
  rintro e w1 ⟨⟨A, c, rfl, hrow⟩, hb1⟩
  replace hk1 := heap_below hb1 hk1
  replace hk2 := heap_below hb1 hk2
  have hw1 := hw0.trans (hb1.mono (by simp; omega))
  have hsz1 : w.heap.size + 2 ≤ w1.heap.size := by have := hb1.size; simpa using this
  clear hw0 hb1 hwa
  go_wp2_with fail
  have hn4 := heap_alloc_new w1 (.cells #[.slice A Ws.length c] 36)
  have hn6 := heap_alloc_new (w1.alloc (.cells #[.slice A Ws.length c] 36)) (.cells #[.int .i64 0, .int .i64 0, .int .i64 0, .int .i64 0] 42)
  rw [World.size_alloc] at hn6
  have hba : Below w1.heap.size w1 ((w1.alloc (.cells #[.slice A Ws.length c] 36)).alloc (.cells #[.int .i64 0, .int .i64 0, .int .i64 0, .int .i64 0] 42)) := ((Below.refl _ _).alloc (Nat.le_refl _) _).alloc (by simp) _
  have hP3 : PaI w txt Ws w.heap.size (w.heap.size + 1) w1.heap.size A c ((w1.alloc (.cells #[.slice A Ws.length c] 36)).alloc (.cells #[.int .i64 0, .int .i64 0, .int .i64 0, .int .i64 0] 42)) :=
    ⟨by rw [← HSE.out]; exact heap_below hba hk1, heap_below hba hk2, (Below.heap_alloc _ _ _ (by simp)).trans hn4, hrow.below hba, hw1.trans (hba.mono (by omega)), by omega⟩
  have hz3 : ((w1.alloc (.cells #[.slice A Ws.length c] 36)).alloc (.cells #[.int .i64 0, .int .i64 0, .int .i64 0, .int .i64 0] 42)).heap.size = w1.heap.size + 2 := by simp
  generalize (w1.alloc (.cells #[.slice A Ws.length c] 36)).alloc (.cells #[.int .i64 0, .int .i64 0, .int .i64 0, .int .i64 0] 42) = w3 at *
  obtain ⟨b6, hb6⟩ : ∃ b, b = w1.heap.size + 1 := ⟨_, rfl⟩
  rw [← hb6] at hn6 ⊢
  obtain ⟨b4, hb4⟩ : ∃ b, b = w1.heap.size := ⟨_, rfl⟩
  rw [← hb4] at hP3 ⊢
  obtain ⟨b2, hb2⟩ : ∃ b, b = w.heap.size + 1 := ⟨_, rfl⟩
  rw [← hb2] at hP3 ⊢
  obtain ⟨b1, hb1⟩ : ∃ b, b = w.heap.size := ⟨_, rfl⟩
  rw [← hb1] at hP3 ⊢
  have HE : Hid (b1 = w.heap.size ∧ b2 = w.heap.size + 1 ∧ b2 < b4 ∧ b6 = b4 + 1 ∧ w3.heap.size = b6 + 1) := Lib.hid ⟨hb1, hb2, by omega, by omega, by omega⟩
  have HP3 := Lib.hid hP3; have HN3 := Lib.hid hn6
  clear hb1 hb2 hb4 hb6 hP3 hn6 hn4 hba hk1 hk2 hw1 hsz1 hz3 hrow
  go_loopw [19] (fun vk wr => ∃ k : Nat, k ≤ 4 ∧ k ≤ Ws.length ∧ vk = .int .i64 k ∧ Hid (HdOk Ws txt.length k) ∧ Hid (PaI w txt Ws b1 b2 b4 A c wr) ∧ Hid (wr.heap[b6]? = some (.cells #[nvK Ws k 0, nvK Ws k 1, nvK Ws k 2, nvK Ws k 3] 42))) (fun vk _ => 4 - (intOf vk).toNat)
  case atStart => exact ⟨0, by omega, by omega, rfl, Lib.hid rfl, HP3, HN3⟩
  case round =>
    clear HP3 HN3
    obtain ⟨k, hk, hkl, rfl, HOK, HP, HN⟩ := hrel
    obtain ⟨wq, hwq⟩ : ∃ wq, wq = wr := ⟨_, rfl⟩
    subst hwq
    have c4 := (box1 HP.out.l4).1
    by_cases hk4 : k < 4
    · -- QB head
      by_cases hlt : k < Ws.length
      · obtain rfl | rfl | rfl | rfl : k = 0 ∨ k = 1 ∨ k = 2 ∨ k = 3 := by omega
        · obtain ⟨bA, oA, cur, rfl, hhA, x0⟩ := word_in HP.out.row hlt
          obtain ⟨wk, hwk⟩ : ∃ wk, wk = (Ws.getD 0 ([], 0)).1 := ⟨_, rfl⟩
          rw [← hwk] at x0
          obtain ⟨q, hq⟩ : ∃ q, q = bstr wk := ⟨_, rfl⟩
          rw [← hq] at x0
          have HQT : Hid (q.toList = wk) := Lib.hid (by rw [hq]; exact bstr_toList wk)
          have HNU : Hid (∀ W, Calls Tryd.prog 11 #[.string q] W fun e w' => e = .returned (.tuple #[.int .i64 ((numB wk).getD 0 : Nat), .bool (numB wk).isSome]) ∧ Below W.heap.size W w') := Lib.hid (fun W => by
            rw [hq]
            exact number_any wk W (by rw [hwk]; exact HWL.out _ (getD_mem hlt)))
          obtain ⟨N, hN⟩ : ∃ N, N = numB wk := ⟨_, rfl⟩
          rw [← hN] at HNU
          have HDN : Hid (hdN Ws 0 = N.getD 0) := Lib.hid (by unfold hdN; rw [← hwk, ← hN])
          have HNW := Lib.hid hN
          have HWK := Lib.hid hwk
          clear hwk hq hN
          have hne : ¬ Ws = [] := fun h => by rw [h] at hlt; exact absurd hlt (Nat.not_lt_zero _)
          rw [show ((0 : Nat) : Int) = 0 from rfl]
          replace x0 : wq.cell? ⟨bA, oA, none⟩ = some (.string q) := by simpa using x0
          go_wp2_with fail
          refine (HNU.out _).mono ?_
          rintro e w2 ⟨rfl, hb2⟩
          have hP2 := HP.out.call hb2
          have hn2 := heap_below hb2 HN.out
          have hA2 := heap_below hb2 hhA
          have hneA := ne_type hA2 hn2 (by decide)
          have z6 := (box4 hn2).2 0
          have e6 := (box4 hn2).1.1
          have k4 : Only (fun b => b = b6) w2 (w2.setCell ⟨b6, 0, none⟩ (.int .i64 (N.getD 0 : Nat))) := Only.setCell (p := ⟨b6, 0, none⟩) (Only.refl (fun b => b = b6) w2) (fun _ => rfl) _
          have HP4 : Hid (PaI w txt Ws b1 b2 b4 (some ⟨bA, oA, none⟩) c (w2.setCell ⟨b6, 0, none⟩ (.int .i64 (N.getD 0 : Nat)))) := Lib.hid (by
            have h := HE.out
            exact hP2.only k4 (by omega) (by omega) (by omega) (fun b cu hb => ne_type hb hn2 (by decide)) (fun b e => by omega))
          have HN4 := Lib.hid (set4_0 hn2 (.int .i64 (N.getD 0 : Nat)))
          have x4 := k4.cell (p := ⟨bA, oA, none⟩) ((Keeps.of_below hb2) _ _ x0) hneA
          clear hne k4 hneA hA2 hn2 hP2 hb2 x0 hhA c4 HP HN
          go_upto_region 11 with (fail)
          clear z6 e6
          generalize w2.setCell ⟨b6, 0, none⟩ (.int .i64 (N.getD 0 : Nat)) = w4 at *
          have c4 := (box1 HP4.out.l4).1
          by_cases hp : wk = [112]
          · have hqp : (q.toList == [112]) = true := by rw [HQT.out, hp]; rfl
            have HG := Lib.hid (HOK.out.next hk4 hlt (by rw [← HWK.out, hp]; rfl))
            clear hp
            go_wp2_with fail
            exact ⟨⟨1, by omega, hlt, rfl, HG, HP4, Lib.hid (by rw [← nv0 _ _ HDN.out]; exact HN4.out)⟩, by simp [intOf]⟩
          · have hqp : (q.toList == [112]) = false := by rw [HQT.out]; simpa using hp
            have HBD := Lib.hid (HOK.out.bad hk4 (fun _ => by rw [← HWK.out]; show (!(wk == [112])) = true; simp [hp]))
            clear hp
            go_wp2_with fail
            refine (give_any txt Ws b1 b4 0 c _ _ HP4.out.t1 HP4.out.l4 HP4.out.row).mono ?_
            rintro e w' ⟨⟨bf, rfl, hbf, hff⟩, hbe⟩
            have HQ := Lib.hid (HP4.out.bad (by rw [← HWE.out]; exact HBD.out) hbe hbf hff)
            have hr2 := (HP4.out.call hbe).r2
            obtain ⟨⟨r20, r21⟩, rz⟩ := box2 hr2
            have rz0 := rz 0
            have rz1 := rz 1
            clear rz hr2 hbe hff
            go_wp2_with fail
            exact bodyPost_ret (v := .tuple #[.agg #[.int .i64 0, .slice none 0 0], .iface 40 (.pointer (some ⟨bf, 0, none⟩))]) (outsP rfl rfl HQ.out.1) rfl ⟨.inl HQ.out.2.1, HQ.out.2.2⟩
        · obtain ⟨bA, oA, cur, rfl, hhA, x0⟩ := word_in HP.out.row hlt
          obtain ⟨wk, hwk⟩ : ∃ wk, wk = (Ws.getD 1 ([], 0)).1 := ⟨_, rfl⟩
          rw [← hwk] at x0
          obtain ⟨q, hq⟩ : ∃ q, q = bstr wk := ⟨_, rfl⟩
          rw [← hq] at x0
          have HQT : Hid (q.toList = wk) := Lib.hid (by rw [hq]; exact bstr_toList wk)
          have HNU : Hid (∀ W, Calls Tryd.prog 11 #[.string q] W fun e w' => e = .returned (.tuple #[.int .i64 ((numB wk).getD 0 : Nat), .bool (numB wk).isSome]) ∧ Below W.heap.size W w') := Lib.hid (fun W => by
            rw [hq]
            exact number_any wk W (by rw [hwk]; exact HWL.out _ (getD_mem hlt)))
          obtain ⟨N, hN⟩ : ∃ N, N = numB wk := ⟨_, rfl⟩
          rw [← hN] at HNU
          have HDN : Hid (hdN Ws 1 = N.getD 0) := Lib.hid (by unfold hdN; rw [← hwk, ← hN])
          have HNW := Lib.hid hN
          have HWK := Lib.hid hwk
          clear hwk hq hN
          have hne : ¬ Ws = [] := fun h => by rw [h] at hlt; exact absurd hlt (Nat.not_lt_zero _)
          rw [show ((1 : Nat) : Int) = 1 from rfl]
          replace x0 : wq.cell? ⟨bA, oA + 2, none⟩ = some (.string q) := by simpa using x0
          go_wp2_with fail
          refine (HNU.out _).mono ?_
          rintro e w2 ⟨rfl, hb2⟩
          have hP2 := HP.out.call hb2
          have hn2 := heap_below hb2 HN.out
          have hA2 := heap_below hb2 hhA
          have hneA := ne_type hA2 hn2 (by decide)
          have z6 := (box4 hn2).2 1
          have e6 := (box4 hn2).1.2.1
          have k4 : Only (fun b => b = b6) w2 (w2.setCell ⟨b6, 1, none⟩ (.int .i64 (N.getD 0 : Nat))) := Only.setCell (p := ⟨b6, 1, none⟩) (Only.refl (fun b => b = b6) w2) (fun _ => rfl) _
          have HP4 : Hid (PaI w txt Ws b1 b2 b4 (some ⟨bA, oA, none⟩) c (w2.setCell ⟨b6, 1, none⟩ (.int .i64 (N.getD 0 : Nat)))) := Lib.hid (by
            have h := HE.out
            exact hP2.only k4 (by omega) (by omega) (by omega) (fun b cu hb => ne_type hb hn2 (by decide)) (fun b e => by omega))
          have HN4 := Lib.hid (set4_1 hn2 (.int .i64 (N.getD 0 : Nat)))
          have x4 := k4.cell (p := ⟨bA, oA + 2, none⟩) ((Keeps.of_below hb2) _ _ x0) hneA
          clear hne k4 hneA hA2 hn2 hP2 hb2 x0 hhA c4 HP HN
          go_upto_region 11 with (fail)
          clear z6 e6
          generalize w2.setCell ⟨b6, 1, none⟩ (.int .i64 (N.getD 0 : Nat)) = w4 at *
          have c4 := (box1 HP4.out.l4).1
          by_cases hp : wk = [99, 110, 102]
          · have hqp : (q.toList == [99, 110, 102]) = true := by rw [HQT.out, hp]; rfl
            have HG := Lib.hid (HOK.out.next hk4 hlt (by rw [← HWK.out, hp]; rfl))
            clear hp
            go_wp2_with fail
            exact ⟨⟨2, by omega, hlt, rfl, HG, HP4, Lib.hid (by rw [← nv1 _ _ HDN.out]; exact HN4.out)⟩, by simp [intOf]⟩
          · have hqp : (q.toList == [99, 110, 102]) = false := by rw [HQT.out]; simpa using hp
            have HBD := Lib.hid (HOK.out.bad hk4 (fun _ => by rw [← HWK.out]; show (!(wk == [99, 110, 102])) = true; simp [hp]))
            clear hp
            go_wp2_with fail
            refine (give_any txt Ws b1 b4 1 c _ _ HP4.out.t1 HP4.out.l4 HP4.out.row).mono ?_
            rintro e w' ⟨⟨bf, rfl, hbf, hff⟩, hbe⟩
            have HQ := Lib.hid (HP4.out.bad (by rw [← HWE.out]; exact HBD.out) hbe hbf hff)
            have hr2 := (HP4.out.call hbe).r2
            obtain ⟨⟨r20, r21⟩, rz⟩ := box2 hr2
            have rz0 := rz 0
            have rz1 := rz 1
            clear rz hr2 hbe hff
            go_wp2_with fail
            exact bodyPost_ret (v := .tuple #[.agg #[.int .i64 0, .slice none 0 0], .iface 40 (.pointer (some ⟨bf, 0, none⟩))]) (outsP rfl rfl HQ.out.1) rfl ⟨.inl HQ.out.2.1, HQ.out.2.2⟩
        · obtain ⟨bA, oA, cur, rfl, hhA, x0⟩ := word_in HP.out.row hlt
          obtain ⟨wk, hwk⟩ : ∃ wk, wk = (Ws.getD 2 ([], 0)).1 := ⟨_, rfl⟩
          rw [← hwk] at x0
          obtain ⟨q, hq⟩ : ∃ q, q = bstr wk := ⟨_, rfl⟩
          rw [← hq] at x0
          have HQT : Hid (q.toList = wk) := Lib.hid (by rw [hq]; exact bstr_toList wk)
          have HNU : Hid (∀ W, Calls Tryd.prog 11 #[.string q] W fun e w' => e = .returned (.tuple #[.int .i64 ((numB wk).getD 0 : Nat), .bool (numB wk).isSome]) ∧ Below W.heap.size W w') := Lib.hid (fun W => by
            rw [hq]
            exact number_any wk W (by rw [hwk]; exact HWL.out _ (getD_mem hlt)))
          obtain ⟨N, hN⟩ : ∃ N, N = numB wk := ⟨_, rfl⟩
          rw [← hN] at HNU
          have HDN : Hid (hdN Ws 2 = N.getD 0) := Lib.hid (by unfold hdN; rw [← hwk, ← hN])
          have HNW := Lib.hid hN
          have HWK := Lib.hid hwk
          clear hwk hq hN
          have hne : ¬ Ws = [] := fun h => by rw [h] at hlt; exact absurd hlt (Nat.not_lt_zero _)
          rw [show ((2 : Nat) : Int) = 2 from rfl]
          replace x0 : wq.cell? ⟨bA, oA + 4, none⟩ = some (.string q) := by simpa using x0
          go_wp2_with fail
          refine (HNU.out _).mono ?_
          rintro e w2 ⟨rfl, hb2⟩
          have hP2 := HP.out.call hb2
          have hn2 := heap_below hb2 HN.out
          have hA2 := heap_below hb2 hhA
          have hneA := ne_type hA2 hn2 (by decide)
          have z6 := (box4 hn2).2 2
          have e6 := (box4 hn2).1.2.2.1
          have k4 : Only (fun b => b = b6) w2 (w2.setCell ⟨b6, 2, none⟩ (.int .i64 (N.getD 0 : Nat))) := Only.setCell (p := ⟨b6, 2, none⟩) (Only.refl (fun b => b = b6) w2) (fun _ => rfl) _
          have HP4 : Hid (PaI w txt Ws b1 b2 b4 (some ⟨bA, oA, none⟩) c (w2.setCell ⟨b6, 2, none⟩ (.int .i64 (N.getD 0 : Nat)))) := Lib.hid (by
            have h := HE.out
            exact hP2.only k4 (by omega) (by omega) (by omega) (fun b cu hb => ne_type hb hn2 (by decide)) (fun b e => by omega))
          have HN4 := Lib.hid (set4_2 hn2 (.int .i64 (N.getD 0 : Nat)))
          have x4 := k4.cell (p := ⟨bA, oA + 4, none⟩) ((Keeps.of_below hb2) _ _ x0) hneA
          clear hne k4 hneA hA2 hn2 hP2 hb2 x0 hhA c4 HP HN
          go_upto_region 11 with (fail)
          clear z6 e6
          generalize w2.setCell ⟨b6, 2, none⟩ (.int .i64 (N.getD 0 : Nat)) = w4 at *
          have c4 := (box1 HP4.out.l4).1
          cases N with
          | none =>
            have HBD := Lib.hid (HOK.out.bad hk4 (fun _ => by rw [← HWK.out]; show (match numB wk with | some n => decide (100000 < n) | none => true) = true; rw [← HNW.out]))
            simp only [Option.isSome_none]
            go_wp2_with fail
            refine (give_any txt Ws b1 b4 2 c _ _ HP4.out.t1 HP4.out.l4 HP4.out.row).mono ?_
            rintro e w' ⟨⟨bf, rfl, hbf, hff⟩, hbe⟩
            have HQ := Lib.hid (HP4.out.bad (by rw [← HWE.out]; exact HBD.out) hbe hbf hff)
            have hr2 := (HP4.out.call hbe).r2
            obtain ⟨⟨r20, r21⟩, rz⟩ := box2 hr2
            have rz0 := rz 0
            have rz1 := rz 1
            clear rz hr2 hbe hff
            go_wp2_with fail
            exact bodyPost_ret (v := .tuple #[.agg #[.int .i64 0, .slice none 0 0], .iface 40 (.pointer (some ⟨bf, 0, none⟩))]) (outsP rfl rfl HQ.out.1) rfl ⟨.inl HQ.out.2.1, HQ.out.2.2⟩
          | some n =>
            simp only [Option.isSome_some, Option.getD_some] at *
            obtain ⟨⟨_, _, n2, _⟩, _⟩ := box4 HN4.out
            by_cases hg : 100000 < n
            · have HBD := Lib.hid (HOK.out.bad hk4 (fun _ => by rw [← HWK.out]; show (match numB wk with | some n => decide (100000 < n) | none => true) = true; rw [← HNW.out]; simp [hg]))
              go_wp2_with fail
              refine (give_any txt Ws b1 b4 2 c _ _ HP4.out.t1 HP4.out.l4 HP4.out.row).mono ?_
              rintro e w' ⟨⟨bf, rfl, hbf, hff⟩, hbe⟩
              have HQ := Lib.hid (HP4.out.bad (by rw [← HWE.out]; exact HBD.out) hbe hbf hff)
              have hr2 := (HP4.out.call hbe).r2
              obtain ⟨⟨r20, r21⟩, rz⟩ := box2 hr2
              have rz0 := rz 0
              have rz1 := rz 1
              clear rz hr2 hbe hff
              go_wp2_with fail
              exact bodyPost_ret (v := .tuple #[.agg #[.int .i64 0, .slice none 0 0], .iface 40 (.pointer (some ⟨bf, 0, none⟩))]) (outsP rfl rfl HQ.out.1) rfl ⟨.inl HQ.out.2.1, HQ.out.2.2⟩
            · have HG := Lib.hid (HOK.out.next hk4 hlt (by rw [← HWK.out]; show (match numB wk with | some n => decide (100000 < n) | none => true) = false; rw [← HNW.out]; simp [hg]))
              go_wp2_with fail
              exact ⟨⟨3, by omega, hlt, rfl, HG, HP4, Lib.hid (by rw [← nv2 _ _ HDN.out]; exact HN4.out)⟩, by simp [intOf]⟩
        · obtain ⟨bA, oA, cur, rfl, hhA, x0⟩ := word_in HP.out.row hlt
          obtain ⟨wk, hwk⟩ : ∃ wk, wk = (Ws.getD 3 ([], 0)).1 := ⟨_, rfl⟩
          rw [← hwk] at x0
          obtain ⟨q, hq⟩ : ∃ q, q = bstr wk := ⟨_, rfl⟩
          rw [← hq] at x0
          have HQT : Hid (q.toList = wk) := Lib.hid (by rw [hq]; exact bstr_toList wk)
          have HNU : Hid (∀ W, Calls Tryd.prog 11 #[.string q] W fun e w' => e = .returned (.tuple #[.int .i64 ((numB wk).getD 0 : Nat), .bool (numB wk).isSome]) ∧ Below W.heap.size W w') := Lib.hid (fun W => by
            rw [hq]
            exact number_any wk W (by rw [hwk]; exact HWL.out _ (getD_mem hlt)))
          obtain ⟨N, hN⟩ : ∃ N, N = numB wk := ⟨_, rfl⟩
          rw [← hN] at HNU
          have HDN : Hid (hdN Ws 3 = N.getD 0) := Lib.hid (by unfold hdN; rw [← hwk, ← hN])
          have HNW := Lib.hid hN
          have HWK := Lib.hid hwk
          clear hwk hq hN
          have hne : ¬ Ws = [] := fun h => by rw [h] at hlt; exact absurd hlt (Nat.not_lt_zero _)
          rw [show ((3 : Nat) : Int) = 3 from rfl]
          replace x0 : wq.cell? ⟨bA, oA + 6, none⟩ = some (.string q) := by simpa using x0
          go_wp2_with fail
          refine (HNU.out _).mono ?_
          rintro e w2 ⟨rfl, hb2⟩
          have hP2 := HP.out.call hb2
          have hn2 := heap_below hb2 HN.out
          have hA2 := heap_below hb2 hhA
          have hneA := ne_type hA2 hn2 (by decide)
          have z6 := (box4 hn2).2 3
          have e6 := (box4 hn2).1.2.2.2
          have k4 : Only (fun b => b = b6) w2 (w2.setCell ⟨b6, 3, none⟩ (.int .i64 (N.getD 0 : Nat))) := Only.setCell (p := ⟨b6, 3, none⟩) (Only.refl (fun b => b = b6) w2) (fun _ => rfl) _
          have HP4 : Hid (PaI w txt Ws b1 b2 b4 (some ⟨bA, oA, none⟩) c (w2.setCell ⟨b6, 3, none⟩ (.int .i64 (N.getD 0 : Nat)))) := Lib.hid (by
            have h := HE.out
            exact hP2.only k4 (by omega) (by omega) (by omega) (fun b cu hb => ne_type hb hn2 (by decide)) (fun b e => by omega))
          have HN4 := Lib.hid (set4_3 hn2 (.int .i64 (N.getD 0 : Nat)))
          have x4 := k4.cell (p := ⟨bA, oA + 6, none⟩) ((Keeps.of_below hb2) _ _ x0) hneA
          clear hne k4 hneA hA2 hn2 hP2 hb2 x0 hhA c4 HP HN
          go_upto_region 11 with (fail)
          clear z6 e6
          generalize w2.setCell ⟨b6, 3, none⟩ (.int .i64 (N.getD 0 : Nat)) = w4 at *
          have c4 := (box1 HP4.out.l4).1
          cases N with
          | none =>
            have HBD := Lib.hid (HOK.out.bad hk4 (fun _ => by rw [← HWK.out]; show (numB wk).isNone = true; rw [← HNW.out]; rfl))
            simp only [Option.isSome_none]
            go_wp2_with fail
            refine (give_any txt Ws b1 b4 3 c _ _ HP4.out.t1 HP4.out.l4 HP4.out.row).mono ?_
            rintro e w' ⟨⟨bf, rfl, hbf, hff⟩, hbe⟩
            have HQ := Lib.hid (HP4.out.bad (by rw [← HWE.out]; exact HBD.out) hbe hbf hff)
            have hr2 := (HP4.out.call hbe).r2
            obtain ⟨⟨r20, r21⟩, rz⟩ := box2 hr2
            have rz0 := rz 0
            have rz1 := rz 1
            clear rz hr2 hbe hff
            go_wp2_with fail
            exact bodyPost_ret (v := .tuple #[.agg #[.int .i64 0, .slice none 0 0], .iface 40 (.pointer (some ⟨bf, 0, none⟩))]) (outsP rfl rfl HQ.out.1) rfl ⟨.inl HQ.out.2.1, HQ.out.2.2⟩
          | some n =>
            simp only [Option.isSome_some, Option.getD_some] at *
            have HG := Lib.hid (HOK.out.next hk4 hlt (by rw [← HWK.out]; show (numB wk).isNone = false; rw [← HNW.out]; rfl))
            go_wp2_with fail
            exact ⟨⟨4, by omega, hlt, rfl, HG, HP4, Lib.hid (by rw [← nv3 _ _ HDN.out]; exact HN4.out)⟩, by simp [intOf]⟩
      · have HBD := Lib.hid (HOK.out.bad hk4 (fun h => absurd h hlt))
        go_wp2_with fail
        refine (give_any txt Ws b1 b4 k c _ _ HP.out.t1 HP.out.l4 HP.out.row).mono ?_
        rintro e w' ⟨⟨bf, rfl, hbf, hff⟩, hbe⟩
        have HQ := Lib.hid (HP.out.bad (by rw [← HWE.out]; exact HBD.out) hbe hbf hff)
        have hr2 := (HP.out.call hbe).r2
        obtain ⟨⟨r20, r21⟩, rz⟩ := box2 hr2
        have rz0 := rz 0
        have rz1 := rz 1
        clear rz hr2 hbe hff
        go_wp2_with fail
        exact bodyPost_ret (v := .tuple #[.agg #[.int .i64 0, .slice none 0 0], .iface 40 (.pointer (some ⟨bf, 0, none⟩))]) (outsP rfl rfl HQ.out.1) rfl ⟨.inl HQ.out.2.1, HQ.out.2.2⟩
      -- QE head
    · obtain rfl : k = 4 := by omega
      have HB := Lib.hid (show BdOk Ws txt.length 4 [] [] from HOK.out.end_)
      have hn6 := HN.out
      rw [show #[nvK Ws 4 0, nvK Ws 4 1, nvK Ws 4 2, nvK Ws 4 3] = #[.int .i64 (hdN Ws 0 : Nat), .int .i64 (hdN Ws 1 : Nat), .int .i64 (hdN Ws 2 : Nat), .int .i64 (hdN Ws 3 : Nat)] by simp [nvK]] at hn6
      obtain ⟨vs, hvs⟩ : ∃ v, v = hdN Ws 2 := ⟨_, rfl⟩
      obtain ⟨n3, hn3⟩ : ∃ v, v = hdN Ws 3 := ⟨_, rfl⟩
      rw [← hvs, ← hn3] at hn6
      have HVS := Lib.hid hvs; have HN3' := Lib.hid hn3
      obtain ⟨⟨_, _, e2, e3⟩, _⟩ := box4 hn6
      have HN6 := Lib.hid hn6
      clear hn6 HN HOK hk hk4 hvs hn3
      rw [show ((4 : Nat) : Int) = 4 from rfl]
      go_wp2_with fail
      have hba : Below wq.heap.size wq (wq.alloc (.cells #[.int .i64 (vs : Int), .slice none 0 0] 25)) := (Below.refl _ _).alloc (Nat.le_refl _) _
      have hnf := heap_alloc_new wq (.cells #[.int .i64 (vs : Int), .slice none 0 0] 25)
      have HPz := Lib.hid (HP.out.call hba)
      have HNz := Lib.hid (heap_below hba HN6.out)
      have hzz : (wq.alloc (.cells #[.int .i64 (vs : Int), .slice none 0 0] 25)).heap.size = wq.heap.size + 1 := by simp
      have hb6l := (Array.getElem?_eq_some_iff.1 HN6.out).1
      clear hba e2 e3 c4 HP HN6
      generalize wq.alloc (.cells #[.int .i64 (vs : Int), .slice none 0 0] 25) = wz at *
      obtain ⟨b9, hb9⟩ : ∃ b, b = wq.heap.size := ⟨_, rfl⟩
      rw [← hb9] at hnf hzz hb6l ⊢
      have HE9 : Hid (b9 < wz.heap.size ∧ b6 < b9) := Lib.hid ⟨by omega, hb6l⟩
      have HZ0 : Hid (PbI wz b9 vs none 0 [] (fun _ => none) (fun _ => 0) none 0 [] wz) := Lib.hid ⟨hnf, Only.refl _ _, Cls.nil _ _, ClI.nil _ _ _ _⟩
      have HZF := Lib.hid hnf
      clear hb9 hnf hzz hb6l
      go_loopw [10, 11] (fun vc vi wr => ∃ (i : Nat) (cs : List (List Int)) (cl : List Int) (B : Option Addr) (d : Nat) (A2 : Option Addr) (c2 : Nat) (RA : Nat → Option Addr) (RC : Nat → Nat), i ≤ Ws.length ∧ vc = .slice B cl.length d ∧ vi = .int .i64 i ∧ cs.length ≤ i ∧ cl.length ≤ i ∧ Hid (BdOk Ws txt.length i cs cl) ∧ Hid (PbI wz b9 vs A2 c2 cs RA RC B d cl wr)) (fun _ vi _ => Ws.length - (intOf vi).toNat)
      case atStart => exact ⟨4, [], [], none, 0, none, 0, _, _, hkl, rfl, rfl, by simp, by simp, HB, HZ0⟩
      case round =>
        clear HB HZ0 hkl
        obtain ⟨i, cs, cl, B, d, A2, c2, RA, RC, hi, rfl, rfl, hcs, hcl, HB, HZ⟩ := hrel
        obtain ⟨wo, hwo⟩ : ∃ x, x = wr := ⟨_, rfl⟩
        subst hwo
        have hP := HPz.out.only HZ.out.only (by have := HE.out; have := HE9.out; omega) (by have := HE.out; have := HE9.out; omega) (by have := HE.out; have := HE9.out; omega) (fun b cu hb hs => ne_type hb HZF.out (by decide) hs) (fun b e => by have := HE.out; have := HE9.out; omega)
        have hn := HZ.out.only.heap HNz.out (by have := HE9.out; omega)
        have c4 := (box1 hP.l4).1
        obtain ⟨⟨_, _, e2, e3⟩, _⟩ := box4 hn
        obtain ⟨⟨f0, f1⟩, _⟩ := box2 HZ.out.f
        have HP := Lib.hid hP
        clear hP hn
        by_cases hlt : i < Ws.length
        · by_cases hfull : cs.length = n3
          · have HBD := Lib.hid (HB.out.full hlt (by rw [← HN3'.out]; exact hfull))
            go_wp2_with fail
            refine (give_any txt Ws b1 b4 i c _ _ HP.out.t1 HP.out.l4 HP.out.row).mono ?_
            rintro e w' ⟨⟨bf, rfl, hbf, hff⟩, hbe⟩
            have HQ := Lib.hid (HP.out.bad (by rw [← HWE.out]; exact HBD.out) hbe hbf hff)
            have hr2 := (HP.out.call hbe).r2
            obtain ⟨⟨r20, r21⟩, rz⟩ := box2 hr2
            have rz0 := rz 0
            have rz1 := rz 1
            clear rz hr2 hbe hff
            go_wp2_with fail
            exact bodyPost_ret (v := .tuple #[.agg #[.int .i64 0, .slice none 0 0], .iface 40 (.pointer (some ⟨bf, 0, none⟩))]) (outsP rfl rfl HQ.out.1) rfl ⟨.inl HQ.out.2.1, HQ.out.2.2⟩
          · obtain ⟨bA, oA, cur, rfl, hhA, x0⟩ := word_in HP.out.row hlt
            obtain ⟨wk, hwk⟩ : ∃ wk, wk = (Ws.getD i ([], 0)).1 := ⟨_, rfl⟩
            have hwl := HWL.out _ (getD_mem hlt)
            rw [← hwk] at x0 hwl
            obtain ⟨q, hq⟩ : ∃ q, q = bstr wk := ⟨_, rfl⟩
            rw [← hq] at x0
            have HQT : Hid (q.toList = wk) := Lib.hid (by rw [hq]; exact bstr_toList wk)
            have hn3 : cs.length ≠ hdN Ws 3 := by rw [← HN3'.out]; exact hfull
            by_cases h0 : wk = [48]
            · have hq0 : (q.toList == [48]) = true := by rw [HQT.out, h0]; rfl
              have HB1 := Lib.hid (HB.out.zero hlt hn3 (by rw [← hwk]; exact h0))
              have hl9 := HE9.out.1
              have fz := (box2 HZ.out.f).2 1
              clear hwk hq h0 hn3 hwl
              go_wp2_with (at_builtin; refine wp_append rfl (.tmp 110) (.tmp 112) _ rfl elCl wz.heap.size A2 cs.length c2 _ rfl (HZ.out.cls.own.alloc _) _ 1 1 [.slice B cl.length d] rfl (src_new _ _ _ rfl) (by omega) (sz_alloc HZ.out.only.size) ?_; intro A' c' w1 ho hk' hb'; have HJ := Lib.hid ((HZ.out.alloc _).push hl9 ho hk'); have f1' := (box2 HJ.out.1).1.2; have fz' := (box2 HJ.out.1).2 1)
              exact ⟨⟨i + 1, cs ++ [cl], [], none, 0, A', c', _, _, by omega, rfl, by simp, by simp; omega, by simp, HB1, Lib.hid HJ.out.2⟩, by simp [intOf]; omega⟩
            · have hq0 : (q.toList == [48]) = false := by rw [HQT.out]; simpa using h0
              have HCU : Hid (∀ W, Calls Tryd.prog 12 #[.string q, .string ⟨#[45]⟩] W fun e w' => e = .returned (.tuple #[.string (bstr (cutL wk)), .bool (decide (wk.head? = some 45))]) ∧ w' = W) := Lib.hid (fun W => by rw [hq]; exact cut_any wk W)
              have HNU : Hid (∀ W, Calls Tryd.prog 11 #[.string (bstr (cutL wk))] W fun e w' => e = .returned (.tuple #[.int .i64 ((numB (cutL wk)).getD 0 : Nat), .bool (numB (cutL wk)).isSome]) ∧ Below W.heap.size W w') := Lib.hid (fun W => number_any (cutL wk) W (by have := cut_le wk; omega))
              have HL1 : Hid (numB (cutL wk) = none → litB vs wk = 0) := Lib.hid (fun h => lit_none h)
              have HL2 : Hid (∀ n, numB (cutL wk) = some n → litB vs wk = if n ≤ vs then if wk.head? = some 45 then -(n : Int) else (n : Int) else 0) := Lib.hid (fun n h => by rw [lit_cut, h])
              obtain ⟨x, hx⟩ : ∃ x, x = bstr (cutL wk) := ⟨_, rfl⟩
              obtain ⟨mi, hmi⟩ : ∃ m, m = decide (wk.head? = some 45) := ⟨_, rfl⟩
              obtain ⟨N, hN⟩ : ∃ N, N = numB (cutL wk) := ⟨_, rfl⟩
              rw [← hx, ← hmi] at HCU
              rw [← hx, ← hN] at HNU
              rw [← hN] at HL1 HL2
              have HMI := Lib.hid hmi; have HWK := Lib.hid hwk
              have HNL : Hid (∀ n, N = some n → n < 1000000000) := Lib.hid (fun n h => numB_le (by rw [← hN]; exact h))
              clear hwk hq hx hmi hN h0 hwl
              go_wp2_with fail
              refine (HCU.out _).mono ?_
              rintro e w' ⟨rfl, hw'⟩
              rw [hw']
              clear hw' w'
              go_wp2_with fail
              refine (HNU.out _).mono ?_
              rintro e w2 ⟨rfl, hb2⟩
              have HP2 := Lib.hid (HP.out.call hb2)
              have hn2 := heap_below hb2 (HZ.out.only.heap HNz.out (by have := HE9.out; omega))
              obtain ⟨⟨_, _, e2', _⟩, _⟩ := box4 hn2
              have HZ2 := Lib.hid (HZ.out.call hb2)
              have hl9 := HE9.out.1
              clear hn2 hb2 x0 c4 e2 e3 f0 f1 hhA HP
              cases N with
              | none =>
                simp only [Option.isSome_none, Option.getD_none] at *
                have HBD := Lib.hid (HB.out.none hlt hn3 (by rw [← HWK.out]; exact fun h => by have := HQT.out; rw [h] at this; rw [this] at hq0; cases hq0) (by rw [← HWK.out, ← HVS.out]; exact HL1.out (by trivial)))
                go_wp2_with fail
                refine (give_any txt Ws b1 b4 i c _ _ HP2.out.t1 HP2.out.l4 HP2.out.row).mono ?_
                rintro e w' ⟨⟨bf, rfl, hbf, hff⟩, hbe⟩
                have HQ := Lib.hid (HP2.out.bad (by rw [← HWE.out]; exact HBD.out) hbe hbf hff)
                have hr2 := (HP2.out.call hbe).r2
                obtain ⟨⟨r20, r21⟩, rz⟩ := box2 hr2
                have rz0 := rz 0
                have rz1 := rz 1
                clear rz hr2 hbe hff
                go_wp2_with fail
                exact bodyPost_ret (v := .tuple #[.agg #[.int .i64 0, .slice none 0 0], .iface 40 (.pointer (some ⟨bf, 0, none⟩))]) (outsP rfl rfl HQ.out.1) rfl ⟨.inl HQ.out.2.1, HQ.out.2.2⟩
              | some v =>
                simp only [Option.isSome_some, Option.getD_some] at *
                have hlv := HL2.out v (by trivial)
                have hv9 := HNL.out v (by trivial)
                by_cases hv1 : v < 1
                · obtain rfl : v = 0 := by omega
                  have HBD := Lib.hid (HB.out.none hlt hn3 (by rw [← HWK.out]; exact fun h => by have := HQT.out; rw [h] at this; rw [this] at hq0; cases hq0) (by rw [← HWK.out, ← HVS.out, hlv]; simp))
                  clear hlv
                  go_wp2_with fail
                  refine (give_any txt Ws b1 b4 i c _ _ HP2.out.t1 HP2.out.l4 HP2.out.row).mono ?_
                  rintro e w' ⟨⟨bf, rfl, hbf, hff⟩, hbe⟩
                  have HQ := Lib.hid (HP2.out.bad (by rw [← HWE.out]; exact HBD.out) hbe hbf hff)
                  have hr2 := (HP2.out.call hbe).r2
                  obtain ⟨⟨r20, r21⟩, rz⟩ := box2 hr2
                  have rz0 := rz 0
                  have rz1 := rz 1
                  clear rz hr2 hbe hff
                  go_wp2_with fail
                  exact bodyPost_ret (v := .tuple #[.agg #[.int .i64 0, .slice none 0 0], .iface 40 (.pointer (some ⟨bf, 0, none⟩))]) (outsP rfl rfl HQ.out.1) rfl ⟨.inl HQ.out.2.1, HQ.out.2.2⟩
                · by_cases hvv : v ≤ vs
                  · cases mi with
                    | true =>
                      have HLX : Hid (litB vs wk = -(v : Int)) := Lib.hid (by rw [hlv, if_pos hvv, if_pos (by simpa using HMI.out)])
                      have HB1 := Lib.hid (HB.out.lit hlt hn3 (by rw [← HWK.out]; exact fun h => by have := HQT.out; rw [h] at this; rw [this] at hq0; cases hq0) (by rw [← HWK.out, ← HVS.out, HLX.out]; omega))
                      clear hlv
                      go_wp2_with (at_builtin; refine wp_append rfl (.tmp 149) (.tmp 151) _ rfl elIn wz.heap.size B cl.length d _ rfl (HZ2.out.cur.own.alloc _) _ 1 1 [.int .i64 (-(v : Int))] rfl (src_new _ _ _ rfl) (by omega) (sz_alloc HZ2.out.only.size) ?_; intro B' d' w4 ho hk' hb'; have HJ := Lib.hid ((HZ2.out.alloc _).more hl9 ho hk' hb'))
                      exact ⟨⟨i + 1, cs, cl ++ [-(v : Int)], B', d', A2, c2, _, _, by omega, by simp, by simp, by omega, by simp; omega, by rw [← HWK.out, ← HVS.out, HLX.out] at HB1; exact HB1, Lib.hid HJ.out⟩, by simp [intOf]; omega⟩
                    | false =>
                      have HLX : Hid (litB vs wk = (v : Int)) := Lib.hid (by rw [hlv, if_pos hvv, if_neg (by simpa using HMI.out)])
                      have HB1 := Lib.hid (HB.out.lit hlt hn3 (by rw [← HWK.out]; exact fun h => by have := HQT.out; rw [h] at this; rw [this] at hq0; cases hq0) (by rw [← HWK.out, ← HVS.out, HLX.out]; omega))
                      clear hlv
                      go_wp2_with (at_builtin; refine wp_append rfl (.tmp 149) (.tmp 151) _ rfl elIn wz.heap.size B cl.length d _ rfl (HZ2.out.cur.own.alloc _) _ 1 1 [.int .i64 (v : Int)] rfl (src_new _ _ _ rfl) (by omega) (sz_alloc HZ2.out.only.size) ?_; intro B' d' w4 ho hk' hb'; have HJ := Lib.hid ((HZ2.out.alloc _).more hl9 ho hk' hb'))
                      exact ⟨⟨i + 1, cs, cl ++ [(v : Int)], B', d', A2, c2, _, _, by omega, by simp, by simp, by omega, by simp; omega, by rw [← HWK.out, ← HVS.out, HLX.out] at HB1; exact HB1, Lib.hid HJ.out⟩, by simp [intOf]; omega⟩
                  · have HBD := Lib.hid (HB.out.none hlt hn3 (by rw [← HWK.out]; exact fun h => by have := HQT.out; rw [h] at this; rw [this] at hq0; cases hq0) (by rw [← HWK.out, ← HVS.out, hlv, if_neg hvv]))
                    clear hlv
                    go_wp2_with fail
                    refine (give_any txt Ws b1 b4 i c _ _ HP2.out.t1 HP2.out.l4 HP2.out.row).mono ?_
                    rintro e w' ⟨⟨bf, rfl, hbf, hff⟩, hbe⟩
                    have HQ := Lib.hid (HP2.out.bad (by rw [← HWE.out]; exact HBD.out) hbe hbf hff)
                    have hr2 := (HP2.out.call hbe).r2
                    obtain ⟨⟨r20, r21⟩, rz⟩ := box2 hr2
                    have rz0 := rz 0
                    have rz1 := rz 1
                    clear rz hr2 hbe hff
                    go_wp2_with fail
                    exact bodyPost_ret (v := .tuple #[.agg #[.int .i64 0, .slice none 0 0], .iface 40 (.pointer (some ⟨bf, 0, none⟩))]) (outsP rfl rfl HQ.out.1) rfl ⟨.inl HQ.out.2.1, HQ.out.2.2⟩
        · obtain rfl : Ws.length = i := by omega
          by_cases hfew : cs.length < n3
          · have HBD := Lib.hid (HB.out.few (by rw [← HN3'.out]; exact hfew))
            go_wp2_with fail
            refine (give_any txt Ws b1 b4 Ws.length c _ _ HP.out.t1 HP.out.l4 HP.out.row).mono ?_
            rintro e w' ⟨⟨bf, rfl, hbf, hff⟩, hbe⟩
            have HQ := Lib.hid (HP.out.bad (by rw [← HWE.out]; exact HBD.out) hbe hbf hff)
            have hr2 := (HP.out.call hbe).r2
            obtain ⟨⟨r20, r21⟩, rz⟩ := box2 hr2
            have rz0 := rz 0
            have rz1 := rz 1
            clear rz hr2 hbe hff
            go_wp2_with fail
            exact bodyPost_ret (v := .tuple #[.agg #[.int .i64 0, .slice none 0 0], .iface 40 (.pointer (some ⟨bf, 0, none⟩))]) (outsP rfl rfl HQ.out.1) rfl ⟨.inl HQ.out.2.1, HQ.out.2.2⟩
          · have HFI := Lib.hid (HB.out.fine (by rw [← HN3'.out]; exact hfew))
            obtain ⟨⟨r20, r21⟩, rz⟩ := box2 HP.out.r2
            have rz0 := rz 0
            have rz1 := rz 1
            have HQ := Lib.hid (HP.out.fine (by rw [← HWE.out]; exact HFI.out) (vs := vs) (by rw [← HWE.out]; exact HVS.out) HZ.out.cls)
            clear rz
            go_wp2_with fail
            exact bodyPost_ret (v := .tuple #[.agg #[.int .i64 (vs : Int), .slice A2 cs.length c2], .nilIface]) (outsP rfl rfl HQ.out.1) rfl ⟨.inr HQ.out.2.1, HQ.out.2.2⟩
end Go.Proofs.YtlfjchlkooemdaaDoor
