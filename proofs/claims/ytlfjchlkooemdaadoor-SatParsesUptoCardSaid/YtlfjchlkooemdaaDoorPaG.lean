/- A formula's clauses in memory; sat.Parse's closure 'give', walked: the fault at the i-th word, or at the text's end. Condition: the words lie in memory. -/
import Derived.Test.YtlfjchlkooemdaaDoorSwW
import Derived.Test.YtlfjchlkooemdaaDoorNuW
namespace Go.Proofs.YtlfjchlkooemdaaDoor
open Go.RowKit Go.Shelf Go.Deep

/-- a clause's numbers -/
def iv (c : List Int) (j : Nat) : Value := .int .i64 (c.getD j 0)
/-- clauses, in blocks from base on -/
structure Cls (w : World) (base : Nat) (A : Option Addr) (c : Nat) (cs : List (List Int)) (RA : Nat → Option Addr) (RC : Nat → Nat) : Prop where
  own : w.ownsRow base 45 1 (.slice A cs.length c) cs.length ((List.range cs.length).map fun i => .slice (RA i) (cs.getD i []).length (RC i))
  rows : ∀ i, i < cs.length → RowT (fun b => base ≤ b) w 3 1 (RA i) (cs.getD i []).length (fun j _ => iv (cs.getD i []) j)
theorem Cls.nil (w : World) (base : Nat) : Cls w base none 0 [] (fun _ => none) (fun _ => 0) := ⟨World.ownsRow_nil _ _ _ _, fun _ hi => absurd hi (Nat.not_lt_zero _)⟩
/-- .. as they are read -/
def ClM (w : World) (A : Option Addr) (cs : List (List Int)) : Prop := ∃ (RA : Nat → Option Addr) (RC : Nat → Nat), Row1 w A cs.length (fun i => .slice (RA i) (cs.getD i []).length (RC i)) ∧ ∀ i, i < cs.length → Row1 w (RA i) (cs.getD i []).length (iv (cs.getD i []))
theorem Cls.mat {w : World} {base : Nat} {A : Option Addr} {c : Nat} {cs : List (List Int)} {RA : Nat → Option Addr} {RC : Nat → Nat} (h : Cls w base A c cs RA RC) : ClM w A cs := by
  refine ⟨RA, RC, fun hn => ?_, fun i hi => (h.rows i hi).row.one⟩
  obtain ⟨b, off, e, hc⟩ := own_row1 h.own hn
  refine ⟨b, off, e, fun k hk => ?_⟩
  rw [hc k hk]
  simp [hk]
theorem ClM.keeps {w w1 : World} {A : Option Addr} {cs : List (List Int)} (h : ClM w A cs) (k : Keeps w w1) : ClM w1 A cs := by
  obtain ⟨RA, RC, h1, h2⟩ := h
  exact ⟨RA, RC, h1.keeps k, fun i hi => (h2 i hi).keeps k⟩
theorem Cls.below {w w1 : World} {base : Nat} {A : Option Addr} {c : Nat} {cs : List (List Int)} {RA : Nat → Option Addr} {RC : Nat → Nat} (h : Cls w base A c cs RA RC) (hb : Below w.heap.size w w1) : Cls w1 base A c cs RA RC :=
  ⟨own_below h.own hb, fun i hi => (h.rows i hi).below hb⟩
/-- what writes neither rows of clauses nor of numbers -/
theorem Cls.only {w w1 : World} {base : Nat} {A : Option Addr} {c : Nat} {cs : List (List Int)} {RA : Nat → Option Addr} {RC : Nat → Nat} {S : Nat → Prop} (h : Cls w base A c cs RA RC) (hk : Only S w w1)
    (hS : ∀ b cur e, e = 3 ∨ e = 45 → w.heap[b]? = some (.cells cur e (0, 0)) → ¬ S b) : Cls w1 base A c cs RA RC :=
  ⟨own_only h.own hk (fun k hb hs => by
    obtain ⟨a, rfl, rfl⟩ := hb
    rcases h.own.2 with ⟨h0, _⟩ | ⟨g, cap, cur', hv, _, hh, _⟩
    · cases h0
    · injection hv with e1
      injection e1 with e1
      subst e1
      exact hS _ _ _ (.inr rfl) hh hs), fun i hi => (h.rows i hi).only hk (fun b cur _ hb => hS b cur _ (.inl rfl) hb)⟩
theorem getD_snoc_lt {α : Type} {cs : List α} {c d : α} {i : Nat} (h : i < cs.length) : (cs ++ [c]).getD i d = cs.getD i d := by
  rw [List.getD_eq_getElem?_getD, List.getElem?_append_left h, ← List.getD_eq_getElem?_getD]
theorem getD_snoc {α : Type} {cs : List α} {c d : α} : (cs ++ [c]).getD cs.length d = c := by simp
/-- the address or capacity of the last one laid on -/
def lastC {α : Type} (n : Nat) (x : α) (f : Nat → α) (i : Nat) : α := if i = n then x else f i
theorem Cls.push {w w1 : World} {base : Nat} {A A' B : Option Addr} {c c' d : Nat} {cs : List (List Int)} {cl : List Int} {RA : Nat → Option Addr} {RC : Nat → Nat} (h : Cls w base A c cs RA RC)
    (ho : w1.ownsRow base 45 1 (.slice A' (cs.length + 1) c') (cs.length + 1) (((List.range cs.length).map fun i => .slice (RA i) (cs.getD i []).length (RC i)) ++ [.slice B cl.length d])) (hk : Only (blockOf A) w w1)
    (hB : RowT (fun b => base ≤ b) w 3 1 B cl.length (fun j _ => iv cl j)) : Cls w1 base A' c' (cs ++ [cl]) (lastC cs.length B RA) (lastC cs.length d RC) := by
  have hty := own_type (e' := 3) h.own (by decide)
  have hl : (cs ++ [cl]).length = cs.length + 1 := by simp
  constructor
  · rw [hl, List.range_succ, List.map_append, List.map_congr_left (g := fun i => .slice (RA i) (cs.getD i []).length (RC i)) (fun i hi => by
      have hi' := List.mem_range.1 hi
      have : i ≠ cs.length := by omega
      simp only [lastC, if_neg this, getD_snoc_lt hi'])]
    simpa [lastC] using ho
  · intro i hi
    rw [hl] at hi
    unfold lastC
    by_cases e : i = cs.length
    · rw [if_pos e, e, getD_snoc]; exact hB.only hk (fun b cur _ hb => hty b cur hb)
    · rw [if_neg e, getD_snoc_lt (by omega)]; exact (h.rows i (by omega)).only hk (fun b cur _ hb => hty b cur hb)
theorem elCl : Elem Tryd.prog 23 45 1 24 := elem_mk Tryd.underlying23 (z := .slice none 0 0) (by kernel_rfl) rfl (by omega) (by omega)
theorem elIn : Elem Tryd.prog 45 3 1 8 := elem_mk Tryd.underlying45 (z := .int .i64 0) (by kernel_rfl) rfl (by omega) (by omega)
theorem RowT.old {p : Nat → Prop} {w : World} {e : TypeId} {s n : Nat} {A : Option Addr} {f : Nat → Nat → Value} (h : RowT p w e s A n f) : RowT (fun b => b < w.heap.size) w e s A n f := h.mono (fun _ hb _ => hb)
/-- a word's cells -/
theorem word_at {p : Nat → Prop} {w : World} {e : TypeId} {A : Option Addr} {Ws : List Wd0} (h : RowT p w e 2 A Ws.length (wv Ws)) {i : Nat} (hi : i < Ws.length) :
    ∃ b off, A = some ⟨b, off, none⟩ ∧ w.cell? ⟨b, off + i * 2, none⟩ = some (.string (bstr (Ws.getD i ([], 0)).1)) ∧ w.cell? ⟨b, off + i * 2 + 1, none⟩ = some (.int .i64 ((Ws.getD i ([], 0)).2 : Nat)) := by
  obtain ⟨b, off, e', hc⟩ := h.row (by omega)
  refine ⟨b, off, e', ?_, ?_⟩
  · exact hc i hi 0 (by omega)
  · exact hc i hi 1 (by omega)
/-- where a fault at the i-th word lies -/
def atW (Ws : List Wd0) (T i : Nat) : Nat := if i < Ws.length then (Ws.getD i ([], 0)).2 else T
attribute [local go_sem] Oper.semAt_some in
theorem outsG {tmps : Array Value} {W : World} {b : Nat} {x0 x1 v : Value} (h2 : tmps[4]? = some (.pointer (some ⟨b, 0, none⟩))) (h3 : tmps[5]? = some v) (h : W.heap[b]? = some (.cells #[x0, x1] 25)) :
    (results Tryd.f10 tmps).run Tryd.prog W = .ok (.tuple #[.agg #[x0, x1], v]) W := by
  have c0 : W.cell? ⟨b, 0, none⟩ = some x0 := by rw [cell_of_row W b 0 _ _ _ h]; rfl
  have c1 : W.cell? ⟨b, 1, none⟩ = some x1 := by rw [cell_of_row W b 1 _ _ _ h]; rfl
  simp [results, Tryd.f10, go_sem, h2, h3, c0, c1]

set_option maxRecDepth 100000 in
set_option maxHeartbeats 8000000 in
theorem give_any (txt : List UInt8) (Ws : List Wd0) (b1 b4 i c : Nat) (A : Option Addr) (w : World) (h1 : w.heap[b1]? = some (.cells #[.string (bstr txt)] 9)) (h4 : w.heap[b4]? = some (.cells #[.slice A Ws.length c] 36))
    (hr : RowT (fun _ => True) w 39 2 A Ws.length (wv Ws)) :
    Calls Tryd.prog 10 #[.int .i64 (i : Int), .pointer (some ⟨b1, 0, none⟩), .pointer (some ⟨b4, 0, none⟩)] w fun e w' => (∃ b, e = .returned (.tuple #[.agg #[.int .i64 0, .slice none 0 0], .iface 40 (.pointer (some ⟨b, 0, none⟩))]) ∧ w.heap.size ≤ b ∧ w'.heap[b]? = some (.cells #[.int .i64 1, .int .i64 (atW Ws txt.length i : Nat)] 31)) ∧ Below w.heap.size w w' := by
  have hl1 := (Array.getElem?_eq_some_iff.1 h1).1
  have hl4 := (Array.getElem?_eq_some_iff.1 h4).1
  have c1 : w.cell? ⟨b1, 0, none⟩ = some (.string (bstr txt)) := by rw [cell_of_row w b1 _ _ _ _ h1]; rfl
  have c4 : w.cell? ⟨b4, 0, none⟩ = some (.slice A Ws.length c) := by rw [cell_of_row w b4 _ _ _ _ h4]; rfl
  have hsz := bstr_size txt
  obtain ⟨s, hs⟩ : ∃ s, s = bstr txt := ⟨_, rfl⟩
  rw [← hs] at c1 hsz
  have hba : Below w.heap.size w (w.alloc (.cells #[.int .i64 0, .slice none 0 0] 25)) := (Below.refl _ _).alloc (Nat.le_refl _) _
  have hn := heap_alloc_new w (.cells #[.int .i64 0, .slice none 0 0] 25)
  have HC1 := Lib.hid c1; have HC4 := Lib.hid c4
  by_cases hi : i < Ws.length
  · obtain ⟨b, off, rfl, x0, x1⟩ := word_at hr hi
    rw [show atW Ws txt.length i = (Ws.getD i ([], 0)).2 by unfold atW; rw [if_pos hi]]
    generalize (Ws.getD i ([], 0)).2 = P at *
    have hlb : b < w.heap.size := World.block_lt_of_cell? w _ x1
    clear x0 hs h1 h4 hr
    go_enter Tryd.func10, Tryd.ntmps10
    go_wp2_with fail
    have hn2 := heap_alloc_new (w.alloc (.cells #[.int .i64 0, .slice none 0 0] 25)) (.cells #[.int .i64 1, .int .i64 (P : Nat)] 31)
    rw [World.size_alloc] at hn2
    exact bodyPost_ret (v := .tuple #[.agg #[.int .i64 0, .slice none 0 0], .iface 40 (.pointer (some ⟨w.heap.size + 1, 0, none⟩))]) (outsG (b := w.heap.size) rfl rfl ((Below.heap_alloc _ _ _ (by simp)).trans hn)) rfl ⟨⟨w.heap.size + 1, rfl, by omega, hn2⟩, hba.alloc (by simp) _⟩
  · rw [show atW Ws txt.length i = txt.length by unfold atW; rw [if_neg hi]]
    clear hs h1 h4 hr
    go_enter Tryd.func10, Tryd.ntmps10
    go_wp2_with fail
    have hn2 := heap_alloc_new (w.alloc (.cells #[.int .i64 0, .slice none 0 0] 25)) (.cells #[.int .i64 1, .int .i64 (txt.length : Nat)] 31)
    rw [World.size_alloc] at hn2
    exact bodyPost_ret (v := .tuple #[.agg #[.int .i64 0, .slice none 0 0], .iface 40 (.pointer (some ⟨w.heap.size + 1, 0, none⟩))]) (outsG (b := w.heap.size) rfl rfl ((Below.heap_alloc _ _ _ (by simp)).trans hn)) rfl ⟨⟨w.heap.size + 1, rfl, by omega, hn2⟩, hba.alloc (by simp) _⟩
end Go.Proofs.YtlfjchlkooemdaaDoor
