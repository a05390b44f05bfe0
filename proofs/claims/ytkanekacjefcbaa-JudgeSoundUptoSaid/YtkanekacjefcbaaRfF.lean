/- follows' closure look, walked. Conditions: the holder, what is held and the queue lie in memory; the clause's numbers are literals. refute's follows, walked: does a clause follow by unit propagation. Conditions: the holder and the clause lie in memory, the clauses' numbers are literals. -/
import Derived.Test.YtkanekacjefcbaaRfS
import Derived.Test.YtkanekacjefcbaaRfA
import Derived.Deep.LoopGhost
namespace Go.Proofs.Ytkanekacjefcbaa
open Go.RowKit Go.Maps Go.ChangeShapes

def LookP (wW : World) (z b : Nat) (S : Int → Bool) (todo l : List Int) (e : Ending) (w' : World) : Prop :=
  (e = .returned (.bool true) ∧ (∀ y, y ∈ l → S (-y) = true) ∧ Below wW.heap.size wW w') ∨
  (e = .returned (.bool false) ∧ ∃ (S' : Int → Bool) (T' : Option Addr) (n' c' : Nat) (todo' : List Int), FSt wW w' z b S' T' n' c' todo' ∧ Calm S' l ∧
    ((S' = S ∧ todo' = todo) ∨ ∃ x, S' = put1 S x ∧ todo' = todo ++ [x] ∧ S x = false ∧ LitOk1 100000 x ∧ x ∈ l ∧ S (-x) = false ∧ ∀ y, y ∈ l → S (-y) = true ∨ y = x))
theorem fst_drawn (w : World) (q : Nat) : Below w.heap.size w (w.drewN q) := ⟨rfl, rfl, rfl, Nat.le_refl _, fun _ _ => rfl⟩
theorem open_q (p : Value) (A : Option Addr) (d : Nat) (c : List Int) (b n : Nat) (S : Int → Bool) (w : World) (hc : ClRow w A c) (hn : c.length ≤ 1000000000000000) (hl : LitsOk 100000 c) (hm : HeldM w b n S) :
    Calls Try.prog 27 #[p, .slice A c.length d, .map (some b)] w fun e w' => e = .returned (.tuple #[.int .i64 (openF S c 0).1, .int .i64 (openF S c 0).2]) ∧ w' = w := (open_any p A d c b n S w hc hn hl hm).mono fun _ _ h => ⟨h.1, h.2.symm⟩

set_option maxHeartbeats 4000000 in
set_option maxRecDepth 100000 in
theorem look_any (w0 wW : World) (b bm base : Nat) (vars : Int) (cs : List (List Int)) (vs : List Value) (A : Option Addr) (cc m : Nat) (D : DataW Unit) (U : Option Addr) (cu : Nat) (us : List Int) (G : Nat → Int → Prop) (K : Nat)
    (HW : Hold w0 wW b bm base vars cs vs A cc m D U cu us G K) (z : Nat) (S : Int → Bool) (T : Option Addr) (n c : Nat) (todo : List Int) (i : Nat) (l : List Int) (w : World)
    (h : FSt wW w z b S T n c todo) (hi : cs[i]? = some l) (hlit : LitsOk 100000 l) (hlen : l.length ≤ 1000000000) (_hcs : cs.length ≤ 1000000000) :
    Calls Try.prog 29 #[.int .i64 i, .pointer (some ⟨z, 0, none⟩), .pointer (some ⟨z + 1 + 1, 0, none⟩), .pointer (some ⟨z + 1 + 1 + 1 + 1, 0, none⟩)] w (LookP wW z b S todo l) := by
  have H := HW.below h.bel
  have hlt := (List.getElem?_eq_some_iff.1 hi).1
  have hli : (i : Int) < cs.length := by omega
  obtain ⟨p0, p1, _, _⟩ := H.at_
  obtain ⟨ba, oa, hA, x0⟩ := (own_row1 H.rows).at_ (k := i) hlt
  have hv : vs[i]? = some (vs.getD i undef) := by
    have : i < vs.length := by rw [H.vlen]; exact hlt
    rw [List.getD_eq_getElem?_getD, List.getElem?_eq_getElem this]; rfl
  obtain ⟨A', d, hve, hcl⟩ := H.cls i _ l hv hi
  rw [hve] at x0
  have hclw := hcl.keeps (Keeps.of_below H.bel)
  subst hA
  have hz := h.hb.cell (k := 0) (by omega)
  have h5 := h.v5.cell (k := 0) (by omega)
  have h7 := h.v7.cell (k := 0) (by omega)
  obtain ⟨N, hN⟩ : ∃ N, N = cnt 100000 S := ⟨_, rfl⟩
  have hm := h.held
  rw [← hN] at hm
  have hnz : ∀ y, y ∈ l → y ≠ 0 := fun y hy => (hlit y hy).1
  have hop := openF_is S l hnz
  have hin : ∀ y, y ∈ l → LitOk1 100000 y := fun y hy => hlit y hy
  obtain ⟨ox, hox⟩ : ∃ x, x = (openF S l 0).1 := ⟨_, rfl⟩
  obtain ⟨on, hon⟩ : ∃ x, x = (openF S l 0).2 := ⟨_, rfl⟩
  have HC : Hid (∀ W : World, ClRow W A' l → HeldM W (z + 1) N S → Calls Try.prog 27 #[.pointer (some ⟨b, 0, none⟩), .slice A' l.length d, .map (some (z + 1))] W fun e w' => e = .returned (.tuple #[.int .i64 ox, .int .i64 on]) ∧ w' = W) := Lib.hid (fun W h1 h2 => by
    rw [hox, hon]
    exact open_q _ A' d l (z + 1) N S W h1 (by omega) hlit h2)
  rw [← hox, ← hon] at hop
  obtain ⟨hop, ⟨hn0, hn2⟩, hxin⟩ := hop
  have HOP := Lib.hid hop
  have HXI := Lib.hid hxin
  have HIN := Lib.hid hin
  have HH := Lib.hid h
  have HCW := Lib.hid hclw
  have HM := Lib.hid hm
  clear hop hxin hin h H HW hv hve hcl hclw hm hox hon hN hnz
  go_enter Try.func29, Try.ntmps29
  go_wp2_with fail
  go_quiet ((go_at_call 27; exact Calls.quiet_of_same (HC.out _ HCW.out HM.out)))
  have HF := Lib.hid (HH.out.below (fst_drawn w nq))
  have h7' : (w.drewN nq).cell? ⟨z + 1 + 1 + 1 + 1, 0, none⟩ = some (.func (.func 28) #[] #[.pointer (some ⟨z + 1 + 1, 0, none⟩), .pointer (some ⟨z + 1 + 1 + 1, 0, none⟩)]) := h7
  clear hz h5 h7 p0 p1 x0
  generalize w.drewN nq = wd at *
  by_cases h1 : on = 1
  · have hx : ox ∈ l ∧ S (-ox) = false ∧ ∀ y, y ∈ l → S (-y) = true ∨ y = ox := by
      rcases HOP.out with ⟨e, _⟩ | ⟨_, r⟩ | ⟨e, _⟩
      · omega
      · exact r
      · omega
    have HX := Lib.hid hx; clear hx
    have hxl := HIN.out ox HX.out.1
    have HXL := Lib.hid hxl; clear hxl
    subst h1
    go_wp2_with fail
    refine (put_any wW z b S T n c todo ox _ HF.out HXL.out).mono ?_
    rintro e w2 ⟨⟨v, rfl⟩, hcase⟩
    have HCA := Lib.hid hcase; clear hcase h7'
    go_wp2_with fail
    go_ret
    refine .inr ⟨rfl, ?_⟩
    rcases HCA.out with ⟨hS, rfl⟩ | ⟨hS, T', c', hF⟩
    · exact ⟨S, T, n, c, todo, HF.out, .inl ⟨ox, HX.out.1, hS, HX.out.2.1, HX.out.2.2⟩, .inl ⟨rfl, rfl⟩⟩
    · exact ⟨put1 S ox, T', n + 1, c', todo ++ [ox], hF, Calm.of_put (fun y hy => (HIN.out y hy).1) HX.out.1 HX.out.2.1 HX.out.2.2, .inr ⟨ox, rfl, rfl, hS, HXL.out, HX.out.1, HX.out.2.1, HX.out.2.2⟩⟩
  · have hb1 : (on == 1) = false := by simpa using h1
    by_cases h0 : on = 0
    · subst h0
      go_wp2_with fail
      go_ret
      refine .inl ⟨rfl, ?_, HF.out.bel⟩
      rcases HOP.out with ⟨_, r⟩ | ⟨e, _⟩ | ⟨e, _⟩
      · exact r
      · omega
      · omega
    · have hb0 : (on == 0) = false := by simpa using h0
      go_wp2_with fail
      go_ret
      refine .inr ⟨rfl, S, T, n, c, todo, HF.out, ?_, .inl ⟨rfl, rfl⟩⟩
      rcases HOP.out with ⟨e, _⟩ | ⟨e, _⟩ | ⟨_, p, q, r⟩
      · exact absurd e h0
      · exact absurd e h1
      · exact .inr ⟨p, q, r⟩
end Go.Proofs.Ytkanekacjefcbaa
namespace Go.Proofs.Ytkanekacjefcbaa
open Go.RowKit Go.Maps Go.ChangeShapes

theorem neg0_step {l : List Int} {k : Nat} (hk : k < l.length) : put1 (neg0 (l.take k)) (-(l.getD k 0)) = neg0 (l.take (k + 1)) := by
  have e : l.take (k + 1) = l.take k ++ [l.getD k 0] := by
    rw [List.take_succ_eq_append_getElem hk, List.getD_eq_getElem?_getD, List.getElem?_eq_getElem hk]; rfl
  funext y
  rw [e, Bool.eq_iff_iff]
  simp only [put1, neg0, Bool.or_eq_true, List.contains_iff_mem, List.mem_append, List.mem_singleton, beq_iff_eq]
  constructor
  · rintro (h | h)
    · exact .inl h
    · right; omega
  · rintro (h | h)
    · exact .inl h
    · right; omega
theorem taut_take {l : List Int} {k : Nat} (h : Taut (l.take k)) : Taut l := by
  obtain ⟨x, h1, h2⟩ := h
  exact ⟨x, List.mem_of_mem_take h1, List.mem_of_mem_take h2⟩
theorem taut_step {l : List Int} {k : Nat} (hk : k < l.length) (hz : l.getD k 0 ≠ 0) (h : ¬ Taut (l.take k)) (hn : ¬ neg0 (l.take k) (l.getD k 0) = true) : ¬ Taut (l.take (k + 1)) := by
  have e : l.take (k + 1) = l.take k ++ [l.getD k 0] := by
    rw [List.take_succ_eq_append_getElem hk, List.getD_eq_getElem?_getD, List.getElem?_eq_getElem hk]; rfl
  rw [neg0_iff] at hn
  rintro ⟨x, h1, h2⟩
  rw [e] at h1 h2
  rcases List.mem_append.1 h1 with h1 | h1 <;> rcases List.mem_append.1 h2 with h2 | h2
  · exact h ⟨x, h1, h2⟩
  · have h3 : -x = l.getD k 0 := by simpa using h2
    exact hn (by rw [← h3]; simpa using h1)
  · have h3 : x = l.getD k 0 := by simpa using h1
    subst h3
    exact hn h2
  · have h3 : x = l.getD k 0 := by simpa using h1
    have h4 : -x = l.getD k 0 := by simpa using h2
    omega
/-- a clause has been looked at -/
theorem Pending.look {cs : List (List Int)} {S S' : Int → Bool} {todo todo' : List Int} {U U' : Nat → Prop} {i : Nat} {l : List Int} (h : Pending cs S todo U) (hi : cs[i]? = some l) (hc : Calm S' l)
    (hs : (S' = S ∧ todo' = todo) ∨ ∃ x, S' = put1 S x ∧ todo' = todo ++ [x]) (hU : ∀ j, U j → j = i ∨ U' j) : Pending cs S' todo' U' := fun j c hj => by
  by_cases e : j = i
  · subst e
    rw [hi] at hj
    injection hj with hj
    subst hj
    exact .inl hc
  · have h2 : Pending cs S' todo' U := by
      rcases hs with ⟨rfl, rfl⟩ | ⟨x, rfl, rfl⟩
      · exact h
      · exact h.put x
    exact (h2 j c hj).imp id (fun h => h.imp id (fun h => (hU j h).resolve_left e))
theorem Arr.one1 {w : World} {b : Nat} {e : TypeId} {v : Value} (h : Arr w b e #[v].size (fun j => #[v].getD j undef)) : Arr w b e 1 (fun _ => v) := h.congr (fun j hj => by
  have hj' : j < 1 := hj
  obtain rfl : j = 0 := by omega
  rfl)
theorem FSt.start (w : World) (b : Nat) (t1 t2 t3 t4 : TypeId) (h1 : t1 = 38) (h2 : t2 = 40) (h3 : t3 = 26) (h4 : t4 = 62) : FSt w (((((w.alloc (.cells #[.pointer (some ⟨b, 0, none⟩)] t1)).alloc (.map #[] 0)).alloc (.cells #[.map (some (w.heap.size + 1))] t2)).alloc (.cells #[.slice none 0 0] t3)).alloc (.cells #[.func (.func 28) #[] #[.pointer (some ⟨w.heap.size + 1 + 1, 0, none⟩), .pointer (some ⟨w.heap.size + 1 + 1 + 1, 0, none⟩)]] t4)) w.heap.size b (fun _ => false) none 0 0 [] := by
  subst h1; subst h2; subst h3; subst h4
  have c0 : cnt 100000 (fun _ => false) = 0 := by simp [cnt]
  have a0 := Arr.new w #[.pointer (some ⟨b, 0, none⟩)] 38
  have a1 := HeldM.made (w.alloc (.cells #[.pointer (some ⟨b, 0, none⟩)] 38))
  have b0 := a0.alloc (.map #[] 0)
  have hbl : Below w.heap.size w (w.alloc (.cells #[.pointer (some ⟨b, 0, none⟩)] 38)) := (Below.refl _ _).alloc (Nat.le_refl _) _
  have s1 : (w.alloc (.cells #[.pointer (some ⟨b, 0, none⟩)] 38)).heap.size = w.heap.size + 1 := by simp
  replace hbl := hbl.alloc (by omega) (.map #[] 0)
  have s2 : ((w.alloc (.cells #[.pointer (some ⟨b, 0, none⟩)] 38)).alloc (.map #[] 0)).heap.size = w.heap.size + 2 := by simp
  rw [s1] at a1
  generalize (w.alloc (.cells #[.pointer (some ⟨b, 0, none⟩)] 38)).alloc (.map #[] 0) = w2 at *
  have a2 := Arr.new w2 #[.map (some (w.heap.size + 1))] 40
  rw [s2] at a2
  have al : ∀ (W : World) (o : Obj), Below W.heap.size W (W.alloc o) := fun W o => (Below.refl _ _).alloc (Nat.le_refl _) _
  have e1 := b0.alloc (.cells #[.map (some (w.heap.size + 1))] 40)
  have e2 := a1.below (al w2 (.cells #[.map (some (w.heap.size + 1))] 40))
  replace hbl := hbl.alloc (by omega) (.cells #[.map (some (w.heap.size + 1))] 40)
  have s3 : (w2.alloc (.cells #[.map (some (w.heap.size + 1))] 40)).heap.size = w.heap.size + 3 := by simp [s2]
  generalize w2.alloc (.cells #[.map (some (w.heap.size + 1))] 40) = w3 at *
  have a3 := Arr.new w3 #[.slice none 0 0] 26
  rw [s3] at a3
  have g1 := e1.alloc (.cells #[.slice none 0 0] 26)
  have g2 := e2.below (al w3 (.cells #[.slice none 0 0] 26))
  have g3 := a2.alloc (.cells #[.slice none 0 0] 26)
  replace hbl := hbl.alloc (by omega) (.cells #[.slice none 0 0] 26)
  have s4 : (w3.alloc (.cells #[.slice none 0 0] 26)).heap.size = w.heap.size + 4 := by simp [s3]
  generalize w3.alloc (.cells #[.slice none 0 0] 26) = w4 at *
  have a4 := Arr.new w4 #[.func (.func 28) #[] #[.pointer (some ⟨w.heap.size + 1 + 1, 0, none⟩), .pointer (some ⟨w.heap.size + 1 + 1 + 1, 0, none⟩)]] 62
  rw [s4] at a4
  refine ⟨hbl.alloc (by omega) _, rfl, Arr.one1 (g1.alloc _), ?_, Arr.one1 (g3.alloc _), Arr.one1 (a3.alloc _), Arr.one1 a4, Tail.nil _ _, by simp, by omega⟩
  rw [c0]
  exact g2.below (al w4 _)
end Go.Proofs.Ytkanekacjefcbaa
