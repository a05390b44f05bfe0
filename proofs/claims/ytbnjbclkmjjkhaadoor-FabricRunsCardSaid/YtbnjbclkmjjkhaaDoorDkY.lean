/- For stream.Decode: its boxes as they are laid; the five numbers of the shape. No condition. For stream.Decode: the loop over the fields begins; a field's slot; what the loop leaves. No condition. -/
import Derived.Test.YtbnjbclkmjjkhaaDoorDkC
import Derived.Test.YtbnjbclkmjjkhaaDoorDkV
namespace Go.Proofs.YtbnjbclkmjjkhaaDoor
open Go.RowKit Go.Shelf Go.Deep

/-- the shape's box, k numbers read -/
def shW (l : List UInt8) (k j : Nat) : Value := if j < k then .int .i64 (shD l j) else .int .i64 0
/-- what stands in the loop over the shape's numbers -/
structure Lay8 (l : List UInt8) (A : Option Addr) (c n0 m k : Nat) (W : World) : Prop where
  take : TakeAt l A c m (m + 1) n0 W (32 + 16 * k)
  at_ : ∃ cur z, W.heap[m]? = some (Obj.cells cur 3 z)
  fn : W.cell? ⟨m + 1 + 1, 0, none⟩ = some (.func (.func 23) #[] #[.pointer (some ⟨m, 0, none⟩), .pointer (some ⟨m + 1, 0, none⟩), .pointer (some ⟨n0, 0, none⟩)])
  sh : Arr W (m + 1 + 1 + 1) 26 5 (shW (body l) k)
theorem lay8 {l : List UInt8} {A : Option Addr} {c n0 : Nat} {w : World} (hM : Mem w A l) (hb : w.cell? ⟨n0, 0, none⟩ = some (.slice A l.length c)) :
    Lay8 l A c n0 w.heap.size 0 ((((w.alloc (.cells #[.int .i64 32] 3)).alloc (.cells #[.int .i64 (8 * ((l.length - 4 : Nat) : Int))] 3)).alloc (.cells #[.func (.func 23) #[] #[.pointer (some ⟨w.heap.size, 0, none⟩), .pointer (some ⟨w.heap.size + 1, 0, none⟩), .pointer (some ⟨n0, 0, none⟩)]] 54)).alloc (.cells #[.int .i64 0, .int .i64 0, .int .i64 0, .int .i64 0, .int .i64 0] 26)) ∧
    Below w.heap.size w ((((w.alloc (.cells #[.int .i64 32] 3)).alloc (.cells #[.int .i64 (8 * ((l.length - 4 : Nat) : Int))] 3)).alloc (.cells #[.func (.func 23) #[] #[.pointer (some ⟨w.heap.size, 0, none⟩), .pointer (some ⟨w.heap.size + 1, 0, none⟩), .pointer (some ⟨n0, 0, none⟩)]] 54)).alloc (.cells #[.int .i64 0, .int .i64 0, .int .i64 0, .int .i64 0, .int .i64 0] 26)) ∧
    ((((w.alloc (.cells #[.int .i64 32] 3)).alloc (.cells #[.int .i64 (8 * ((l.length - 4 : Nat) : Int))] 3)).alloc (.cells #[.func (.func 23) #[] #[.pointer (some ⟨w.heap.size, 0, none⟩), .pointer (some ⟨w.heap.size + 1, 0, none⟩), .pointer (some ⟨n0, 0, none⟩)]] 54)).alloc (.cells #[.int .i64 0, .int .i64 0, .int .i64 0, .int .i64 0, .int .i64 0] 26)).heap.size = w.heap.size + 4 := by
  have h0 := heap_alloc_new w (.cells #[.int .i64 32] 3)
  have b0 : Below w.heap.size w (w.alloc (.cells #[.int .i64 32] 3)) := (Below.refl _ _).alloc (Nat.le_refl _) _
  have z0 : (w.alloc (.cells #[.int .i64 32] 3)).heap.size = w.heap.size + 1 := by simp
  generalize w.alloc (.cells #[.int .i64 32] 3) = w1 at *
  have h1 := heap_alloc_new w1 (.cells #[.int .i64 (8 * ((l.length - 4 : Nat) : Int))] 3)
  have b1 : Below w1.heap.size w1 (w1.alloc (.cells #[.int .i64 (8 * ((l.length - 4 : Nat) : Int))] 3)) := (Below.refl _ _).alloc (Nat.le_refl _) _
  have z1 : (w1.alloc (.cells #[.int .i64 (8 * ((l.length - 4 : Nat) : Int))] 3)).heap.size = w.heap.size + 1 + 1 := by simp [z0]
  generalize w1.alloc (.cells #[.int .i64 (8 * ((l.length - 4 : Nat) : Int))] 3) = w2 at *
  generalize hf : Value.func (.func 23) #[] #[.pointer (some ⟨w.heap.size, 0, none⟩), .pointer (some ⟨w.heap.size + 1, 0, none⟩), .pointer (some ⟨n0, 0, none⟩)] = fv
  have h2 := heap_alloc_new w2 (.cells #[fv] 54)
  have b2 : Below w2.heap.size w2 (w2.alloc (.cells #[fv] 54)) := (Below.refl _ _).alloc (Nat.le_refl _) _
  have z2 : (w2.alloc (.cells #[fv] 54)).heap.size = w.heap.size + 1 + 1 + 1 := by simp [z1]
  generalize w2.alloc (.cells #[fv] 54) = w3 at *
  have h3 := heap_alloc_new w3 (.cells #[.int .i64 0, .int .i64 0, .int .i64 0, .int .i64 0, .int .i64 0] 26)
  have b3 : Below w3.heap.size w3 (w3.alloc (.cells #[.int .i64 0, .int .i64 0, .int .i64 0, .int .i64 0, .int .i64 0] 26)) := (Below.refl _ _).alloc (Nat.le_refl _) _
  have z3 : (w3.alloc (.cells #[.int .i64 0, .int .i64 0, .int .i64 0, .int .i64 0, .int .i64 0] 26)).heap.size = w.heap.size + 4 := by simp [z2]
  generalize w3.alloc (.cells #[.int .i64 0, .int .i64 0, .int .i64 0, .int .i64 0, .int .i64 0] 26) = w4 at *
  have bb : Below w.heap.size w w4 := ((b0.trans (b1.mono (by omega))).trans (b2.mono (by omega))).trans (b3.mono (by omega))
  rw [z2] at h3; rw [z1] at h2; rw [z0] at h1
  have g2 := heap_below b3 h2
  have g1 := heap_below b3 (heap_below b2 h1)
  have g0 := heap_below b3 (heap_below b2 (heap_below b1 h0))
  refine ⟨⟨⟨?_, ?_, ?_, (Keeps.of_below bb) _ _ hb, hM.keeps (Keeps.of_below bb)⟩, ⟨_, _, g0⟩, ?_, ⟨_, h3, rfl, fun k hk => ?_⟩⟩, bb, z3⟩
  · rw [cell_of_row w4 _ 0 _ _ _ g0]; rfl
  · simp [World.frozen?, g0]
  · rw [cell_of_row w4 _ 0 _ _ _ g1]; simp
  · rw [cell_of_row w4 _ 0 _ _ _ g2, hf]; rfl
  · obtain rfl | rfl | rfl | rfl | rfl : k = 0 ∨ k = 1 ∨ k = 2 ∨ k = 3 ∨ k = 4 := by omega
    all_goals rfl
/-- a number of the shape is read and stored -/
theorem Lay8.next {l : List UInt8} {A : Option Addr} {c n0 m k : Nat} {W W1 : World} (h : Lay8 l A c n0 m k W) (hn : n0 < m) (hM : ∀ b, blockOf A b → b < m) (hT : TakeAt l A c m (m + 1) n0 W1 (32 + 16 * k + 16)) (hO : Typ m W W1) (hk : k < 5) :
    (∃ v, W1.cell? ⟨m + 1 + 1 + 1, k, none⟩ = some v) ∧ W1.frozen? ⟨m + 1 + 1 + 1, k, none⟩ = false ∧ Lay8 l A c n0 m (k + 1) (W1.setCell ⟨m + 1 + 1 + 1, k, none⟩ (.int .i64 (tkv (body l) (32 + 16 * k) 16))) := by
  have ha := h.sh.only hO.only (by omega)
  have hO2 : Only (fun b => b = m + 1 + 1 + 1) W1 (W1.setCell ⟨m + 1 + 1 + 1, k, none⟩ (.int .i64 (tkv (body l) (32 + 16 * k) 16))) := Only.setCell (p := ⟨m + 1 + 1 + 1, k, none⟩) (Only.refl (fun b => b = m + 1 + 1 + 1) W1) (fun _ => rfl) _
  obtain ⟨cur, z, hc⟩ := h.at_
  obtain ⟨cur', hc'⟩ := hO.typ _ _ _ hc
  refine ⟨⟨_, ha.cell hk⟩, ha.thaw k, ⟨?_, ⟨cur', z, (hO2.block m (Array.getElem?_eq_some_iff.1 hc').1 (by omega)).trans hc'⟩, ?_, ha.set (fun j hj hne => ?_) ?_⟩⟩
  · rw [show 32 + 16 * (k + 1) = 32 + 16 * k + 16 by omega]
    exact hT.only hO2 (by omega) (by omega) (by omega) (fun b hb e => by have := hM b hb; omega)
  · exact hO2.cell (hO.only.cell h.fn (by simp; omega)) (by simp)
  · unfold shW
    by_cases h1 : j < k
    · rw [if_pos h1, if_pos (by omega)]
    · rw [if_neg h1, if_neg (by omega)]
  · unfold shW shD
    rw [if_pos (by omega)]
theorem Lay8.below {l : List UInt8} {A : Option Addr} {c n0 m k : Nat} {W W1 : World} (h : Lay8 l A c n0 m k W) (hb : Below W.heap.size W W1) : Lay8 l A c n0 m k W1 := by
  obtain ⟨cur, z, hc⟩ := h.at_
  exact ⟨h.take.grown (row := none) ⟨hb.os, hb.tape, hb.output, hb.size, fun k hk _ => hb.block k hk⟩ (fun r e => by cases e), ⟨cur, z, heap_below hb hc⟩, (Keeps.of_below hb) _ _ h.fn, h.sh.below hb⟩
theorem ptr_index (S k : Nat) (w : World) (hk : k < 5) : (Instr.index 67 (.agg #[.pointer (some ⟨S, 0, none⟩), .pointer (some ⟨S, 1, none⟩), .pointer (some ⟨S, 2, none⟩), .pointer (some ⟨S, 3, none⟩), .pointer (some ⟨S, 4, none⟩)]) (.int .i64 k)).run Tryd.prog w = .ok (.pointer (some ⟨S, k, none⟩)) w := by
  obtain rfl | rfl | rfl | rfl | rfl : k = 0 ∨ k = 1 ∨ k = 2 ∨ k = 3 ∨ k = 4 := by omega
  all_goals simp [Instr.index, run_underlying Tryd.underlying67, asIntOf, go_sem]
theorem mem_block {w : World} {A : Option Addr} {l : List UInt8} (h : Mem w A l) (h0 : 0 < l.length) : ∀ b, blockOf A b → b < w.heap.size := fun b hb => by
  obtain ⟨b', o, e, hc⟩ := h h0
  obtain ⟨a, ea, rfl⟩ := hb
  rw [e] at ea; injection ea with ea; subst ea
  exact World.block_lt_of_cell? w _ (hc 0 h0)
/-- any of those that may come up now -/
theorem AnyY.of {F : Fence} {n : Nat} {P : Program} {md : Region.Mode} {ops : Array Oper} {Q : Exit → Act → World → Prop} {S : World → Prop} {X : Nat → Bool} {f : Nat} {listed : Array Bool} {a : Act} {w : World} (hF : ∀ f, F.fn f) (hr : (Region.ready md ops listed).isEmpty = false)
    (h : ∀ i o, i ∈ Region.ready md ops listed → ops[i]? = some o → ∀ K : Act → World → Prop, (∀ a' w', (X i = false → S w') → AnyY F n P md ops Q S X f (listed.setIfInBounds i true) a' w' → K a' w') → if Region.wanted o (yielded ops a.tmps) = true then Oper.wpIn F n P o a w K Q else K (a.put o.dst undef) w) :
    AnyY F n P md ops Q S X (f + 1) listed a w := by
  refine ⟨fun h0 => (by rw [h0] at hr; cases hr), fun j hj => ?_⟩
  obtain ⟨_, o, ho, _⟩ := mem_ready.1 hj
  have h1 := h j o hj ho (fun a' w' => (X j = false → S w') ∧ AnyY F n P md ops Q S X f (listed.setIfInBounds j true) a' w') (fun a' w' h1 h2 => ⟨h1, h2⟩)
  unfold wpOpIn
  simp only [ho]
  by_cases hw : Region.wanted o (yielded ops a.tmps) = true
  · rw [if_pos hw] at h1 ⊢
    exact h1
  · rw [if_neg hw] at h1 ⊢
    exact ⟨fun f _ => hF f, h1⟩
theorem AnyY.two {F : Fence} {n : Nat} {P : Program} {md : Region.Mode} {ops : Array Oper} {Q : Exit → Act → World → Prop} {S : World → Prop} {X : Nat → Bool} {i j f : Nat} {o oj : Oper} {listed : Array Bool} {a : Act} {w : World} (hF : ∀ f, F.fn f) (hr : Region.ready md ops listed = [i, j]) (ho : ops[i]? = some o) (hoj : ops[j]? = some oj)
    (h : ∀ K : Act → World → Prop, (∀ a' w', (X i = false → S w') → AnyY F n P md ops Q S X f (listed.setIfInBounds i true) a' w' → K a' w') → if Region.wanted o (yielded ops a.tmps) = true then Oper.wpIn F n P o a w K Q else K (a.put o.dst undef) w)
    (h' : ∀ K : Act → World → Prop, (∀ a' w', (X j = false → S w') → AnyY F n P md ops Q S X f (listed.setIfInBounds j true) a' w' → K a' w') → if Region.wanted oj (yielded ops a.tmps) = true then Oper.wpIn F n P oj a w K Q else K (a.put oj.dst undef) w) :
    AnyY F n P md ops Q S X (f + 1) listed a w :=
  AnyY.of hF (by rw [hr]; rfl) fun k ok hk hok => by
    rw [hr] at hk
    have hk2 : k = i ∨ k = j := by simpa using hk
    rcases hk2 with rfl | rfl
    · rw [ho] at hok; cases hok; exact h
    · rw [hoj] at hok; cases hok; exact h'
theorem AnyY.three {F : Fence} {n : Nat} {P : Program} {md : Region.Mode} {ops : Array Oper} {Q : Exit → Act → World → Prop} {S : World → Prop} {X : Nat → Bool} {i j k f : Nat} {o oj ok : Oper} {listed : Array Bool} {a : Act} {w : World} (hF : ∀ f, F.fn f) (hr : Region.ready md ops listed = [i, j, k]) (ho : ops[i]? = some o) (hoj : ops[j]? = some oj) (hok : ops[k]? = some ok)
    (h : ∀ K : Act → World → Prop, (∀ a' w', (X i = false → S w') → AnyY F n P md ops Q S X f (listed.setIfInBounds i true) a' w' → K a' w') → if Region.wanted o (yielded ops a.tmps) = true then Oper.wpIn F n P o a w K Q else K (a.put o.dst undef) w)
    (h' : ∀ K : Act → World → Prop, (∀ a' w', (X j = false → S w') → AnyY F n P md ops Q S X f (listed.setIfInBounds j true) a' w' → K a' w') → if Region.wanted oj (yielded ops a.tmps) = true then Oper.wpIn F n P oj a w K Q else K (a.put oj.dst undef) w)
    (h'' : ∀ K : Act → World → Prop, (∀ a' w', (X k = false → S w') → AnyY F n P md ops Q S X f (listed.setIfInBounds k true) a' w' → K a' w') → if Region.wanted ok (yielded ops a.tmps) = true then Oper.wpIn F n P ok a w K Q else K (a.put ok.dst undef) w) :
    AnyY F n P md ops Q S X (f + 1) listed a w :=
  AnyY.of hF (by rw [hr]; rfl) fun m om hm hom => by
    rw [hr] at hm
    have hm2 : m = i ∨ m = j ∨ m = k := by simpa using hm
    rcases hm2 with rfl | rfl | rfl
    · rw [ho] at hom; cases hom; exact h
    · rw [hoj] at hom; cases hom; exact h'
    · rw [hok] at hom; cases hom; exact h''

theorem Tryd.zeroCfg : (Tryd.prog.info? 57).map (fun i => (i.zero, i.size, i.bytes)) = some (some (.agg #[.int .i64 0, .bool false]), 2, 16) := by kernel_rfl
theorem Tryd.zeroInt : (Tryd.prog.info? 3).map (fun i => (i.zero, i.size, i.bytes)) = some (some (.int .i64 0), 1, 8) := by kernel_rfl
theorem mk_regs (n : Int) (m : Nat) (hn : n = m) (hm : m ≤ 500) (W : World) : (Instr.makeSlice 28 (.int .i64 n) (.int .i64 n)).run Tryd.prog W = .ok (.slice (some ⟨W.heap.size, 0, none⟩) m m) (W.alloc (.cells (madeCells #[.int .i64 0, .bool false] (m * 2)) 57)) := by
  subst hn
  exact run_mk Tryd.underlying28 Tryd.zeroCfg .i64 .i64 (m : Int) m (by omega) (by omega) (by omega) (by omega) W
theorem mk_outs (n : Int) (m : Nat) (hn : n = m) (hm : m ≤ 500) (W : World) : (Instr.makeSlice 29 (.int .i64 n) (.int .i64 n)).run Tryd.prog W = .ok (.slice (some ⟨W.heap.size, 0, none⟩) m m) (W.alloc (.cells (madeCells #[.int .i64 0] m) 3)) := by
  subst hn
  have h := run_mk Tryd.underlying29 Tryd.zeroInt .i64 .i64 (m : Int) m (by omega) (by omega) (by omega) (by omega) W
  simpa [Value.cells] using h
theorem outs_made (w : World) (n : Nat) : Arr (w.alloc (.cells (madeCells #[.int .i64 0] n) 3)) w.heap.size 3 n (fun _ => .int .i64 0) :=
  ⟨_, heap_alloc_new w _, size_madeCells _ _, fun k hk => by rw [madeAt _ _ _ hk]; simp [Nat.mod_one]⟩
theorem Tryd.zeroCell : (Tryd.prog.info? 53).map (fun i => (i.zero, i.size, i.bytes)) = some (some (.agg #[.int .i64 0, .int .i64 0, .int .i64 0, .int .i64 0, .int .i64 0]), 5, 40) := by kernel_rfl
theorem mk_col (n : Int) (m : Nat) (hn : n = m) (hm : m ≤ 500) (W : World) : (Instr.makeSlice 50 (.int .i64 n) (.int .i64 n)).run Tryd.prog W = .ok (.slice (some ⟨W.heap.size, 0, none⟩) m m) (W.alloc (.cells (madeCells #[.int .i64 0, .int .i64 0, .int .i64 0, .int .i64 0, .int .i64 0] (m * 5)) 53)) := by
  subst hn
  exact run_mk Tryd.underlying50 Tryd.zeroCell .i64 .i64 (m : Int) m (by omega) (by omega) (by omega) (by omega) W
theorem elCol : Elem Tryd.prog 27 50 1 24 := elem_mk Tryd.underlying27 (z := .slice none 0 0) (by kernel_rfl) rfl (by omega) (by omega)
theorem run_append_col {w : World} {base n c : Nat} {A : Option Addr} {xs : List Value} (ty : TypeId) (hown : w.ownsRow base 50 1 (.slice A n c) n xs) (ad : Addr) (d : Nat) (v : Value) (hv : w.cell? (ad.add 0) = some v) (h1 : v.oneCell' = true) (hn : n ≤ 1000) (hbase : base ≤ w.heap.size) :
    ∃ A' c' w', (Builtin.append_ #[27, 27] ty #[.slice A n c, .slice (some ad) 1 d]).run Tryd.prog w = .ok (.slice A' (n + 1) c') w' ∧ w'.ownsRow base 50 1 (.slice A' (n + 1) c') (n + 1) (xs ++ [v]) ∧ Only (blockOf A) w w' := by
  obtain ⟨i, z, ht, hi, hz, hsz, hby, hzs, hpos, hbpos⟩ := elCol
  obtain ⟨v', w', hr, h2, h3, _, h5⟩ := run_append_own_at (P := Tryd.prog) w base 27 ty 50 i z 1 24 ht hi hz hsz hby hzs hpos (.slice A n c) n xs hown ad 1 d [v] rfl (fun j u hu => by
    rcases j with _ | j
    · simp at hu; subst hu; exact hv
    · simp at hu) (by simpa using h1) (by simp only [maxLen]; omega) (by omega) hbase
  obtain ⟨A', c', rfl, _⟩ := own_slice h2
  exact ⟨A', c', w', hr, h2, Only.grown h3⟩
/-- columns stand where a box that is none of them is written -/
theorem ColsZ.box {w w1 : World} {base n c R b : Nat} {A : Option Addr} {CB : Nat → Nat} {cur : Array Value} (h : ColsZ w base A n c R CB) (hk : Only (fun k => k = b) w w1) (hb : w.heap[b]? = some (.cells cur 31 (0, 0))) : ColsZ w1 base A n c R CB := by
  have hty := own_type (e' := 31) h.own (by decide)
  refine ⟨own_only h.own hk (fun k hb' e => hty b cur hb (e ▸ hb')), fun i hi => ⟨(h.rows i hi).1, ?_⟩, h.inj⟩
  obtain ⟨cur', hh, hc⟩ := (h.rows i hi).2
  refine Arr.only ⟨cur', hh, hc⟩ hk (fun e => ?_)
  have e : CB i = b := e
  rw [e, hb] at hh
  injection hh with hh; injection hh with _ h2; exact absurd h2 (by decide)
theorem Arr.box {w w1 : World} {b b' n : Nat} {e : TypeId} {V : Nat → Value} {cur : Array Value} (h : Arr w b' e n V) (hk : Only (fun k => k = b) w w1) (hb : w.heap[b]? = some (.cells cur 31 (0, 0))) (he : e ≠ 31) : Arr w1 b' e n V := by
  obtain ⟨cur', hh, hc⟩ := h
  refine Arr.only ⟨cur', hh, hc⟩ hk (fun e => ?_)
  have e : b' = b := e
  rw [e, hb] at hh
  injection hh with hh; injection hh with _ h2; exact absurd h2.symm he
theorem ColsZ.mono {w : World} {base base' n c R : Nat} {A : Option Addr} {CB : Nat → Nat} (h : ColsZ w base A n c R CB) (hb : base' ≤ base) : ColsZ w base' A n c R CB :=
  ⟨own_mono h.own hb, fun i hi => ⟨Nat.le_trans hb (h.rows i hi).1, (h.rows i hi).2⟩, h.inj⟩
/-- a column is made and laid on -/
theorem ColsZ.more {wr w2 w3 : World} {base i cC R bX : Nat} {AC A' : Option Addr} {c' : Nat} {CB : Nat → Nat} {s0 s1 s2 s3 s4 : Int} {vR vO : Value}
    (h : ColsZ wr base AC i cC R CB) (hX : wr.heap[bX]? = some (.cells #[.int .i64 s0, .int .i64 s1, .int .i64 s2, .int .i64 s3, .int .i64 s4, .slice AC i cC, vR, vO] 31)) (hb : Below wr.heap.size wr w2) (hB : Arr w2 wr.heap.size 53 (R * 5) (fun _ => .int .i64 0)) (hbase : base ≤ wr.heap.size)
    (ho : w3.ownsRow base 50 1 (.slice A' (i + 1) c') (i + 1) (((List.range i).map fun i => .slice (some ⟨CB i, 0, none⟩) R R) ++ [.slice (some ⟨wr.heap.size, 0, none⟩) R R])) (hk : Only (blockOf AC) w2 w3) :
    w3.heap[bX]? = some (.cells #[.int .i64 s0, .int .i64 s1, .int .i64 s2, .int .i64 s3, .int .i64 s4, .slice AC i cC, vR, vO] 31) ∧
    ColsZ (w3.setCell ⟨bX, 5, none⟩ (.slice A' (i + 1) c')) base A' (i + 1) c' R (fun k => if k = i then wr.heap.size else CB k) ∧
    (w3.setCell ⟨bX, 5, none⟩ (.slice A' (i + 1) c')).heap[bX]? = some (.cells #[.int .i64 s0, .int .i64 s1, .int .i64 s2, .int .i64 s3, .int .i64 s4, .slice A' (i + 1) c', vR, vO] 31) ∧
    Only (fun b => b = bX ∨ base ≤ b) wr (w3.setCell ⟨bX, 5, none⟩ (.slice A' (i + 1) c')) := by
  have hX2 := heap_below hb hX
  have h2 := h.below hb
  have hX3 : w3.heap[bX]? = _ := (hk.block bX (Array.getElem?_eq_some_iff.1 hX2).1 (own_type (e' := 31) h2.own (by decide) bX _ hX2)).trans hX2
  have hc := h.push hb ho hk hB hbase (Nat.le_refl _)
  have hO : Only (fun k => k = bX) w3 (w3.setCell ⟨bX, 5, none⟩ (.slice A' (i + 1) c')) := Only.setCell (p := ⟨bX, 5, none⟩) (Only.refl (fun k => k = bX) w3) (fun _ => rfl) _
  refine ⟨hX3, hc.box hO hX3, ?_, ?_⟩
  · rw [set1_heap0 hX3]; simp
  · refine (((Only.refl (fun b => b = bX ∨ base ≤ b) wr).call hb).then_ hk (fun k _ hb' => .inr (own_base h2.own k hb'))).then_ hO (fun k _ hb' => .inl hb')
/-- an append in a drawn region inside a fence -/
theorem wpIn_append1 {F : Fence} {n : Nat} {P : Program} {o : Oper} {a : Act} {w w' : World} {K : Act → World → Prop} {Q : Exit → Act → World → Prop} (hF : ∀ f, F.fn f) (s x : Operand) (t : TypeId)
    (ho : o.op = .call { callee := .builtin .append, args := #[s, x], argTypes := #[t, t] }) {v vs vx : Value} (hs : a.eval s = vs) (hx : a.eval x = vx)
    (hr : (Builtin.append_ #[t, t] o.type #[vs, vx]).run P w = .ok v w') (h : K (a.put o.dst v) w') : Oper.wpIn F n P o a w K Q := by
  unfold Oper.wpIn
  refine ⟨fun f _ => hF f, ?_⟩
  rw [Oper.semAt_eq F.round _ o (fun c e => by rw [ho] at e; cases e)]
  unfold execOp
  simp only [ho, resolve, invoke, builtin, Sem.run_bind, Sem.run_pure, Result.andThen_ok, List.map_toArray, List.map_cons, List.map_nil, hs, hx, hr]
  exact h
end Go.Proofs.YtbnjbclkmjjkhaaDoor
namespace Go.Proofs.YtbnjbclkmjjkhaaDoor
open Go.RowKit Go.Shelf Go.Deep

theorem blank_fits {l : List UInt8} {AC : Option Addr} {cC bR bO : Nat} {CB : Nat → Nat} (h : ShOk (shD l)) : (blankC l AC cC bR bO CB).Fits := by
  have h0 := h.s0; have h1 := h.s1; have h2 := h.s2; have h3 := h.s3; have h4 := h.s4
  have e1 : shD l 1 = (tkv l 48 16 : Nat) := rfl
  have e2 : shD l 2 = (tkv l 64 16 : Nat) := rfl
  have e3 : shD l 3 = (tkv l 80 16 : Nat) := rfl
  have e4 : shD l 4 = (tkv l 96 16 : Nat) := rfl
  refine ⟨?_, fun i _ => ?_, ?_, ?_, fun i hi => ?_⟩
  · show tkv l 96 16 ≤ _; omega
  · show tkv l 80 16 ≤ _; omega
  · show tkv l 64 16 ≤ _; omega
  · show tkv l 48 16 ≤ _; omega
  · show -9223372036854775808 ≤ shD l i ∧ shD l i ≤ 9223372036854775807
    obtain rfl | rfl | rfl | rfl | rfl : i = 0 ∨ i = 1 ∨ i = 2 ∨ i = 3 ∨ i = 4 := by omega
    all_goals omega
theorem blank_ptr {l : List UInt8} {AC : Option Addr} {cC bR bO : Nat} {CB : Nat → Nat} : (blankC l AC cC bR bO CB).Ptr :=
  ⟨fun i _ _ => ⟨CB i, 0, rfl⟩, fun _ => ⟨bR, 0, rfl⟩, fun _ => ⟨bO, 0, rfl⟩⟩
theorem blank_dims {l : List UInt8} {AC : Option Addr} {cC bR bO : Nat} {CB : Nat → Nat} (h : ShOk (shD l)) : (blankC l AC cC bR bO CB).Dims := lay_dims.2 (dec_dims l h)

/-- the loop over the fields begins -/
theorem dkJ0 {l : List UInt8} {A : Option Addr} {c n0 m na bX bR bO cC : Nat} {AC : Option Addr} {CB : Nat → Nat} {wb wr : World}
    (hL : Lay8 l A c n0 m 5 wb) (hO : Only (fun b => b = bX ∨ wb.heap.size ≤ b) wb wr)
    (hX : wr.heap[bX]? = some (.cells #[.int .i64 (shD (body l) 0), .int .i64 (shD (body l) 1), .int .i64 (shD (body l) 2), .int .i64 (shD (body l) 3), .int .i64 (shD (body l) 4), .slice AC (dec (body l)).nc cC, .slice (some ⟨bR, 0, none⟩) (dec (body l)).nr (dec (body l)).nr, .slice (some ⟨bO, 0, none⟩) (dec (body l)).no (dec (body l)).no] 31))
    (hC : ColsZ wr wb.heap.size AC (dec (body l)).nc cC (tkv (body l) 80 16) CB) (hR : Arr wb bR 57 ((dec (body l)).nr * 2) regZ) (hU : Arr wb bO 3 (dec (body l)).no (fun _ => .int .i64 0))
    (hRB : wb.heap[n0 + 1]? = some (.cells #[.int .i64 0, .int .i64 0, .int .i64 0, .int .i64 0, .int .i64 0, .slice none 0 0, .slice none 0 0, .slice none 0 0] 31)) (hFB : wb.heap[n0 + 1 + 1]? = some (.cells #[.int .i64 18, .int .i64 0] 41))
    (hXb : ∃ cur, wb.heap[bX]? = some (.cells cur 31 (0, 0))) (h1 : n0 + 1 + 1 + 1 ≤ m) (h2 : m + 1 + 1 + 1 < na) (h3 : na ≤ bX) (h4 : na ≤ bR) (h5 : na ≤ bO) (h6 : na ≤ wb.heap.size) (hM : ∀ b, blockOf A b → b < m) :
    DkJ l A c m (m + 1) n0 (m + 1 + 1) (n0 + 1) bX (blankC (body l) AC cC bR bO CB) n0 na [] wr ∧ DkB A m (m + 1) n0 (m + 1 + 1) (n0 + 1) n0 na ∧ (blankC (body l) AC cC bR bO CB).Apart ∧
    Row1 wr AC (dec (body l)).nc (fun i => .slice (some ⟨CB i, 0, none⟩) (tkv (body l) 80 16) (tkv (body l) 80 16)) := by
  have hlR := hR.lt; have hlO := hU.lt
  have hnR : bR ≠ bX := fun e => by
    obtain ⟨cur, hc, _⟩ := hR
    obtain ⟨cur', hX'⟩ := hXb
    rw [e, hX'] at hc
    injection hc with hc; injection hc with _ h; exact absurd h (by decide)
  have hnO : bO ≠ bX := fun e => by
    obtain ⟨cur, hc, _⟩ := hU
    obtain ⟨cur', hX'⟩ := hXb
    rw [e, hX'] at hc
    injection hc with hc; injection hc with _ h; exact absurd h (by decide)
  have gR := hR.only hO (by omega)
  have gO := hU.only hO (by omega)
  have hB : DkB A m (m + 1) n0 (m + 1 + 1) (n0 + 1) n0 na := ⟨by omega, by omega, fun h => by have := hM m h; omega, by omega, by omega, by omega, by omega, by omega, by omega, by omega, by omega, by omega, by omega, fun b hb => by have := hM b hb; omega⟩
  have hC' := hC.mono h6
  obtain ⟨hs, hw, hap⟩ := blank_slots (l := body l) hC' gR gO h4 h5
  have hrow : Row1 wr AC (dec (body l)).nc (fun i => .slice (some ⟨CB i, 0, none⟩) (tkv (body l) 80 16) (tkv (body l) 80 16)) := fun hn => by
    obtain ⟨b, off, e, hc⟩ := own_row1 hC.own hn
    refine ⟨b, off, e, fun k hk => ?_⟩
    rw [hc k hk]; simp [hk]
  refine ⟨⟨?_, ⟨_, hs, Cf.Got.nil _ _ _⟩, hw, ?_, ?_, ?_, ?_, ⟨fun j v e => ?_, fun i hi => ?_⟩⟩, hB, hap, hrow⟩
  · exact hL.take.only hO (by omega) (by omega) (by omega) (fun b hb e => by have := hM b hb; omega)
  · obtain ⟨cur, z, hc⟩ := hL.at_
    exact ⟨cur, z, (hO.block m (Array.getElem?_eq_some_iff.1 hc).1 (by omega)).trans hc⟩
  · exact hO.cell hL.fn (by show ¬ (m + 1 + 1 = bX ∨ wb.heap.size ≤ m + 1 + 1); omega)
  · exact (hO.block _ (Array.getElem?_eq_some_iff.1 hRB).1 (by omega)).trans hRB
  · exact (hO.block _ (Array.getElem?_eq_some_iff.1 hFB).1 (by omega)).trans hFB
  · refine ⟨?_, .inr ⟨_, _, _, .inl rfl, hX⟩⟩
    rw [cell_of_row wr bX j _ _ _ hX]
    simpa [Cf.cells, blankC, Cf.lay, show (dec (body l)).sh = shD (body l) from rfl] using e
  · obtain ⟨b, off, cur, e, hb, hh, hc⟩ := own_rowT hC.own (show 0 < (dec (body l)).nc from Nat.lt_of_le_of_lt (Nat.zero_le _) hi)
    refine ⟨b, off, e, ?_, .inr ⟨_, _, _, .inr (.inr (.inr rfl)), hh⟩⟩
    rw [cell_of_row wr b (off + i) _ _ _ hh]
    have := hc i hi 0 (by omega)
    simp only [Nat.mul_one, Nat.add_zero] at this
    rw [this]
    simp [show i < (dec (body l)).nc from hi]
    exact ⟨rfl, rfl, rfl⟩

/-- a field: where its slot lies, how wide it is -/
theorem Cf.fv_slot {c : Cf} (hp : c.Ptr) (hs : ShOk c.sh) (x : c.F) : ∃ b o, c.slot x.1 = some ⟨b, o, none⟩ ∧
    ((∃ m : Int, c.fv x.1 = .agg #[.pointer (some ⟨b, o, none⟩), .pointer none, .int .i64 m, .int .i64 (c.wf x.1 : Nat)] ∧ ∀ v, x.1.val v = .int .i64 v) ∨
     (c.fv x.1 = .agg #[.pointer none, .pointer (some ⟨b, o, none⟩), .int .i64 2, .int .i64 (c.wf x.1 : Nat)] ∧ ∀ v, x.1.val v = .bool (v == 1))) := by
  have hw : ∀ i, ((wid (c.src i)).toNat : Int) = wid (c.src i) := fun i => by
    have h1 := c.src_le hs i
    have h2 := wid_le (n := c.src i) (by omega) (by omega)
    omega
  obtain ⟨x, hx⟩ := x
  cases x with
  | bits i k =>
    obtain ⟨b, o, e⟩ := hp.col i hx.1 (by have := hx.2; omega)
    exact ⟨b, o + (k * 5 + 4), by simp [Cf.slot, e], .inl ⟨65536, by simp [Cf.fv, plus, e, Cf.wf], fun v => rfl⟩⟩
  | sel i k j =>
    obtain ⟨b, o, e⟩ := hp.col i hx.1.1 (by have := hx.1.2; omega)
    exact ⟨b, o + (k * 5 + j), by simp [Cf.slot, e], .inl ⟨c.src i, by simp only [Cf.wf, hw]; simp [Cf.fv, plus, e], fun v => rfl⟩⟩
  | init k =>
    obtain ⟨b, o, e⟩ := hp.reg (by have : k < c.nr := hx; omega)
    exact ⟨b, o + (k * 2 + 1), by simp [Cf.slot, e], .inr ⟨by simp [Cf.fv, plus, e, Cf.wf], fun v => rfl⟩⟩
  | rsel k =>
    obtain ⟨b, o, e⟩ := hp.reg (by have : k < c.nr := hx; omega)
    exact ⟨b, o + k * 2, by simp [Cf.slot, e], .inl ⟨c.src 1, by simp only [Cf.wf, hw]; simp [Cf.fv, plus, e], fun v => rfl⟩⟩
  | out k =>
    obtain ⟨b, o, e⟩ := hp.out (by have : k < c.no := hx; omega)
    exact ⟨b, o + k, by simp [Cf.slot, e], .inl ⟨c.src 1, by simp only [Cf.wf, hw]; simp [Cf.fv, plus, e], fun v => rfl⟩⟩
theorem Cf.part_bits {c : Cf} (h : c.Dims) {l : List Fi} (hl : l.length < c.flds.length) : 112 + c.wsum l ≤ 1000000000000 := by
  have h1 := c.wsum_le h.sh l
  have h2 := Cf.flds_len h
  omega
/-- no exit by a panic is asked for -/
def noPan (Q : Exit → Act → World → Prop) : Exit → Act → World → Prop
  | .panic _, _, _ => False
  | x, a, w => Q x a w
theorem noPan_out {Q : Exit → Act → World → Prop} {x : Exit} {a : Act} {w : World} (h : noPan Q x a w) : Q x a w := by
  cases x <;> first | exact h.elim | exact h
theorem wpIn_noPan {F : Fence} {n : Nat} {P : Program} {code : Code} {Q : Exit → Act → World → Prop} {a : Act} {w : World} (h : Code.wpIn F n P code (noPan Q) a w) : Code.wpIn F n P code Q a w := wpIn_mono h (fun _ _ _ => noPan_out)

theorem dk_at {l : List UInt8} {A AC : Option Addr} {c bA bE bB bF RB BX n0 n1 cC bR bO : Nat} {CB : Nat → Nat} {cf : Cf} {W : World} (hcf : cf = blankC (body l) AC cC bR bO CB) (h : DkJ l A c bA bE bB bF RB BX cf n0 n1 cf.flds W) : cf.At W := by
  subst hcf
  obtain ⟨ct, hs, hg⟩ := h.slot
  refine hs.at (got_dec hg) (fun hn => ?_) blank_ptr
  obtain ⟨b, off, e, _⟩ := h.hdr.cols 0 hn
  refine ⟨b, off, e, fun k hk => ?_⟩
  obtain ⟨b', off', e', hf⟩ := h.hdr.cols k hk
  rw [e] at e'; injection e' with e'; injection e' with e1 e2; subst e1 e2
  exact hf.1
theorem dk_bits {l : List UInt8} {AC : Option Addr} {cC bR bO : Nat} {CB : Nat → Nat} {cf : Cf} (hcf : cf = blankC (body l) AC cC bR bO CB) : 112 + cf.wsum cf.flds = bitsD (body l) := by
  subst hcf
  unfold bitsD
  rw [wsum_congr (c := blankC (body l) AC cC bR bO CB) (d := decH (body l)) rfl, flds_congr (c := blankC (body l) AC cC bR bO CB) (d := decH (body l)) rfl rfl rfl rfl]
theorem dk_ok {l : List UInt8} {AC : Option Addr} {cC bR bO : Nat} {CB : Nat → Nat} {cf : Cf} (hcf : cf = blankC (body l) AC cC bR bO CB) : (cf.Ok ↔ (dec (body l)).Ok) ∧ cf.text = (dec (body l)).text := by
  subst hcf
  exact ⟨lay_ok, lay_text⟩
/-- the results' box and the fault's, behind the deferred calls' block -/
theorem put_row {W : World} {D b : Nat} {x : Option (List Deferred)} {cur : Array Value} {t : TypeId} {z : Nat × Nat} (hK : W.heap[D]? = some (.deferred x)) (h : W.heap[b]? = some (.cells cur t z)) (o : Obj) : (W.putObj D o).heap[b]? = some (.cells cur t z) :=
  (World.putObj_heap_other (fun e => by rw [e, hK] at h; cases h)).trans h
theorem told_no2 {l : List UInt8} {w V : World} {R : Prop} (h : ¬ GoodB l) (hF : V.heap[w.heap.size + 1 + 1]? = some (.cells #[.int .i64 18, .int .i64 0] 41)) (hb : Below w.heap.size w V) :
    (R ∨ (¬ GoodB l ∧ ∃ b, Ending.returned (.tuple #[cfgZero, .iface 63 (.pointer (some ⟨w.heap.size + 1 + 1, 0, none⟩))]) = .returned (.tuple #[cfgZero, .iface 63 (.pointer (some ⟨b, 0, none⟩))]) ∧ V.cell? ⟨b, 0, none⟩ = some (.int .i64 18) ∧ V.cell? ⟨b, 1, none⟩ = some (.int .i64 0))) ∧
      Below w.heap.size w V :=
  ⟨.inr ⟨h, _, rfl, by rw [cell_of_row V (w.heap.size + 1 + 1) 0 _ _ _ hF]; rfl, by rw [cell_of_row V (w.heap.size + 1 + 1) 1 _ _ _ hF]; rfl⟩, hb⟩
theorem Cf.At.put {c : Cf} {W : World} {D : Nat} {x : Option (List Deferred)} (h : c.At W) (hK : W.heap[D]? = some (.deferred x)) (o : Obj) : c.At (W.putObj D o) := by
  refine h.keeps (fun a v hv => ?_)
  obtain ⟨ob, ho, hc⟩ := cells_of_cell hv
  refine (World.cell?_of_block (World.putObj_heap_other (fun e => ?_))).trans hv
  rw [e, hK] at ho; cases ho; cases hc
/-- a configuration stands where a box that it does not hold is written -/
theorem Cf.At.apart {cf : Cf} {n1 RB : Nat} {W W0 W1 : World} (h : cf.At W) (hAC : ∀ k, blockOf cf.AC k → RB < k) (hOw : cf.Own n1 W0) (hRB : RB < n1) (ho : Only (fun k => k = RB) W W1) : cf.At W1 := by
  refine ⟨fun hn => ?_, fun i hi hn => ?_, fun hn => ?_, fun hn => ?_⟩
  · obtain ⟨b, off, e, hc⟩ := h.cols hn
    exact ⟨b, off, e, fun k hk => ho.cell (hc k hk) (fun e2 => by have := hAC b ⟨_, e, rfl⟩; have e2 : b = RB := e2; omega)⟩
  · obtain ⟨b, off, e, hc⟩ := h.cells i hi hn
    obtain ⟨b', o', _, _, _, hs, hb, _⟩ := hOw.at_ (.bits i 0) ⟨hi, hn⟩
    rw [Cf.slot, e] at hs
    injection hs with hs; injection hs with e1 _
    exact ⟨b, off, e, fun k hk j hj => ho.cell (hc k hk j hj) (fun e2 => by have e2 : b = RB := e2; have e1 : b = b' := e1; omega)⟩
  · obtain ⟨b, off, e, hc⟩ := h.regs hn
    obtain ⟨b', o', _, _, _, hs, hb, _⟩ := hOw.at_ (.init 0) hn
    rw [Cf.slot, e] at hs
    injection hs with hs; injection hs with e1 _
    exact ⟨b, off, e, fun k hk j hj => ho.cell (hc k hk j hj) (fun e2 => by have e2 : b = RB := e2; have e1 : b = b' := e1; omega)⟩
  · obtain ⟨b, off, e, hc⟩ := h.outs hn
    obtain ⟨b', o', _, _, _, hs, hb, _⟩ := hOw.at_ (.out 0) hn
    rw [Cf.slot, e] at hs
    injection hs with hs; injection hs with e1 _
    exact ⟨b, off, e, fun k hk => ho.cell (hc k hk) (fun e2 => by have e2 : b = RB := e2; have e1 : b = b' := e1; omega)⟩
end Go.Proofs.YtbnjbclkmjjkhaaDoor
