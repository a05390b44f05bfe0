/- For stream.Decode: its boxes as they are laid; the five numbers of the shape. No condition. -/
import Derived.Test.YtbnjbclkmjjkhaaDoorDkC
import Derived.Test.YtbnjbclkmjjkhaaDoorDkV
namespace Go.Proofs.YtbnjbclkmjjkhaaDoor
open Go.RowKit Go.Shelf Go.Deep

/-- the shape's box, k numbers read -/
def shW (l : List UInt8) (k j : Nat) : Value := if j < k then .int .i64 (shD l j) else .int .i64 0
/-- what stands in the loop over the shape's numbers -/
structure Lay8 (l : List UInt8) (A : Option Addr) (c n0 m k : Nat) (W : World) : Prop where
  take : TakeAt l A c m (m + 1) n0 W (32 + 16 * k)
  at_ : ∃ cur z, W.heap[m]? = some (Obj.cells cur 3 z)
  fn : W.cell? ⟨m + 1 + 1, 0, none⟩ = some (.func (.func 23) #[] #[.pointer (some ⟨m, 0, none⟩), .pointer (some ⟨m + 1, 0, none⟩), .pointer (some ⟨n0, 0, none⟩)])
  sh : Arr W (m + 1 + 1 + 1) 26 5 (shW (body l) k)
theorem lay8 {l : List UInt8} {A : Option Addr} {c n0 : Nat} {w : World} (hM : Mem w A l) (hb : w.cell? ⟨n0, 0, none⟩ = some (.slice A l.length c)) :
    Lay8 l A c n0 w.heap.size 0 ((((w.alloc (.cells #[.int .i64 32] 3)).alloc (.cells #[.int .i64 (8 * ((l.length - 4 : Nat) : Int))] 3)).alloc (.cells #[.func (.func 23) #[] #[.pointer (some ⟨w.heap.size, 0, none⟩), .pointer (some ⟨w.heap.size + 1, 0, none⟩), .pointer (some ⟨n0, 0, none⟩)]] 54)).alloc (.cells #[.int .i64 0, .int .i64 0, .int .i64 0, .int .i64 0, .int .i64 0] 26)) ∧
    Below w.heap.size w ((((w.alloc (.cells #[.int .i64 32] 3)).alloc (.cells #[.int .i64 (8 * ((l.length - 4 : Nat) : Int))] 3)).alloc (.cells #[.func (.func 23) #[] #[.pointer (some ⟨w.heap.size, 0, none⟩), .pointer (some ⟨w.heap.size + 1, 0, none⟩), .pointer (some ⟨n0, 0, none⟩)]] 54)).alloc (.cells #[.int .i64 0, .int .i64 0, .int .i64 0, .int .i64 0, .int .i64 0] 26)) ∧
    ((((w.alloc (.cells #[.int .i64 32] 3)).alloc (.cells #[.int .i64 (8 * ((l.length - 4 : Nat) : Int))] 3)).alloc (.cells #[.func (.func 23) #[] #[.pointer (some ⟨w.heap.size, 0, none⟩), .pointer (some ⟨w.heap.size + 1, 0, none⟩), .pointer (some ⟨n0, 0, none⟩)]] 54)).alloc (.cells #[.int .i64 0, .int .i64 0, .int .i64 0, .int .i64 0, .int .i64 0] 26)).heap.size = w.heap.size + 4 := by
  have h0 := heap_alloc_new w (.cells #[.int .i64 32] 3)
  have b0 : Below w.heap.size w (w.alloc (.cells #[.int .i64 32] 3)) := (Below.refl _ _).alloc (Nat.le_refl _) _
  have z0 : (w.alloc (.cells #[.int .i64 32] 3)).heap.size = w.heap.size + 1 := by simp
  generalize w.alloc (.cells #[.int .i64 32] 3) = w1 at *
  have h1 := heap_alloc_new w1 (.cells #[.int .i64 (8 * ((l.length - 4 : Nat) : Int))] 3)
  have b1 : Below w1.heap.size w1 (w1.alloc (.cells #[.int .i64 (8 * ((l.length - 4 : Nat) : Int))] 3)) := (Below.refl _ _).alloc (Nat.le_refl _) _
  have z1 : (w1.alloc (.cells #[.int .i64 (8 * ((l.length - 4 : Nat) : Int))] 3)).heap.size = w.heap.size + 1 + 1 := by simp [z0]
  generalize w1.alloc (.cells #[.int .i64 (8 * ((l.length - 4 : Nat) : Int))] 3) = w2 at *
  generalize hf : Value.func (.func 23) #[] #[.pointer (some ⟨w.heap.size, 0, none⟩), .pointer (some ⟨w.heap.size + 1, 0, none⟩), .pointer (some ⟨n0, 0, none⟩)] = fv
  have h2 := heap_alloc_new w2 (.cells #[fv] 54)
  have b2 : Below w2.heap.size w2 (w2.alloc (.cells #[fv] 54)) := (Below.refl _ _).alloc (Nat.le_refl _) _
  have z2 : (w2.alloc (.cells #[fv] 54)).heap.size = w.heap.size + 1 + 1 + 1 := by simp [z1]
  generalize w2.alloc (.cells #[fv] 54) = w3 at *
  have h3 := heap_alloc_new w3 (.cells #[.int .i64 0, .int .i64 0, .int .i64 0, .int .i64 0, .int .i64 0] 26)
  have b3 : Below w3.heap.size w3 (w3.alloc (.cells #[.int .i64 0, .int .i64 0, .int .i64 0, .int .i64 0, .int .i64 0] 26)) := (Below.refl _ _).alloc (Nat.le_refl _) _
  have z3 : (w3.alloc (.cells #[.int .i64 0, .int .i64 0, .int .i64 0, .int .i64 0, .int .i64 0] 26)).heap.size = w.heap.size + 4 := by simp [z2]
  generalize w3.alloc (.cells #[.int .i64 0, .int .i64 0, .int .i64 0, .int .i64 0, .int .i64 0] 26) = w4 at *
  have bb : Below w.heap.size w w4 := ((b0.trans (b1.mono (by omega))).trans (b2.mono (by omega))).trans (b3.mono (by omega))
  rw [z2] at h3; rw [z1] at h2; rw [z0] at h1
  have g2 := heap_below b3 h2
  have g1 := heap_below b3 (heap_below b2 h1)
  have g0 := heap_below b3 (heap_below b2 (heap_below b1 h0))
  refine ⟨⟨⟨?_, ?_, ?_, (Keeps.of_below bb) _ _ hb, hM.keeps (Keeps.of_below bb)⟩, ⟨_, _, g0⟩, ?_, ⟨_, h3, rfl, fun k hk => ?_⟩⟩, bb, z3⟩
  · rw [cell_of_row w4 _ 0 _ _ _ g0]; rfl
  · simp [World.frozen?, g0]
  · rw [cell_of_row w4 _ 0 _ _ _ g1]; simp
  · rw [cell_of_row w4 _ 0 _ _ _ g2, hf]; rfl
  · obtain rfl | rfl | rfl | rfl | rfl : k = 0 ∨ k = 1 ∨ k = 2 ∨ k = 3 ∨ k = 4 := by omega
    all_goals rfl
/-- a number of the shape is read and stored -/
theorem Lay8.next {l : List UInt8} {A : Option Addr} {c n0 m k : Nat} {W W1 : World} (h : Lay8 l A c n0 m k W) (hn : n0 < m) (hM : ∀ b, blockOf A b → b < m) (hT : TakeAt l A c m (m + 1) n0 W1 (32 + 16 * k + 16)) (hO : Typ m W W1) (hk : k < 5) :
    (∃ v, W1.cell? ⟨m + 1 + 1 + 1, k, none⟩ = some v) ∧ W1.frozen? ⟨m + 1 + 1 + 1, k, none⟩ = false ∧ Lay8 l A c n0 m (k + 1) (W1.setCell ⟨m + 1 + 1 + 1, k, none⟩ (.int .i64 (tkv (body l) (32 + 16 * k) 16))) := by
  have ha := h.sh.only hO.only (by omega)
  have hO2 : Only (fun b => b = m + 1 + 1 + 1) W1 (W1.setCell ⟨m + 1 + 1 + 1, k, none⟩ (.int .i64 (tkv (body l) (32 + 16 * k) 16))) := Only.setCell (p := ⟨m + 1 + 1 + 1, k, none⟩) (Only.refl (fun b => b = m + 1 + 1 + 1) W1) (fun _ => rfl) _
  obtain ⟨cur, z, hc⟩ := h.at_
  obtain ⟨cur', hc'⟩ := hO.typ _ _ _ hc
  refine ⟨⟨_, ha.cell hk⟩, ha.thaw k, ⟨?_, ⟨cur', z, (hO2.block m (Array.getElem?_eq_some_iff.1 hc').1 (by omega)).trans hc'⟩, ?_, ha.set (fun j hj hne => ?_) ?_⟩⟩
  · rw [show 32 + 16 * (k + 1) = 32 + 16 * k + 16 by omega]
    exact hT.only hO2 (by omega) (by omega) (by omega) (fun b hb e => by have := hM b hb; omega)
  · exact hO2.cell (hO.only.cell h.fn (by simp; omega)) (by simp)
  · unfold shW
    by_cases h1 : j < k
    · rw [if_pos h1, if_pos (by omega)]
    · rw [if_neg h1, if_neg (by omega)]
  · unfold shW shD
    rw [if_pos (by omega)]
theorem Lay8.below {l : List UInt8} {A : Option Addr} {c n0 m k : Nat} {W W1 : World} (h : Lay8 l A c n0 m k W) (hb : Below W.heap.size W W1) : Lay8 l A c n0 m k W1 := by
  obtain ⟨cur, z, hc⟩ := h.at_
  exact ⟨h.take.grown (row := none) ⟨hb.os, hb.tape, hb.output, hb.size, fun k hk _ => hb.block k hk⟩ (fun r e => by cases e), ⟨cur, z, heap_below hb hc⟩, (Keeps.of_below hb) _ _ h.fn, h.sh.below hb⟩
theorem ptr_index (S k : Nat) (w : World) (hk : k < 5) : (Instr.index 67 (.agg #[.pointer (some ⟨S, 0, none⟩), .pointer (some ⟨S, 1, none⟩), .pointer (some ⟨S, 2, none⟩), .pointer (some ⟨S, 3, none⟩), .pointer (some ⟨S, 4, none⟩)]) (.int .i64 k)).run Tryd.prog w = .ok (.pointer (some ⟨S, k, none⟩)) w := by
  obtain rfl | rfl | rfl | rfl | rfl : k = 0 ∨ k = 1 ∨ k = 2 ∨ k = 3 ∨ k = 4 := by omega
  all_goals simp [Instr.index, run_underlying Tryd.underlying67, asIntOf, go_sem]
theorem mem_block {w : World} {A : Option Addr} {l : List UInt8} (h : Mem w A l) (h0 : 0 < l.length) : ∀ b, blockOf A b → b < w.heap.size := fun b hb => by
  obtain ⟨b', o, e, hc⟩ := h h0
  obtain ⟨a, ea, rfl⟩ := hb
  rw [e] at ea; injection ea with ea; subst ea
  exact World.block_lt_of_cell? w _ (hc 0 h0)
/-- any of those that may come up now -/
theorem AnyY.of {F : Fence} {n : Nat} {P : Program} {md : Region.Mode} {ops : Array Oper} {Q : Exit → Act → World → Prop} {S : World → Prop} {X : Nat → Bool} {f : Nat} {listed : Array Bool} {a : Act} {w : World} (hF : ∀ f, F.fn f) (hr : (Region.ready md ops listed).isEmpty = false)
    (h : ∀ i o, i ∈ Region.ready md ops listed → ops[i]? = some o → ∀ K : Act → World → Prop, (∀ a' w', (X i = false → S w') → AnyY F n P md ops Q S X f (listed.setIfInBounds i true) a' w' → K a' w') → if Region.wanted o (yielded ops a.tmps) = true then Oper.wpIn F n P o a w K Q else K (a.put o.dst undef) w) :
    AnyY F n P md ops Q S X (f + 1) listed a w := by
  refine ⟨fun h0 => (by rw [h0] at hr; cases hr), fun j hj => ?_⟩
  obtain ⟨_, o, ho, _⟩ := mem_ready.1 hj
  have h1 := h j o hj ho (fun a' w' => (X j = false → S w') ∧ AnyY F n P md ops Q S X f (listed.setIfInBounds j true) a' w') (fun a' w' h1 h2 => ⟨h1, h2⟩)
  unfold wpOpIn
  simp only [ho]
  by_cases hw : Region.wanted o (yielded ops a.tmps) = true
  · rw [if_pos hw] at h1 ⊢
    exact h1
  · rw [if_neg hw] at h1 ⊢
    exact ⟨fun f _ => hF f, h1⟩
theorem AnyY.two {F : Fence} {n : Nat} {P : Program} {md : Region.Mode} {ops : Array Oper} {Q : Exit → Act → World → Prop} {S : World → Prop} {X : Nat → Bool} {i j f : Nat} {o oj : Oper} {listed : Array Bool} {a : Act} {w : World} (hF : ∀ f, F.fn f) (hr : Region.ready md ops listed = [i, j]) (ho : ops[i]? = some o) (hoj : ops[j]? = some oj)
    (h : ∀ K : Act → World → Prop, (∀ a' w', (X i = false → S w') → AnyY F n P md ops Q S X f (listed.setIfInBounds i true) a' w' → K a' w') → if Region.wanted o (yielded ops a.tmps) = true then Oper.wpIn F n P o a w K Q else K (a.put o.dst undef) w)
    (h' : ∀ K : Act → World → Prop, (∀ a' w', (X j = false → S w') → AnyY F n P md ops Q S X f (listed.setIfInBounds j true) a' w' → K a' w') → if Region.wanted oj (yielded ops a.tmps) = true then Oper.wpIn F n P oj a w K Q else K (a.put oj.dst undef) w) :
    AnyY F n P md ops Q S X (f + 1) listed a w :=
  AnyY.of hF (by rw [hr]; rfl) fun k ok hk hok => by
    rw [hr] at hk
    have hk2 : k = i ∨ k = j := by simpa using hk
    rcases hk2 with rfl | rfl
    · rw [ho] at hok; cases hok; exact h
    · rw [hoj] at hok; cases hok; exact h'
theorem AnyY.three {F : Fence} {n : Nat} {P : Program} {md : Region.Mode} {ops : Array Oper} {Q : Exit → Act → World → Prop} {S : World → Prop} {X : Nat → Bool} {i j k f : Nat} {o oj ok : Oper} {listed : Array Bool} {a : Act} {w : World} (hF : ∀ f, F.fn f) (hr : Region.ready md ops listed = [i, j, k]) (ho : ops[i]? = some o) (hoj : ops[j]? = some oj) (hok : ops[k]? = some ok)
    (h : ∀ K : Act → World → Prop, (∀ a' w', (X i = false → S w') → AnyY F n P md ops Q S X f (listed.setIfInBounds i true) a' w' → K a' w') → if Region.wanted o (yielded ops a.tmps) = true then Oper.wpIn F n P o a w K Q else K (a.put o.dst undef) w)
    (h' : ∀ K : Act → World → Prop, (∀ a' w', (X j = false → S w') → AnyY F n P md ops Q S X f (listed.setIfInBounds j true) a' w' → K a' w') → if Region.wanted oj (yielded ops a.tmps) = true then Oper.wpIn F n P oj a w K Q else K (a.put oj.dst undef) w)
    (h'' : ∀ K : Act → World → Prop, (∀ a' w', (X k = false → S w') → AnyY F n P md ops Q S X f (listed.setIfInBounds k true) a' w' → K a' w') → if Region.wanted ok (yielded ops a.tmps) = true then Oper.wpIn F n P ok a w K Q else K (a.put ok.dst undef) w) :
    AnyY F n P md ops Q S X (f + 1) listed a w :=
  AnyY.of hF (by rw [hr]; rfl) fun m om hm hom => by
    rw [hr] at hm
    have hm2 : m = i ∨ m = j ∨ m = k := by simpa using hm
    rcases hm2 with rfl | rfl | rfl
    · rw [ho] at hom; cases hom; exact h
    · rw [hoj] at hom; cases hom; exact h'
    · rw [hok] at hom; cases hom; exact h''

theorem Tryd.zeroCfg : (Tryd.prog.info? 57).map (fun i => (i.zero, i.size, i.bytes)) = some (some (.agg #[.int .i64 0, .bool false]), 2, 16) := by kernel_rfl
theorem Tryd.zeroInt : (Tryd.prog.info? 3).map (fun i => (i.zero, i.size, i.bytes)) = some (some (.int .i64 0), 1, 8) := by kernel_rfl
theorem mk_regs (n : Int) (m : Nat) (hn : n = m) (hm : m ≤ 500) (W : World) : (Instr.makeSlice 28 (.int .i64 n) (.int .i64 n)).run Tryd.prog W = .ok (.slice (some ⟨W.heap.size, 0, none⟩) m m) (W.alloc (.cells (madeCells #[.int .i64 0, .bool false] (m * 2)) 57)) := by
  subst hn
  exact run_mk Tryd.underlying28 Tryd.zeroCfg .i64 .i64 (m : Int) m (by omega) (by omega) (by omega) (by omega) W
theorem mk_outs (n : Int) (m : Nat) (hn : n = m) (hm : m ≤ 500) (W : World) : (Instr.makeSlice 29 (.int .i64 n) (.int .i64 n)).run Tryd.prog W = .ok (.slice (some ⟨W.heap.size, 0, none⟩) m m) (W.alloc (.cells (madeCells #[.int .i64 0] m) 3)) := by
  subst hn
  have h := run_mk Tryd.underlying29 Tryd.zeroInt .i64 .i64 (m : Int) m (by omega) (by omega) (by omega) (by omega) W
  simpa [Value.cells] using h
theorem outs_made (w : World) (n : Nat) : Arr (w.alloc (.cells (madeCells #[.int .i64 0] n) 3)) w.heap.size 3 n (fun _ => .int .i64 0) :=
  ⟨_, heap_alloc_new w _, size_madeCells _ _, fun k hk => by rw [madeAt _ _ _ hk]; simp [Nat.mod_one]⟩
theorem Tryd.zeroCell : (Tryd.prog.info? 53).map (fun i => (i.zero, i.size, i.bytes)) = some (some (.agg #[.int .i64 0, .int .i64 0, .int .i64 0, .int .i64 0, .int .i64 0]), 5, 40) := by kernel_rfl
theorem mk_col (n : Int) (m : Nat) (hn : n = m) (hm : m ≤ 500) (W : World) : (Instr.makeSlice 50 (.int .i64 n) (.int .i64 n)).run Tryd.prog W = .ok (.slice (some ⟨W.heap.size, 0, none⟩) m m) (W.alloc (.cells (madeCells #[.int .i64 0, .int .i64 0, .int .i64 0, .int .i64 0, .int .i64 0] (m * 5)) 53)) := by
  subst hn
  exact run_mk Tryd.underlying50 Tryd.zeroCell .i64 .i64 (m : Int) m (by omega) (by omega) (by omega) (by omega) W
theorem elCol : Elem Tryd.prog 27 50 1 24 := elem_mk Tryd.underlying27 (z := .slice none 0 0) (by kernel_rfl) rfl (by omega) (by omega)
theorem run_append_col {w : World} {base n c : Nat} {A : Option Addr} {xs : List Value} (ty : TypeId) (hown : w.ownsRow base 50 1 (.slice A n c) n xs) (ad : Addr) (d : Nat) (v : Value) (hv : w.cell? (ad.add 0) = some v) (h1 : v.oneCell' = true) (hn : n ≤ 1000) (hbase : base ≤ w.heap.size) :
    ∃ A' c' w', (Builtin.append_ #[27, 27] ty #[.slice A n c, .slice (some ad) 1 d]).run Tryd.prog w = .ok (.slice A' (n + 1) c') w' ∧ w'.ownsRow base 50 1 (.slice A' (n + 1) c') (n + 1) (xs ++ [v]) ∧ Only (blockOf A) w w' := by
  obtain ⟨i, z, ht, hi, hz, hsz, hby, hzs, hpos, hbpos⟩ := elCol
  obtain ⟨v', w', hr, h2, h3, _, h5⟩ := run_append_own_at (P := Tryd.prog) w base 27 ty 50 i z 1 24 ht hi hz hsz hby hzs hpos (.slice A n c) n xs hown ad 1 d [v] rfl (fun j u hu => by
    rcases j with _ | j
    · simp at hu; subst hu; exact hv
    · simp at hu) (by simpa using h1) (by simp only [maxLen]; omega) (by omega) hbase
  obtain ⟨A', c', rfl, _⟩ := own_slice h2
  exact ⟨A', c', w', hr, h2, Only.grown h3⟩
/-- columns stand where a box that is none of them is written -/
theorem ColsZ.box {w w1 : World} {base n c R b : Nat} {A : Option Addr} {CB : Nat → Nat} {cur : Array Value} (h : ColsZ w base A n c R CB) (hk : Only (fun k => k = b) w w1) (hb : w.heap[b]? = some (.cells cur 31 (0, 0))) : ColsZ w1 base A n c R CB := by
  have hty := own_type (e' := 31) h.own (by decide)
  refine ⟨own_only h.own hk (fun k hb' e => hty b cur hb (e ▸ hb')), fun i hi => ⟨(h.rows i hi).1, ?_⟩, h.inj⟩
  obtain ⟨cur', hh, hc⟩ := (h.rows i hi).2
  refine Arr.only ⟨cur', hh, hc⟩ hk (fun e => ?_)
  have e : CB i = b := e
  rw [e, hb] at hh
  injection hh with hh; injection hh with _ h2; exact absurd h2 (by decide)
theorem Arr.box {w w1 : World} {b b' n : Nat} {e : TypeId} {V : Nat → Value} {cur : Array Value} (h : Arr w b' e n V) (hk : Only (fun k => k = b) w w1) (hb : w.heap[b]? = some (.cells cur 31 (0, 0))) (he : e ≠ 31) : Arr w1 b' e n V := by
  obtain ⟨cur', hh, hc⟩ := h
  refine Arr.only ⟨cur', hh, hc⟩ hk (fun e => ?_)
  have e : b' = b := e
  rw [e, hb] at hh
  injection hh with hh; injection hh with _ h2; exact absurd h2.symm he
theorem ColsZ.mono {w : World} {base base' n c R : Nat} {A : Option Addr} {CB : Nat → Nat} (h : ColsZ w base A n c R CB) (hb : base' ≤ base) : ColsZ w base' A n c R CB :=
  ⟨own_mono h.own hb, fun i hi => ⟨Nat.le_trans hb (h.rows i hi).1, (h.rows i hi).2⟩, h.inj⟩
/-- a column is made and laid on -/
theorem ColsZ.more {wr w2 w3 : World} {base i cC R bX : Nat} {AC A' : Option Addr} {c' : Nat} {CB : Nat → Nat} {s0 s1 s2 s3 s4 : Int} {vR vO : Value}
    (h : ColsZ wr base AC i cC R CB) (hX : wr.heap[bX]? = some (.cells #[.int .i64 s0, .int .i64 s1, .int .i64 s2, .int .i64 s3, .int .i64 s4, .slice AC i cC, vR, vO] 31)) (hb : Below wr.heap.size wr w2) (hB : Arr w2 wr.heap.size 53 (R * 5) (fun _ => .int .i64 0)) (hbase : base ≤ wr.heap.size)
    (ho : w3.ownsRow base 50 1 (.slice A' (i + 1) c') (i + 1) (((List.range i).map fun i => .slice (some ⟨CB i, 0, none⟩) R R) ++ [.slice (some ⟨wr.heap.size, 0, none⟩) R R])) (hk : Only (blockOf AC) w2 w3) :
    w3.heap[bX]? = some (.cells #[.int .i64 s0, .int .i64 s1, .int .i64 s2, .int .i64 s3, .int .i64 s4, .slice AC i cC, vR, vO] 31) ∧
    ColsZ (w3.setCell ⟨bX, 5, none⟩ (.slice A' (i + 1) c')) base A' (i + 1) c' R (fun k => if k = i then wr.heap.size else CB k) ∧
    (w3.setCell ⟨bX, 5, none⟩ (.slice A' (i + 1) c')).heap[bX]? = some (.cells #[.int .i64 s0, .int .i64 s1, .int .i64 s2, .int .i64 s3, .int .i64 s4, .slice A' (i + 1) c', vR, vO] 31) ∧
    Only (fun b => b = bX ∨ base ≤ b) wr (w3.setCell ⟨bX, 5, none⟩ (.slice A' (i + 1) c')) := by
  have hX2 := heap_below hb hX
  have h2 := h.below hb
  have hX3 : w3.heap[bX]? = _ := (hk.block bX (Array.getElem?_eq_some_iff.1 hX2).1 (own_type (e' := 31) h2.own (by decide) bX _ hX2)).trans hX2
  have hc := h.push hb ho hk hB hbase (Nat.le_refl _)
  have hO : Only (fun k => k = bX) w3 (w3.setCell ⟨bX, 5, none⟩ (.slice A' (i + 1) c')) := Only.setCell (p := ⟨bX, 5, none⟩) (Only.refl (fun k => k = bX) w3) (fun _ => rfl) _
  refine ⟨hX3, hc.box hO hX3, ?_, ?_⟩
  · rw [set1_heap0 hX3]; simp
  · refine (((Only.refl (fun b => b = bX ∨ base ≤ b) wr).call hb).then_ hk (fun k _ hb' => .inr (own_base h2.own k hb'))).then_ hO (fun k _ hb' => .inl hb')
/-- an append in a drawn region inside a fence -/
theorem wpIn_append1 {F : Fence} {n : Nat} {P : Program} {o : Oper} {a : Act} {w w' : World} {K : Act → World → Prop} {Q : Exit → Act → World → Prop} (hF : ∀ f, F.fn f) (s x : Operand) (t : TypeId)
    (ho : o.op = .call { callee := .builtin .append, args := #[s, x], argTypes := #[t, t] }) {v vs vx : Value} (hs : a.eval s = vs) (hx : a.eval x = vx)
    (hr : (Builtin.append_ #[t, t] o.type #[vs, vx]).run P w = .ok v w') (h : K (a.put o.dst v) w') : Oper.wpIn F n P o a w K Q := by
  unfold Oper.wpIn
  refine ⟨fun f _ => hF f, ?_⟩
  rw [Oper.semAt_eq F.round _ o (fun c e => by rw [ho] at e; cases e)]
  unfold execOp
  simp only [ho, resolve, invoke, builtin, Sem.run_bind, Sem.run_pure, Result.andThen_ok, List.map_toArray, List.map_cons, List.map_nil, hs, hx, hr]
  exact h
end Go.Proofs.YtbnjbclkmjjkhaaDoor
