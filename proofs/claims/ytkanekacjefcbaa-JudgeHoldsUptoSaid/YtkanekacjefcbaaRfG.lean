/- The map of which clauses have a literal, in memory: what is read, what is stored, what it outlives. No condition. -/
import Derived.Test.YtkanekacjefcbaaRfM
import Derived.Test.YtkanekacjefcbaaStep
namespace Go.Proofs.Ytkanekacjefcbaa
open Go.RowKit Go.Maps Go.ChangeShapes Go.WideElems

structure Grp (w : World) (bm base m : Nat) (D : DataW Unit) (N : Nat) (G : Nat → Int → Prop) (No : Nat → Prop) : Prop where
  own : w.ownsGroups Try.prog 3 base 3 .i64 bm m D
  into : Into D N G
  shun : w.Shuns bm No
section
variable {w w1 : World} {bm base m N : Nat} {D : DataW Unit} {G : Nat → Int → Prop} {No : Nat → Prop}
theorem Grp.lt (h : Grp w bm base m D N G No) : bm < w.heap.size ∧ bm < base := by
  obtain ⟨es, clock, hb, _, _, _, hbb, _⟩ := h.own
  exact ⟨(Array.getElem?_eq_some_iff.1 hb).1, hbb⟩
theorem Grp.notCells (h : Grp w bm base m D N G No) : ∀ cur e, w.heap[bm]? ≠ some (.cells cur e (0, 0)) := by
  obtain ⟨es, clock, hb, _⟩ := h.own
  intro cur e hc
  rw [hb] at hc
  injection hc with hc
  cases hc
theorem ownBlock_slice {A : Option Addr} {n c g : Nat} : (Value.slice A n c).ownBlock = some g ↔ blockOf A g := by
  cases A with
  | none => simp [Value.ownBlock, blockOf]
  | some a => simp [Value.ownBlock, blockOf, eq_comm]
theorem Grp.only {X : Nat → Prop} (h : Grp w bm base m D N G No) (k : Only X w w1) (hbm : ¬ X bm) (hX : ∀ g cur, base ≤ g → w.heap[g]? = some (.cells cur 3 (0, 0)) → ¬ No g → ¬ X g) : Grp w1 bm base m D N G No := by
  refine ⟨?_, h.into, ?_⟩
  · have hsh := h.shun
    obtain ⟨es, clock, hb, F, hs, rfl, hbb, hlen, hap⟩ := h.own
    have hblt : bm < w.heap.size := (Array.getElem?_eq_some_iff.1 hb).1
    have hkeep : ∀ x, x ∈ es.toList → ∀ zs, w.ownsInts base 3 .i64 x.val zs → w1.ownsInts base 3 .i64 x.val zs := fun x hx zs ho => by
      refine ⟨?_, ho.2⟩
      obtain ⟨A, c, e, _⟩ := own_slice ho.1
      have h1 := ho.1
      rw [e] at h1 ⊢
      refine own_only h1 k (fun b hblk hxb => ?_)
      rcases h1.2 with ⟨h0, _⟩ | ⟨g, cap, cur, hv, hg, hh, _⟩
      · injection h0 with h0
        subst h0
        obtain ⟨_, c0, _⟩ := hblk
        cases c0
      · injection hv with e1
        subst e1
        obtain ⟨a, ha, rfl⟩ := hblk
        injection ha with ha
        subst ha
        exact hX g cur hg hh (hsh es clock hb x hx g (by rw [e]; rfl)) hxb
    have hst : ∀ x ∈ es.toList, ∀ z, rowElem (H := Unit) w base 3 .i64 x.val = some z → rowElem w1 base 3 .i64 x.val = some z := fun x hx z hz => by
      obtain ⟨zs, ho, rfl⟩ := rowElem_inv hz
      exact rowElem_mk (hkeep x hx zs ho)
    obtain ⟨F1, hmap, _⟩ := F.stay hst
    refine ⟨es, clock, (k.block bm hblt hbm).trans hb, F1, hs, by rw [hmap], hbb, fun x hx zs ho => ?_, hap⟩
    obtain ⟨y, hy⟩ := F.reads x hx
    obtain ⟨z, hz, _⟩ := rd_val hy
    obtain ⟨zs0, ho0, _⟩ := rowElem_inv hz
    rw [ho.unique (hkeep x hx zs0 ho0)]
    exact hlen x hx zs0 ho0
  · intro es clock hb
    exact h.shun es clock ((k.block bm h.lt.1 hbm).symm.trans hb)
theorem Grp.below (h : Grp w bm base m D N G No) (k : Below w.heap.size w w1) : Grp w1 bm base m D N G No :=
  h.only (X := fun j => w.heap.size ≤ j) (Only.of_below k) (by have := h.lt; omega) (fun g cur _ hh _ hx => by have := (Array.getElem?_eq_some_iff.1 hh).1; omega)
theorem Grp.reno {No' : Nat → Prop} (h : Grp w bm base m D N G No) (hn : ∀ g, No' g → No g ∨ w.heap.size ≤ g) : Grp w bm base m D N G No' := ⟨h.own, h.into, h.shun.reno h.own hn⟩
theorem Grp.mono {N' : Nat} {G' : Nat → Int → Prop} (h : Grp w bm base m D N G No) (hn : N ≤ N') (hG : ∀ i l, G' i l → G i l) : Grp w bm base m D N' G' No := ⟨h.own, h.into.mono hn hG, h.shun⟩
theorem rowIs_of {D : DataW Unit} {l : Int} {v : Value} {zs : List Int} {base : Nat} (h : D.atKey (kl l) .nil = rowDatum .i64 v zs) (ho : w.ownsInts base 3 .i64 v zs) : RowIs D l zs := by
  rcases ho.datum (H := Unit) with ⟨h1, h2⟩ | h1
  · exact .inl ⟨h.trans h1, h2⟩
  · exact .inr (h.trans h1)
/-- what the map has at a literal -/
theorem Grp.look (h : Grp w bm base m D N G No) (hm : m < maxLen) {l : Int} (hl : (Lit.int .i64 l).wf = true) :
    ∃ (A : Option Addr) (c : Nat) (zs : List Int), (Instr.lookup 39 (.map (some bm)) (.int .i64 l) false).run Try.prog w = .ok (.slice A zs.length c) w ∧ RowIs D l zs ∧ zs.length ≤ m ∧ (∀ z, z ∈ zs → 0 ≤ z ∧ z < N) ∧ (∀ i : Nat, G i l → (i : Int) ∈ zs) ∧
      w.ownsInts base 3 .i64 (.slice A zs.length c) zs ∧ (∀ k, blockOf A k → ¬ No k) ∧ w.groupBack Try.prog 39 3 base 3 .i64 bm m D (.int .i64 l) (kl l) (.slice A zs.length c) := by
  obtain ⟨v, zs, hrun, hat, hoi, hzl, hback⟩ := h.own.at lawInt Try.underlying39 (zeroRowR w) hm (key_lit hl)
  have hri := rowIs_of hat hoi
  obtain ⟨zs', h1, h2, h3⟩ := h.into.2 l hl
  obtain rfl := hri.unique h1
  obtain ⟨A, c, e, _⟩ := own_slice hoi.1
  have hsh : ∀ g, v.ownBlock = some g → ¬ No g := by
    obtain ⟨es, clock, hb, F, _⟩ := h.own
    rcases Maps.fit_look false lawInt Try.underlying39 (zeroRowR w) hb F (key_lit hl) with ⟨hrun', _, _⟩ | ⟨e0, y, hm0, _, hrun', _, _, _⟩
    · rw [hrun] at hrun'
      obtain rfl : v = .slice none 0 0 := by simpa using hrun'
      intro g hg'
      cases hg'
    · rw [hrun] at hrun'
      obtain rfl : v = e0.val := by simpa using hrun'
      exact fun g hg' => h.shun es clock hb e0 hm0 g hg'
  subst e
  exact ⟨A, c, zs, hrun, hri, hzl, h2, h3, hoi, fun k hk => hsh k (ownBlock_slice.2 hk), hback⟩
/-- a store at that literal, of the slice that has been appended to -/
theorem Grp.store {i c : Nat} {A A' : Option Addr} {c' : Nat} {zs : List Int} {l : Int} (h : Grp w bm base m D N G No) (hm : m < maxLen) (hl : (Lit.int .i64 l).wf = true) (hi : i < N) (hN : N ≤ 1000000000000) (hri : RowIs D l zs) (hzl : zs.length ≤ m)
    (hoi : w.ownsInts base 3 .i64 (.slice A zs.length c) zs) (hback : w.groupBack Try.prog 39 3 base 3 .i64 bm m D (.int .i64 l) (kl l) (.slice A zs.length c))
    (hk : Only (blockOf A) w w1) (ho : w1.ownsRow base 3 1 (.slice A' (zs.length + 1) c') (zs.length + 1) (zs.map (Value.int .i64) ++ [.int .i64 i])) (hloc : ∀ k, blockOf A' k → (blockOf A k ∨ w.heap.size ≤ k) ∧ ¬ No k) :
    ∃ w2, (Instr.mapUpdate 39 (.map (some bm)) (.int .i64 l) (.slice A' (zs.length + 1) c')).run Try.prog w1 = .ok () w2 ∧ Grp w2 bm base (m + 1) (D.put (kl l) (.slice (lits .i64 (zs ++ [(i : Int)])) [])) N (fun j x => G j x ∨ (j = i ∧ x = l)) No ∧ Only (fun k => k = bm) w1 w2 := by
  have hgr : w.grownBy w1 (Value.slice A zs.length c).ownBlock := ⟨hk.os, hk.tape, hk.output, hk.size, fun k hlt hne => hk.block k hlt (fun hb => hne (ownBlock_slice.2 hb).symm)⟩
  have hown' : w1.ownsInts base 3 .i64 (.slice A' (zs.length + 1) c') (zs ++ [(i : Int)]) := hoi.appended ho (wf_lit (by omega) (by omega))
  have hloc' : (Value.slice A' (zs.length + 1) c').ownBlock = (Value.slice A zs.length c).ownBlock ∨ ∃ g, (Value.slice A' (zs.length + 1) c').ownBlock = some g ∧ w.heap.size ≤ g := by
    cases A' with
    | none =>
      rcases ho.2 with ⟨hv, h0⟩ | ⟨g, cap, cur, hv, _⟩
      · omega
      · cases hv
    | some a' =>
      rcases (hloc a'.block ⟨a', rfl, rfl⟩).1 with hb | hb
      · exact .inl ((ownBlock_slice (A := some a') (n := zs.length + 1) (c := c')).2 ⟨a', rfl, rfl⟩ |>.trans (ownBlock_slice.2 hb).symm)
      · exact .inr ⟨_, rfl, hb⟩
  obtain ⟨w2, hrun, r1, r2⟩ := hback w1 _ _ hgr hown' (by simpa using hzl) hloc'
  have hd : rowDatum (H := Unit) .i64 (.slice A' (zs.length + 1) c') (zs ++ [(i : Int)]) = .slice (lits .i64 (zs ++ [(i : Int)])) [] := hown'.datum_pos (by simp)
  rw [hd] at r1
  refine ⟨w2, hrun, ⟨r1, h.into.push hl hi hri, ?_⟩, ⟨r2.os, r2.tape, r2.output, r2.size, fun k hlt hne => r2.block k hlt (fun e => hne (by injection e))⟩⟩
  have hsh := h.shun
  obtain ⟨es, clock, hb, F, hs, _, hbb, _⟩ := h.own
  have hblt : bm < w.heap.size := (Array.getElem?_eq_some_iff.1 hb).1
  have hb1 : w1.heap[bm]? = some (.map es clock) := (hgr.block bm hblt (fun e1 => by have := (hoi.1.lt bm e1.symm).1; omega)).trans hb
  obtain ⟨es', clock', hb2, hwho⟩ := stored_who lawInt Try.underlying39 hb1 F (Nat.lt_of_le_of_lt hs hm) (key_lit hl) hrun
  intro es2 clock2 hb2' y hy g hyg
  obtain ⟨rfl, rfl⟩ : es' = es2 ∧ clock' = clock2 := by rw [hb2] at hb2'; simpa using hb2'
  rcases hwho y hy with ⟨hy0, _⟩ | ⟨_, hval⟩
  · exact hsh es clock hb y hy0 g hyg
  · rw [hval] at hyg
    exact (hloc g (ownBlock_slice.1 hyg)).2
/-- what stands at a literal, of the entries alone -/
def lookV (es : Array MapEntry) (l : Int) : Value := match Instr.findNow (.int .i64) (.int .i64 l) es.toList 0 with
  | some (some (_, v)) => v
  | _ => .slice none 0 0
theorem look_fun {es : Array MapEntry} {clock : Nat} {l : Int} (hb : w.heap[bm]? = some (.map es clock)) (hk : ∀ x ∈ es.toList, ∃ lx, keyOf Try.prog 3 x.key = some lx) (hl : (Lit.int .i64 l).wf = true) :
    (Instr.lookup 39 (.map (some bm)) (.int .i64 l) false).run Try.prog w = .ok (lookV es l) w := by
  have keys : ∀ v lv, keyOf Try.prog 3 v = some lv → MapKept.IsKey (.int .i64) v := fun v lv h => by
    cases v <;> simp [keyOf, Try.underlying3, mapKey] at h
    obtain ⟨⟨rfl, _⟩, _⟩ := h
    rfl
  rcases MapKept.findNow_spec (d := .int .i64) (k := .int .i64 l) rfl es.toList 0 (fun x hx => let ⟨lx, h⟩ := hk x hx; keys _ _ h) with ⟨h1, _⟩ | ⟨j, e, h1, _⟩
  · have h2 : (Instr.findKey 3 (.int .i64 l) es.toList).run Try.prog w = .ok none w := by simp [Instr.findKey, run_underlying Try.underlying3, h1]
    simp [Instr.lookup, run_underlying Try.underlying39, MapKept.run_getObj_map hb, lawInt.check w _ (key_lit hl), h2, zeroRowR w, Result.andThen, lookV, h1]
  · have h2 : (Instr.findKey 3 (.int .i64 l) es.toList).run Try.prog w = .ok (some (0 + j, e.val)) w := by simp [Instr.findKey, run_underlying Try.underlying3, h1]
    simp [Instr.lookup, run_underlying Try.underlying39, MapKept.run_getObj_map hb, lawInt.check w _ (key_lit hl), h2, Result.andThen, lookV, h1]
/-- a look-up reads the map's block alone -/
theorem Grp.same {l : Int} {v : Value} (h : Grp w bm base m D N G No) (hl : (Lit.int .i64 l).wf = true) (hr : (Instr.lookup 39 (.map (some bm)) (.int .i64 l) false).run Try.prog w = .ok v w) {w' : World} (hb : w'.heap[bm]? = w.heap[bm]?) :
    (Instr.lookup 39 (.map (some bm)) (.int .i64 l) false).run Try.prog w' = .ok v w' := by
  obtain ⟨es, clock, hm, F, _⟩ := h.own
  have hk : ∀ x ∈ es.toList, ∃ lx, keyOf Try.prog 3 x.key = some lx := fun x hx => let ⟨y, hy⟩ := F.reads x hx; ⟨_, rd_key hy⟩
  have h1 := look_fun (w := w) hm hk hl
  have h2 := look_fun (w := w') (hb.trans hm) hk hl
  rw [hr] at h1
  injection h1 with h1
  rw [h2, h1]
theorem Grp.made (w : World) : Grp (w.alloc (.map #[] 0)) w.heap.size (w.heap.size + 1) 0 (.map []) 0 (fun _ _ => False) No := ⟨World.ownsGroups_made w Try.prog 3 3 .i64, Into.start, World.Shuns_made w No⟩
end
end Go.Proofs.Ytkanekacjefcbaa
