/- The map of which clauses have a literal, in memory: what is read, what is stored, what it outlives. No condition. refute's holder in memory: its box, its clauses, which have a literal, which have at most one; what each step does to it. No condition. -/
import Derived.Test.YtkanekacjefcbaaRfO
import Derived.Test.YtkanekacjefcbaaStep
namespace Go.Proofs.Ytkanekacjefcbaa
open Go.RowKit Go.Maps Go.ChangeShapes Go.WideElems

structure Grp (w : World) (bm base m : Nat) (D : DataW Unit) (N : Nat) (G : Nat → Int → Prop) (No : Nat → Prop) : Prop where
  own : w.ownsGroups Try.prog 3 base 3 .i64 bm m D
  into : Into D N G
  shun : w.Shuns bm No
section
variable {w w1 : World} {bm base m N : Nat} {D : DataW Unit} {G : Nat → Int → Prop} {No : Nat → Prop}
theorem Grp.lt (h : Grp w bm base m D N G No) : bm < w.heap.size ∧ bm < base := by
  obtain ⟨es, clock, hb, _, _, _, hbb, _⟩ := h.own
  exact ⟨(Array.getElem?_eq_some_iff.1 hb).1, hbb⟩
theorem Grp.notCells (h : Grp w bm base m D N G No) : ∀ cur e, w.heap[bm]? ≠ some (.cells cur e (0, 0)) := by
  obtain ⟨es, clock, hb, _⟩ := h.own
  intro cur e hc
  rw [hb] at hc
  injection hc with hc
  cases hc
theorem ownBlock_slice {A : Option Addr} {n c g : Nat} : (Value.slice A n c).ownBlock = some g ↔ blockOf A g := by
  cases A with
  | none => simp [Value.ownBlock, blockOf]
  | some a => simp [Value.ownBlock, blockOf, eq_comm]
theorem Grp.only {X : Nat → Prop} (h : Grp w bm base m D N G No) (k : Only X w w1) (hbm : ¬ X bm) (hX : ∀ g cur, base ≤ g → w.heap[g]? = some (.cells cur 3 (0, 0)) → ¬ No g → ¬ X g) : Grp w1 bm base m D N G No := by
  refine ⟨?_, h.into, ?_⟩
  · have hsh := h.shun
    obtain ⟨es, clock, hb, F, hs, rfl, hbb, hlen, hap⟩ := h.own
    have hblt : bm < w.heap.size := (Array.getElem?_eq_some_iff.1 hb).1
    have hkeep : ∀ x, x ∈ es.toList → ∀ zs, w.ownsInts base 3 .i64 x.val zs → w1.ownsInts base 3 .i64 x.val zs := fun x hx zs ho => by
      refine ⟨?_, ho.2⟩
      obtain ⟨A, c, e, _⟩ := own_slice ho.1
      have h1 := ho.1
      rw [e] at h1 ⊢
      refine own_only h1 k (fun b hblk hxb => ?_)
      rcases h1.2 with ⟨h0, _⟩ | ⟨g, cap, cur, hv, hg, hh, _⟩
      · injection h0 with h0
        subst h0
        obtain ⟨_, c0, _⟩ := hblk
        cases c0
      · injection hv with e1
        subst e1
        obtain ⟨a, ha, rfl⟩ := hblk
        injection ha with ha
        subst ha
        exact hX g cur hg hh (hsh es clock hb x hx g (by rw [e]; rfl)) hxb
    have hst : ∀ x ∈ es.toList, ∀ z, rowElem (H := Unit) w base 3 .i64 x.val = some z → rowElem w1 base 3 .i64 x.val = some z := fun x hx z hz => by
      obtain ⟨zs, ho, rfl⟩ := rowElem_inv hz
      exact rowElem_mk (hkeep x hx zs ho)
    obtain ⟨F1, hmap, _⟩ := F.stay hst
    refine ⟨es, clock, (k.block bm hblt hbm).trans hb, F1, hs, by rw [hmap], hbb, fun x hx zs ho => ?_, hap⟩
    obtain ⟨y, hy⟩ := F.reads x hx
    obtain ⟨z, hz, _⟩ := rd_val hy
    obtain ⟨zs0, ho0, _⟩ := rowElem_inv hz
    rw [ho.unique (hkeep x hx zs0 ho0)]
    exact hlen x hx zs0 ho0
  · intro es clock hb
    exact h.shun es clock ((k.block bm h.lt.1 hbm).symm.trans hb)
theorem Grp.below (h : Grp w bm base m D N G No) (k : Below w.heap.size w w1) : Grp w1 bm base m D N G No :=
  h.only (X := fun j => w.heap.size ≤ j) (Only.of_below k) (by have := h.lt; omega) (fun g cur _ hh _ hx => by have := (Array.getElem?_eq_some_iff.1 hh).1; omega)
theorem Grp.reno {No' : Nat → Prop} (h : Grp w bm base m D N G No) (hn : ∀ g, No' g → No g ∨ w.heap.size ≤ g) : Grp w bm base m D N G No' := ⟨h.own, h.into, h.shun.reno h.own hn⟩
theorem Grp.mono {N' : Nat} {G' : Nat → Int → Prop} (h : Grp w bm base m D N G No) (hn : N ≤ N') (hG : ∀ i l, G' i l → G i l) : Grp w bm base m D N' G' No := ⟨h.own, h.into.mono hn hG, h.shun⟩
theorem rowIs_of {D : DataW Unit} {l : Int} {v : Value} {zs : List Int} {base : Nat} (h : D.atKey (kl l) .nil = rowDatum .i64 v zs) (ho : w.ownsInts base 3 .i64 v zs) : RowIs D l zs := by
  rcases ho.datum (H := Unit) with ⟨h1, h2⟩ | h1
  · exact .inl ⟨h.trans h1, h2⟩
  · exact .inr (h.trans h1)
/-- what the map has at a literal -/
theorem Grp.look (h : Grp w bm base m D N G No) (hm : m < maxLen) {l : Int} (hl : (Lit.int .i64 l).wf = true) :
    ∃ (A : Option Addr) (c : Nat) (zs : List Int), (Instr.lookup 39 (.map (some bm)) (.int .i64 l) false).run Try.prog w = .ok (.slice A zs.length c) w ∧ RowIs D l zs ∧ zs.length ≤ m ∧ (∀ z, z ∈ zs → 0 ≤ z ∧ z < N) ∧ (∀ i : Nat, G i l → (i : Int) ∈ zs) ∧
      w.ownsInts base 3 .i64 (.slice A zs.length c) zs ∧ (∀ k, blockOf A k → ¬ No k) ∧ w.groupBack Try.prog 39 3 base 3 .i64 bm m D (.int .i64 l) (kl l) (.slice A zs.length c) := by
  obtain ⟨v, zs, hrun, hat, hoi, hzl, hback⟩ := h.own.at lawInt Try.underlying39 (zeroRowR w) hm (key_lit hl)
  have hri := rowIs_of hat hoi
  obtain ⟨zs', h1, h2, h3⟩ := h.into.2 l hl
  obtain rfl := hri.unique h1
  obtain ⟨A, c, e, _⟩ := own_slice hoi.1
  have hsh : ∀ g, v.ownBlock = some g → ¬ No g := by
    obtain ⟨es, clock, hb, F, _⟩ := h.own
    rcases Maps.fit_look false lawInt Try.underlying39 (zeroRowR w) hb F (key_lit hl) with ⟨hrun', _, _⟩ | ⟨e0, y, hm0, _, hrun', _, _, _⟩
    · rw [hrun] at hrun'
      obtain rfl : v = .slice none 0 0 := by simpa using hrun'
      intro g hg'
      cases hg'
    · rw [hrun] at hrun'
      obtain rfl : v = e0.val := by simpa using hrun'
      exact fun g hg' => h.shun es clock hb e0 hm0 g hg'
  subst e
  exact ⟨A, c, zs, hrun, hri, hzl, h2, h3, hoi, fun k hk => hsh k (ownBlock_slice.2 hk), hback⟩
/-- a store at that literal, of the slice that has been appended to -/
theorem Grp.store {i c : Nat} {A A' : Option Addr} {c' : Nat} {zs : List Int} {l : Int} (h : Grp w bm base m D N G No) (hm : m < maxLen) (hl : (Lit.int .i64 l).wf = true) (hi : i < N) (hN : N ≤ 1000000000000) (hri : RowIs D l zs) (hzl : zs.length ≤ m)
    (hoi : w.ownsInts base 3 .i64 (.slice A zs.length c) zs) (hback : w.groupBack Try.prog 39 3 base 3 .i64 bm m D (.int .i64 l) (kl l) (.slice A zs.length c))
    (hk : Only (blockOf A) w w1) (ho : w1.ownsRow base 3 1 (.slice A' (zs.length + 1) c') (zs.length + 1) (zs.map (Value.int .i64) ++ [.int .i64 i])) (hloc : ∀ k, blockOf A' k → (blockOf A k ∨ w.heap.size ≤ k) ∧ ¬ No k) :
    ∃ w2, (Instr.mapUpdate 39 (.map (some bm)) (.int .i64 l) (.slice A' (zs.length + 1) c')).run Try.prog w1 = .ok () w2 ∧ Grp w2 bm base (m + 1) (D.put (kl l) (.slice (lits .i64 (zs ++ [(i : Int)])) [])) N (fun j x => G j x ∨ (j = i ∧ x = l)) No ∧ Only (fun k => k = bm) w1 w2 := by
  have hgr : w.grownBy w1 (Value.slice A zs.length c).ownBlock := ⟨hk.os, hk.tape, hk.output, hk.size, fun k hlt hne => hk.block k hlt (fun hb => hne (ownBlock_slice.2 hb).symm)⟩
  have hown' : w1.ownsInts base 3 .i64 (.slice A' (zs.length + 1) c') (zs ++ [(i : Int)]) := hoi.appended ho (wf_lit (by omega) (by omega))
  have hloc' : (Value.slice A' (zs.length + 1) c').ownBlock = (Value.slice A zs.length c).ownBlock ∨ ∃ g, (Value.slice A' (zs.length + 1) c').ownBlock = some g ∧ w.heap.size ≤ g := by
    cases A' with
    | none =>
      rcases ho.2 with ⟨hv, h0⟩ | ⟨g, cap, cur, hv, _⟩
      · omega
      · cases hv
    | some a' =>
      rcases (hloc a'.block ⟨a', rfl, rfl⟩).1 with hb | hb
      · exact .inl ((ownBlock_slice (A := some a') (n := zs.length + 1) (c := c')).2 ⟨a', rfl, rfl⟩ |>.trans (ownBlock_slice.2 hb).symm)
      · exact .inr ⟨_, rfl, hb⟩
  obtain ⟨w2, hrun, r1, r2⟩ := hback w1 _ _ hgr hown' (by simpa using hzl) hloc'
  have hd : rowDatum (H := Unit) .i64 (.slice A' (zs.length + 1) c') (zs ++ [(i : Int)]) = .slice (lits .i64 (zs ++ [(i : Int)])) [] := hown'.datum_pos (by simp)
  rw [hd] at r1
  refine ⟨w2, hrun, ⟨r1, h.into.push hl hi hri, ?_⟩, ⟨r2.os, r2.tape, r2.output, r2.size, fun k hlt hne => r2.block k hlt (fun e => hne (by injection e))⟩⟩
  have hsh := h.shun
  obtain ⟨es, clock, hb, F, hs, _, hbb, _⟩ := h.own
  have hblt : bm < w.heap.size := (Array.getElem?_eq_some_iff.1 hb).1
  have hb1 : w1.heap[bm]? = some (.map es clock) := (hgr.block bm hblt (fun e1 => by have := (hoi.1.lt bm e1.symm).1; omega)).trans hb
  obtain ⟨es', clock', hb2, hwho⟩ := stored_who lawInt Try.underlying39 hb1 F (Nat.lt_of_le_of_lt hs hm) (key_lit hl) hrun
  intro es2 clock2 hb2' y hy g hyg
  obtain ⟨rfl, rfl⟩ : es' = es2 ∧ clock' = clock2 := by rw [hb2] at hb2'; simpa using hb2'
  rcases hwho y hy with ⟨hy0, _⟩ | ⟨_, hval⟩
  · exact hsh es clock hb y hy0 g hyg
  · rw [hval] at hyg
    exact (hloc g (ownBlock_slice.1 hyg)).2
/-- what stands at a literal, of the entries alone -/
def lookV (es : Array MapEntry) (l : Int) : Value := match Instr.findNow (.int .i64) (.int .i64 l) es.toList 0 with
  | some (some (_, v)) => v
  | _ => .slice none 0 0
theorem look_fun {es : Array MapEntry} {clock : Nat} {l : Int} (hb : w.heap[bm]? = some (.map es clock)) (hk : ∀ x ∈ es.toList, ∃ lx, keyOf Try.prog 3 x.key = some lx) (hl : (Lit.int .i64 l).wf = true) :
    (Instr.lookup 39 (.map (some bm)) (.int .i64 l) false).run Try.prog w = .ok (lookV es l) w := by
  have keys : ∀ v lv, keyOf Try.prog 3 v = some lv → MapKept.IsKey (.int .i64) v := fun v lv h => by
    cases v <;> simp [keyOf, Try.underlying3, mapKey] at h
    obtain ⟨⟨rfl, _⟩, _⟩ := h
    rfl
  rcases MapKept.findNow_spec (d := .int .i64) (k := .int .i64 l) rfl es.toList 0 (fun x hx => let ⟨lx, h⟩ := hk x hx; keys _ _ h) with ⟨h1, _⟩ | ⟨j, e, h1, _⟩
  · have h2 : (Instr.findKey 3 (.int .i64 l) es.toList).run Try.prog w = .ok none w := by simp [Instr.findKey, run_underlying Try.underlying3, h1]
    simp [Instr.lookup, run_underlying Try.underlying39, MapKept.run_getObj_map hb, lawInt.check w _ (key_lit hl), h2, zeroRowR w, Result.andThen, lookV, h1]
  · have h2 : (Instr.findKey 3 (.int .i64 l) es.toList).run Try.prog w = .ok (some (0 + j, e.val)) w := by simp [Instr.findKey, run_underlying Try.underlying3, h1]
    simp [Instr.lookup, run_underlying Try.underlying39, MapKept.run_getObj_map hb, lawInt.check w _ (key_lit hl), h2, Result.andThen, lookV, h1]
/-- a look-up reads the map's block alone -/
theorem Grp.same {l : Int} {v : Value} (h : Grp w bm base m D N G No) (hl : (Lit.int .i64 l).wf = true) (hr : (Instr.lookup 39 (.map (some bm)) (.int .i64 l) false).run Try.prog w = .ok v w) {w' : World} (hb : w'.heap[bm]? = w.heap[bm]?) :
    (Instr.lookup 39 (.map (some bm)) (.int .i64 l) false).run Try.prog w' = .ok v w' := by
  obtain ⟨es, clock, hm, F, _⟩ := h.own
  have hk : ∀ x ∈ es.toList, ∃ lx, keyOf Try.prog 3 x.key = some lx := fun x hx => let ⟨y, hy⟩ := F.reads x hx; ⟨_, rd_key hy⟩
  have h1 := look_fun (w := w) hm hk hl
  have h2 := look_fun (w := w') (hb.trans hm) hk hl
  rw [hr] at h1
  injection h1 with h1
  rw [h2, h1]
theorem Grp.made (w : World) : Grp (w.alloc (.map #[] 0)) w.heap.size (w.heap.size + 1) 0 (.map []) 0 (fun _ _ => False) No := ⟨World.ownsGroups_made w Try.prog 3 3 .i64, Into.start, World.Shuns_made w No⟩
end
end Go.Proofs.Ytkanekacjefcbaa
namespace Go.Proofs.Ytkanekacjefcbaa
open Go.RowKit Go.Maps Go.ChangeShapes

def hV (vars : Int) (A : Option Addr) (n c bm : Nat) (U : Option Addr) (nu cu : Nat) (j : Nat) : Value :=
  [Value.int .i64 vars, .slice A n c, .map (some bm), .slice U nu cu, .map none].getD j undef
structure Hold (w0 w : World) (b bm base : Nat) (vars : Int) (cs : List (List Int)) (vs : List Value) (A : Option Addr) (c m : Nat) (D : DataW Unit) (U : Option Addr) (cu : Nat) (us : List Int) (G : Nat → Int → Prop) (K : Nat) : Prop where
  box : Arr w b 42 5 (hV vars A cs.length c bm U us.length cu)
  vlen : vs.length = cs.length
  rows : w.ownsRow base 26 1 (.slice A cs.length c) cs.length vs
  cls : ∀ (i : Nat) (v : Value) (l : List Int), vs[i]? = some v → cs[i]? = some l → ∃ (A' : Option Addr) (d : Nat), v = .slice A' l.length d ∧ ClRow w0 A' l
  grp : Grp w bm base m D cs.length G (blockOf U)
  un : w.ownsRow base 3 1 (.slice U us.length cu) us.length (us.map (Value.int .i64))
  u1 : ∀ z, z ∈ us → 0 ≤ z ∧ z < cs.length
  u2 : ∀ (i : Nat) (c : List Int), i < K → cs[i]? = some c → (i : Int) ∈ us ∨ ∃ a b, a ∈ c ∧ b ∈ c ∧ a ≠ b
  bel : Below w0.heap.size w0 w
  lt : w0.heap.size ≤ b ∧ b < base ∧ w0.heap.size ≤ bm ∧ bm < base ∧ base ≤ w.heap.size ∧ b ≠ bm
section
variable {w0 w w1 w7 : World} {b bm base c m cu K : Nat} {vars : Int} {cs : List (List Int)} {vs : List Value} {A U : Option Addr} {D : DataW Unit} {us : List Int} {G : Nat → Int → Prop}
theorem Hold.below (h : Hold w0 w b bm base vars cs vs A c m D U cu us G K) (k : Below w.heap.size w w1) : Hold w0 w1 b bm base vars cs vs A c m D U cu us G K :=
  ⟨h.box.below k, h.vlen, own_below h.rows k, h.cls, h.grp.below k, own_below h.un k, h.u1, h.u2, h.bel.trans (k.mono (by have := h.lt; omega)), by have := h.lt; have := k.size; omega⟩
theorem Hold.alloc (h : Hold w0 w b bm base vars cs vs A c m D U cu us G K) (o : Obj) : Hold w0 (w.alloc o) b bm base vars cs vs A c m D U cu us G K := h.below ((Below.refl _ _).alloc (Nat.le_refl _) _)
/-- the cells of the box -/
theorem Hold.at_ (h : Hold w0 w b bm base vars cs vs A c m D U cu us G K) : w.cell? ⟨b, 0, none⟩ = some (.int .i64 vars) ∧ w.cell? ⟨b, 1, none⟩ = some (.slice A cs.length c) ∧ w.cell? ⟨b, 2, none⟩ = some (.map (some bm)) ∧ w.cell? ⟨b, 3, none⟩ = some (.slice U us.length cu) :=
  ⟨h.box.cell (k := 0) (by omega), h.box.cell (k := 1) (by omega), h.box.cell (k := 2) (by omega), h.box.cell (k := 3) (by omega)⟩
theorem Only.low {S : Nat → Prop} {w w1 : World} {B : Nat} (h : Only S w w1) (hs : ∀ k, S k → B ≤ k) (hB : B ≤ w.heap.size) : Below B w w1 := h.below (fun k _ c => hs k c) hB
/-- one clause more -/
theorem Hold.clause {A' : Option Addr} {c' d : Nat} {B : Option Addr} {l : List Int} (h : Hold w0 w b bm base vars cs vs A c m D U cu us G K) (hK : K ≤ cs.length) (hk : Only (blockOf A) w w7)
    (ho : w7.ownsRow base 26 1 (.slice A' (cs.length + 1) c') (cs.length + 1) (vs ++ [.slice B l.length d])) (hl : ClRow w0 B l) :
    Hold w0 (w7.setCell ⟨b, 1, none⟩ (.slice A' (cs.length + 1) c')) b bm base vars (cs ++ [l]) (vs ++ [.slice B l.length d]) A' c' m D U cu us G K := by
  obtain ⟨q1, q2, q3, q4, q5, q6⟩ := h.lt
  have hba := own_base h.rows
  have hbo := own_base ho
  have os := (Only.refl (fun j => j = b) w7).setCell (p := ⟨b, 1, none⟩) (fun _ => rfl) (.slice A' (cs.length + 1) c')
  have hnty := own_type (e' := 3) h.rows (by decide)
  have hb7 := h.box.only hk (fun c => by have := hba _ c; omega)
  have hg7 := h.grp.only hk (fun c => by have := hba _ c; omega) (fun g cur _ hh _ hx => hnty g cur hh hx)
  have hu7 := own_only h.un hk (own_apart h.un h.rows (by decide))
  have hbu := own_base hu7
  refine ⟨?_, by simp [h.vlen], ?_, fun i v x hv hx => ?_, ?_, own_only hu7 os (fun k hk e => by have := hbu k hk; omega), fun z hz => by have := h.u1 z hz; simp; omega, fun i x hi hx => ?_, ?_, ⟨q1, q2, q3, q4, by have := hk.size; have := os.size; omega, q6⟩⟩
  · have e : (cs ++ [l]).length = cs.length + 1 := by simp
    rw [e]
    exact hb7.set (fun j hj hne => by
      obtain rfl | rfl | rfl | rfl : j = 0 ∨ j = 2 ∨ j = 3 ∨ j = 4 := by omega
      all_goals rfl) rfl
  · have e : (cs ++ [l]).length = cs.length + 1 := by simp
    rw [e]
    exact own_only ho os (fun k hk e => by have := hbo k hk; omega)
  · by_cases hi : i < cs.length
    · rw [List.getElem?_append_left (by rw [h.vlen]; exact hi)] at hv
      rw [List.getElem?_append_left hi] at hx
      exact h.cls i v x hv hx
    · have hi' : i = cs.length := by
        have := (List.getElem?_eq_some_iff.1 hx).1
        simp at this; omega
      rw [List.getElem?_append_right (by rw [h.vlen]; omega), h.vlen, hi', Nat.sub_self] at hv
      rw [List.getElem?_append_right (by omega), hi', Nat.sub_self] at hx
      simp only [List.getElem?_cons_zero, Option.some.injEq] at hv hx
      subst hv; subst hx
      exact ⟨B, d, rfl, hl⟩
  · have e : (cs ++ [l]).length = cs.length + 1 := by simp
    rw [e]
    exact (hg7.only os (fun e => by omega) (fun g cur hg _ _ e => by omega)).mono (by omega) (fun _ _ h => h)
  · rw [List.getElem?_append_left (by omega)] at hx
    exact h.u2 i x hi hx
  · exact (h.bel.trans (hk.low (B := w0.heap.size) (fun k c => by have := hba k c; omega) (by omega))).trans (os.low (B := w0.heap.size) (fun k c => by omega) (by have := hk.size; omega))
/-- one literal booked: what has happened is an append to the literal's row, a store into the map -/
theorem Hold.book {w2 : World} {Az : Option Addr} {D' : DataW Unit} {m' : Nat} {G' : Nat → Int → Prop} {nz cz : Nat} {zs : List Value} (h : Hold w0 w b bm base vars cs vs A c m D U cu us G K) (hz : w.ownsRow base 3 1 (.slice Az nz cz) nz zs) (hzu : ∀ k, blockOf Az k → ¬ blockOf U k)
    (hk : Only (blockOf Az) w w1) (hg : Grp w2 bm base m' D' cs.length G' (blockOf U)) (hm : Only (fun k => k = bm) w1 w2) : Hold w0 w2 b bm base vars cs vs A c m' D' U cu us G' K := by
  obtain ⟨q1, q2, q3, q4, q5, q6⟩ := h.lt
  have hbz := own_base hz
  have hbr := own_base h.rows
  have hbu := own_base h.un
  have r1 := own_only h.rows hk (own_apart h.rows hz (by decide))
  have u1 := own_only h.un hk (fun k c e => hzu k e c)
  exact ⟨(h.box.only hk (fun c => by have := hbz _ c; omega)).only hm (fun e => q6 e), h.vlen, own_only r1 hm (fun k c e => by have := hbr k c; omega), h.cls, hg, own_only u1 hm (fun k c e => by have := hbu k c; omega), h.u1, h.u2,
    (h.bel.trans (hk.low (B := w0.heap.size) (fun k c => by have := hbz k c; omega) (by omega))).trans (hm.low (B := w0.heap.size) (fun k c => by omega) (by have := hk.size; omega)), ⟨q1, q2, q3, q4, by have := hk.size; have := hm.size; omega, q6⟩⟩
/-- one unit more -/
theorem Hold.unit {U' : Option Addr} {cu' i : Nat} (h : Hold w0 w b bm base vars cs vs A c m D U cu us G i) (hi : i < cs.length) (hk : Only (blockOf U) w w7)
    (ho : w7.ownsRow base 3 1 (.slice U' (us.length + 1) cu') (us.length + 1) (us.map (Value.int .i64) ++ [.int .i64 i])) (hloc : ∀ k, blockOf U' k → blockOf U k ∨ w.heap.size ≤ k) :
    Hold w0 (w7.setCell ⟨b, 3, none⟩ (.slice U' (us.length + 1) cu')) b bm base vars cs vs A c m D U' cu' (us ++ [(i : Int)]) G (i + 1) := by
  obtain ⟨q1, q2, q3, q4, q5, q6⟩ := h.lt
  have hbu := own_base h.un
  have hbo := own_base ho
  have hbr := own_base h.rows
  have os := (Only.refl (fun j => j = b) w7).setCell (p := ⟨b, 3, none⟩) (fun _ => rfl) (.slice U' (us.length + 1) cu')
  have hb7 := h.box.only hk (fun c => by have := hbu _ c; omega)
  have hg7 := ((h.grp.reno (No' := fun g => blockOf U g ∨ blockOf U' g) (fun g hg => hg.elim .inl (hloc g))).only hk (fun c => by have := hbu _ c; omega) (fun g cur _ _ hno hx => hno (.inl hx))).reno (No' := blockOf U') (fun g hg => .inl (.inr hg))
  refine ⟨?_, h.vlen, own_only (own_only h.rows hk (own_apart h.rows h.un (by decide))) os (fun k c e => by have := hbr k c; omega), h.cls, hg7.only os (fun e => by omega) (fun g cur hg _ _ e => by omega), ?_, fun z hz => ?_, fun j x hj hx => ?_, ?_, ⟨q1, q2, q3, q4, by have := hk.size; have := os.size; omega, q6⟩⟩
  · have e : (us ++ [(i : Int)]).length = us.length + 1 := by simp
    rw [e]
    exact hb7.set (fun j hj hne => by
      obtain rfl | rfl | rfl | rfl : j = 0 ∨ j = 1 ∨ j = 2 ∨ j = 4 := by omega
      all_goals rfl) rfl
  · have e : (us ++ [(i : Int)]).length = us.length + 1 := by simp
    rw [e]
    have := own_only ho os (fun k c e => by have := hbo k c; omega)
    simpa using this
  · rcases List.mem_append.1 hz with hz | hz
    · exact h.u1 z hz
    · simp at hz; omega
  · by_cases e : j < i
    · exact (h.u2 j x e hx).imp (fun h => List.mem_append_left _ h) id
    · obtain rfl : j = i := by omega
      exact .inl (by simp)
  · exact (h.bel.trans (hk.low (B := w0.heap.size) (fun k c => by have := hbu k c; omega) (by omega))).trans (os.low (B := w0.heap.size) (fun k c => by omega) (by have := hk.size; omega))
end
end Go.Proofs.Ytkanekacjefcbaa
