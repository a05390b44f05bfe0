/- refute's holder in memory: its box, its clauses, which have a literal, which have at most one; what each step does to it. No condition. -/
import Derived.Test.YtkanekacjefcbaaRfG
import Derived.Test.YtkanekacjefcbaaRfO
namespace Go.Proofs.Ytkanekacjefcbaa
open Go.RowKit Go.Maps Go.ChangeShapes

def hV (vars : Int) (A : Option Addr) (n c bm : Nat) (U : Option Addr) (nu cu : Nat) (j : Nat) : Value :=
  [Value.int .i64 vars, .slice A n c, .map (some bm), .slice U nu cu, .map none].getD j undef
structure Hold (w0 w : World) (b bm base : Nat) (vars : Int) (cs : List (List Int)) (vs : List Value) (A : Option Addr) (c m : Nat) (D : DataW Unit) (U : Option Addr) (cu : Nat) (us : List Int) (G : Nat → Int → Prop) (K : Nat) : Prop where
  box : Arr w b 42 5 (hV vars A cs.length c bm U us.length cu)
  vlen : vs.length = cs.length
  rows : w.ownsRow base 26 1 (.slice A cs.length c) cs.length vs
  cls : ∀ (i : Nat) (v : Value) (l : List Int), vs[i]? = some v → cs[i]? = some l → ∃ (A' : Option Addr) (d : Nat), v = .slice A' l.length d ∧ ClRow w0 A' l
  grp : Grp w bm base m D cs.length G (blockOf U)
  un : w.ownsRow base 3 1 (.slice U us.length cu) us.length (us.map (Value.int .i64))
  u1 : ∀ z, z ∈ us → 0 ≤ z ∧ z < cs.length
  u2 : ∀ (i : Nat) (c : List Int), i < K → cs[i]? = some c → (i : Int) ∈ us ∨ ∃ a b, a ∈ c ∧ b ∈ c ∧ a ≠ b
  bel : Below w0.heap.size w0 w
  lt : w0.heap.size ≤ b ∧ b < base ∧ w0.heap.size ≤ bm ∧ bm < base ∧ base ≤ w.heap.size ∧ b ≠ bm
section
variable {w0 w w1 w7 : World} {b bm base c m cu K : Nat} {vars : Int} {cs : List (List Int)} {vs : List Value} {A U : Option Addr} {D : DataW Unit} {us : List Int} {G : Nat → Int → Prop}
theorem Hold.below (h : Hold w0 w b bm base vars cs vs A c m D U cu us G K) (k : Below w.heap.size w w1) : Hold w0 w1 b bm base vars cs vs A c m D U cu us G K :=
  ⟨h.box.below k, h.vlen, own_below h.rows k, h.cls, h.grp.below k, own_below h.un k, h.u1, h.u2, h.bel.trans (k.mono (by have := h.lt; omega)), by have := h.lt; have := k.size; omega⟩
theorem Hold.alloc (h : Hold w0 w b bm base vars cs vs A c m D U cu us G K) (o : Obj) : Hold w0 (w.alloc o) b bm base vars cs vs A c m D U cu us G K := h.below ((Below.refl _ _).alloc (Nat.le_refl _) _)
/-- the cells of the box -/
theorem Hold.at_ (h : Hold w0 w b bm base vars cs vs A c m D U cu us G K) : w.cell? ⟨b, 0, none⟩ = some (.int .i64 vars) ∧ w.cell? ⟨b, 1, none⟩ = some (.slice A cs.length c) ∧ w.cell? ⟨b, 2, none⟩ = some (.map (some bm)) ∧ w.cell? ⟨b, 3, none⟩ = some (.slice U us.length cu) :=
  ⟨h.box.cell (k := 0) (by omega), h.box.cell (k := 1) (by omega), h.box.cell (k := 2) (by omega), h.box.cell (k := 3) (by omega)⟩
theorem Only.low {S : Nat → Prop} {w w1 : World} {B : Nat} (h : Only S w w1) (hs : ∀ k, S k → B ≤ k) (hB : B ≤ w.heap.size) : Below B w w1 := h.below (fun k _ c => hs k c) hB
/-- one clause more -/
theorem Hold.clause {A' : Option Addr} {c' d : Nat} {B : Option Addr} {l : List Int} (h : Hold w0 w b bm base vars cs vs A c m D U cu us G K) (hK : K ≤ cs.length) (hk : Only (blockOf A) w w7)
    (ho : w7.ownsRow base 26 1 (.slice A' (cs.length + 1) c') (cs.length + 1) (vs ++ [.slice B l.length d])) (hl : ClRow w0 B l) :
    Hold w0 (w7.setCell ⟨b, 1, none⟩ (.slice A' (cs.length + 1) c')) b bm base vars (cs ++ [l]) (vs ++ [.slice B l.length d]) A' c' m D U cu us G K := by
  obtain ⟨q1, q2, q3, q4, q5, q6⟩ := h.lt
  have hba := own_base h.rows
  have hbo := own_base ho
  have os := (Only.refl (fun j => j = b) w7).setCell (p := ⟨b, 1, none⟩) (fun _ => rfl) (.slice A' (cs.length + 1) c')
  have hnty := own_type (e' := 3) h.rows (by decide)
  have hb7 := h.box.only hk (fun c => by have := hba _ c; omega)
  have hg7 := h.grp.only hk (fun c => by have := hba _ c; omega) (fun g cur _ hh _ hx => hnty g cur hh hx)
  have hu7 := own_only h.un hk (own_apart h.un h.rows (by decide))
  have hbu := own_base hu7
  refine ⟨?_, by simp [h.vlen], ?_, fun i v x hv hx => ?_, ?_, own_only hu7 os (fun k hk e => by have := hbu k hk; omega), fun z hz => by have := h.u1 z hz; simp; omega, fun i x hi hx => ?_, ?_, ⟨q1, q2, q3, q4, by have := hk.size; have := os.size; omega, q6⟩⟩
  · have e : (cs ++ [l]).length = cs.length + 1 := by simp
    rw [e]
    exact hb7.set (fun j hj hne => by
      obtain rfl | rfl | rfl | rfl : j = 0 ∨ j = 2 ∨ j = 3 ∨ j = 4 := by omega
      all_goals rfl) rfl
  · have e : (cs ++ [l]).length = cs.length + 1 := by simp
    rw [e]
    exact own_only ho os (fun k hk e => by have := hbo k hk; omega)
  · by_cases hi : i < cs.length
    · rw [List.getElem?_append_left (by rw [h.vlen]; exact hi)] at hv
      rw [List.getElem?_append_left hi] at hx
      exact h.cls i v x hv hx
    · have hi' : i = cs.length := by
        have := (List.getElem?_eq_some_iff.1 hx).1
        simp at this; omega
      rw [List.getElem?_append_right (by rw [h.vlen]; omega), h.vlen, hi', Nat.sub_self] at hv
      rw [List.getElem?_append_right (by omega), hi', Nat.sub_self] at hx
      simp only [List.getElem?_cons_zero, Option.some.injEq] at hv hx
      subst hv; subst hx
      exact ⟨B, d, rfl, hl⟩
  · have e : (cs ++ [l]).length = cs.length + 1 := by simp
    rw [e]
    exact (hg7.only os (fun e => by omega) (fun g cur hg _ _ e => by omega)).mono (by omega) (fun _ _ h => h)
  · rw [List.getElem?_append_left (by omega)] at hx
    exact h.u2 i x hi hx
  · exact (h.bel.trans (hk.low (B := w0.heap.size) (fun k c => by have := hba k c; omega) (by omega))).trans (os.low (B := w0.heap.size) (fun k c => by omega) (by have := hk.size; omega))
/-- one literal booked: what has happened is an append to the literal's row, a store into the map -/
theorem Hold.book {w2 : World} {Az : Option Addr} {D' : DataW Unit} {m' : Nat} {G' : Nat → Int → Prop} {nz cz : Nat} {zs : List Value} (h : Hold w0 w b bm base vars cs vs A c m D U cu us G K) (hz : w.ownsRow base 3 1 (.slice Az nz cz) nz zs) (hzu : ∀ k, blockOf Az k → ¬ blockOf U k)
    (hk : Only (blockOf Az) w w1) (hg : Grp w2 bm base m' D' cs.length G' (blockOf U)) (hm : Only (fun k => k = bm) w1 w2) : Hold w0 w2 b bm base vars cs vs A c m' D' U cu us G' K := by
  obtain ⟨q1, q2, q3, q4, q5, q6⟩ := h.lt
  have hbz := own_base hz
  have hbr := own_base h.rows
  have hbu := own_base h.un
  have r1 := own_only h.rows hk (own_apart h.rows hz (by decide))
  have u1 := own_only h.un hk (fun k c e => hzu k e c)
  exact ⟨(h.box.only hk (fun c => by have := hbz _ c; omega)).only hm (fun e => q6 e), h.vlen, own_only r1 hm (fun k c e => by have := hbr k c; omega), h.cls, hg, own_only u1 hm (fun k c e => by have := hbu k c; omega), h.u1, h.u2,
    (h.bel.trans (hk.low (B := w0.heap.size) (fun k c => by have := hbz k c; omega) (by omega))).trans (hm.low (B := w0.heap.size) (fun k c => by omega) (by have := hk.size; omega)), ⟨q1, q2, q3, q4, by have := hk.size; have := hm.size; omega, q6⟩⟩
/-- one unit more -/
theorem Hold.unit {U' : Option Addr} {cu' i : Nat} (h : Hold w0 w b bm base vars cs vs A c m D U cu us G i) (hi : i < cs.length) (hk : Only (blockOf U) w w7)
    (ho : w7.ownsRow base 3 1 (.slice U' (us.length + 1) cu') (us.length + 1) (us.map (Value.int .i64) ++ [.int .i64 i])) (hloc : ∀ k, blockOf U' k → blockOf U k ∨ w.heap.size ≤ k) :
    Hold w0 (w7.setCell ⟨b, 3, none⟩ (.slice U' (us.length + 1) cu')) b bm base vars cs vs A c m D U' cu' (us ++ [(i : Int)]) G (i + 1) := by
  obtain ⟨q1, q2, q3, q4, q5, q6⟩ := h.lt
  have hbu := own_base h.un
  have hbo := own_base ho
  have hbr := own_base h.rows
  have os := (Only.refl (fun j => j = b) w7).setCell (p := ⟨b, 3, none⟩) (fun _ => rfl) (.slice U' (us.length + 1) cu')
  have hb7 := h.box.only hk (fun c => by have := hbu _ c; omega)
  have hg7 := ((h.grp.reno (No' := fun g => blockOf U g ∨ blockOf U' g) (fun g hg => hg.elim .inl (hloc g))).only hk (fun c => by have := hbu _ c; omega) (fun g cur _ _ hno hx => hno (.inl hx))).reno (No' := blockOf U') (fun g hg => .inl (.inr hg))
  refine ⟨?_, h.vlen, own_only (own_only h.rows hk (own_apart h.rows h.un (by decide))) os (fun k c e => by have := hbr k c; omega), h.cls, hg7.only os (fun e => by omega) (fun g cur hg _ _ e => by omega), ?_, fun z hz => ?_, fun j x hj hx => ?_, ?_, ⟨q1, q2, q3, q4, by have := hk.size; have := os.size; omega, q6⟩⟩
  · have e : (us ++ [(i : Int)]).length = us.length + 1 := by simp
    rw [e]
    exact hb7.set (fun j hj hne => by
      obtain rfl | rfl | rfl | rfl : j = 0 ∨ j = 1 ∨ j = 2 ∨ j = 4 := by omega
      all_goals rfl) rfl
  · have e : (us ++ [(i : Int)]).length = us.length + 1 := by simp
    rw [e]
    have := own_only ho os (fun k c e => by have := hbo k c; omega)
    simpa using this
  · rcases List.mem_append.1 hz with hz | hz
    · exact h.u1 z hz
    · simp at hz; omega
  · by_cases e : j < i
    · exact (h.u2 j x e hx).imp (fun h => List.mem_append_left _ h) id
    · obtain rfl : j = i := by omega
      exact .inl (by simp)
  · exact (h.bel.trans (hk.low (B := w0.heap.size) (fun k c => by have := hbu k c; omega) (by omega))).trans (os.low (B := w0.heap.size) (fun k c => by omega) (by have := hk.size; omega))
end
end Go.Proofs.Ytkanekacjefcbaa
