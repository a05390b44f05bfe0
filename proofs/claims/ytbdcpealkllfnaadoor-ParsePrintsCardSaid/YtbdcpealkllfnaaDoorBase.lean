/- Plain words for memory: rows of cells that are read, what is kept from world to world, a condition as a bool, and how an argument's reading is opened down to its cells. No condition. -/
import Derived.Test.YtbdcpealkllfnaaDoorRows
import Derived.WalkKit
import Derived.WalkSpells
import Derived.WalkLawsBesides
import Derived.ProofKit
import Derived.OpenShut
import Derived.Deep.Slices
import Derived.SizedLaws
import Derived.Lib.Hide
namespace Go.Proofs.YtbdcpealkllfnaaDoor
open Go.RowKit Go.ChangeShapes Go.WideShapes Go.Deep

/-- what can be read in w reads the same in w1 -/
def Keeps (w w1 : World) : Prop := ∀ (a : Addr) (v : Value), w.cell? a = some v → w1.cell? a = some v

theorem Keeps.refl (w : World) : Keeps w w := fun _ _ h => h
theorem Keeps.trans {a b c : World} (h : Keeps a b) (k : Keeps b c) : Keeps a c := fun p v hp => k p v (h p v hp)
theorem Keeps.of_below {w w1 : World} (hb : Below w.heap.size w w1) : Keeps w w1 := fun a v h => by
 rw [hb.cell (World.block_lt_of_cell? w a h), h]
theorem Keeps.alloc (w : World) (o : Obj) : Keeps w (w.alloc o) := fun a v h => by
 rw [World.cell?_alloc_lt w o a (World.block_lt_of_cell? w a h), h]
theorem Keeps.drew (w : World) : Keeps w w.drew := fun _ _ h => h
theorem Keeps.below_alloc {w w1 : World} {o : Obj} (hb : Below (w.alloc o).heap.size (w.alloc o) w1) : Keeps w w1 := (Keeps.alloc w o).trans (Keeps.of_below hb)
theorem Below.alloc_then {w w1 : World} {o : Obj} (hb : Below (w.alloc o).heap.size (w.alloc o) w1) : Below w.heap.size w w1 :=
 ((Below.refl _ _).alloc (Nat.le_refl _) _).trans (hb.mono (by simp))
theorem Below.then_call {B : Nat} {w w1 w2 : World} (h : Below B w w1) (k : Below w1.heap.size w1 w2) (hB : B ≤ w1.heap.size) : Below B w w2 := h.trans (k.mono hB)

/-- a slice's address A leads to n elements of one cell each -/
def Row1 (w : World) (A : Option Addr) (n : Nat) (f : Nat → Value) : Prop :=
 0 < n → ∃ b off, A = some ⟨b, off, none⟩ ∧ ∀ k, k < n → w.cell? ⟨b, off + k, none⟩ = some (f k)
/-- .. of s cells each -/
def RowS (w : World) (s : Nat) (A : Option Addr) (n : Nat) (f : Nat → Nat → Value) : Prop :=
 0 < n → ∃ b off, A = some ⟨b, off, none⟩ ∧ ∀ k, k < n → ∀ j, j < s → w.cell? ⟨b, off + k * s + j, none⟩ = some (f k j)

theorem Row1.keeps {w w1 : World} {A : Option Addr} {n : Nat} {f : Nat → Value} (h : Row1 w A n f) (k : Keeps w w1) : Row1 w1 A n f := fun hn => by
 obtain ⟨b, off, e, hc⟩ := h hn
 exact ⟨b, off, e, fun i hi => k _ _ (hc i hi)⟩
theorem RowS.keeps {w w1 : World} {s : Nat} {A : Option Addr} {n : Nat} {f : Nat → Nat → Value} (h : RowS w s A n f) (k : Keeps w w1) : RowS w1 s A n f := fun hn => by
 obtain ⟨b, off, e, hc⟩ := h hn
 exact ⟨b, off, e, fun i hi j hj => k _ _ (hc i hi j hj)⟩
theorem RowS.one {w : World} {A : Option Addr} {n : Nat} {f : Nat → Nat → Value} (h : RowS w 1 A n f) : Row1 w A n (fun k => f k 0) := fun hn => by
 obtain ⟨b, off, e, hc⟩ := h hn
 exact ⟨b, off, e, fun i hi => by simpa using hc i hi 0 (by omega)⟩
/-- the cell of element k, ready for the walk -/
theorem Row1.at_ {w : World} {A : Option Addr} {n : Nat} {f : Nat → Value} (h : Row1 w A n f) {k : Nat} (hk : k < n) :
  ∃ b off, A = some ⟨b, off, none⟩ ∧ w.cell? ⟨b, off + k, none⟩ = some (f k) := by
 obtain ⟨b, off, e, hc⟩ := h (by omega)
 exact ⟨b, off, e, hc k hk⟩
theorem RowS.at2 {w : World} {A : Option Addr} {n : Nat} {f : Nat → Nat → Value} (h : RowS w 2 A n f) {k : Nat} (hk : k < n) :
  ∃ b off, A = some ⟨b, off, none⟩ ∧ w.cell? ⟨b, off + k * 2, none⟩ = some (f k 0) ∧ w.cell? ⟨b, off + k * 2 + 1, none⟩ = some (f k 1) := by
 obtain ⟨b, off, e, hc⟩ := h (by omega)
 exact ⟨b, off, e, by simpa using hc k hk 0 (by omega), hc k hk 1 (by omega)⟩

/-- block b begins with these cells -/
def BoxAt (w : World) (b : Nat) (cs : List Value) : Prop := ∀ (j : Nat) (v : Value), cs[j]? = some v → w.cell? ⟨b, j, none⟩ = some v
theorem BoxAt.keeps {w w1 : World} {b : Nat} {cs : List Value} (h : BoxAt w b cs) (k : Keeps w w1) : BoxAt w1 b cs := fun j v e => k _ _ (h j v e)
theorem BoxAt.new (w : World) (cs : List Value) (t : TypeId) : BoxAt (w.alloc (.cells cs.toArray t)) w.heap.size cs := fun j v e => by
 rw [World.cell?_alloc_new]; simpa using e
theorem BoxAt.four {w : World} {b : Nat} {v0 v1 v2 v3 : Value} (h : BoxAt w b [v0, v1, v2, v3]) :
  w.cell? ⟨b, 0, none⟩ = some v0 ∧ w.cell? ⟨b, 1, none⟩ = some v1 ∧ w.cell? ⟨b, 2, none⟩ = some v2 ∧ w.cell? ⟨b, 3, none⟩ = some v3 := ⟨h 0 _ rfl, h 1 _ rfl, h 2 _ rfl, h 3 _ rfl⟩

/-- a pair of values by its place -/
def two (a b : Value) : Nat → Value
 | 0 => a
 | _ => b

/-- a condition as a bool -/
noncomputable def tf (p : Prop) : Bool := @decide p (Classical.propDecidable p)
theorem tf_yes {p : Prop} (h : p) : tf p = true := by exact @decide_eq_true p (Classical.propDecidable p) h
theorem tf_no {p : Prop} (h : ¬ p) : tf p = false := by exact @decide_eq_false p (Classical.propDecidable p) h
theorem tf_eq_true {p : Prop} : tf p = true ↔ p := by exact @decide_eq_true_iff p (Classical.propDecidable p)
theorem tf_eq_false {p : Prop} : tf p = false ↔ ¬ p := by exact @decide_eq_false_iff_not p (Classical.propDecidable p)
theorem tf_congr {p q : Prop} (h : p ↔ q) : tf p = tf q := by
 by_cases hp : p
 ·
  rw [tf_yes hp, tf_yes (h.1 hp)]
 ·
  rw [tf_no hp, tf_no (fun hq => hp (h.2 hq))]

theorem ret_bool {a b : Bool} (h : a = b) : Ending.returned (.bool a) = .returned (.bool b) := by rw [h]
theorem ret_int {k : IntKind} {a b : Int} (h : a = b) : Ending.returned (.int k a) = .returned (.int k b) := by rw [h]

/-! ### An argument's reading, opened -/
section
variable {H : Type} {enc : TypeId × Value → H} {P : Program}

/-- these cells read as some datum of type t, none of whose slices is out of reach, of bulk at most N -/
def Good (N : Nat) (enc : TypeId × Value → H) (P : Program) (w : World) (t : TypeId) (cs : List Value) : Prop :=
 ∃ fuel d p, DataW.trod enc P w 0 (fun _ => true) true fuel t cs = some (d, p) ∧ (∀ x ∈ DataW.weights P t d, x ≤ reachBytes) ∧ Rows.uptoBulk d ≤ N

theorem bulk_pos (d : DataW H) : 1 ≤ Rows.uptoBulk d := by
 cases d with
 | lit l => cases l <;> simp [Rows.uptoBulk]
 | _ => simp [Rows.uptoBulk]
theorem bulkAll_len : ∀ (l : List (DataW H)), l.length ≤ Rows.uptoBulkAll l
 | [] => by simp
 | d :: l => by
  have := bulk_pos d
  have := bulkAll_len l
  simp only [Rows.uptoBulkAll, List.length_cons]; omega
theorem bulkAll_mem : ∀ {l : List (DataW H)} {d : DataW H}, d ∈ l → Rows.uptoBulk d ≤ Rows.uptoBulkAll l
 | a :: l, d, hd => by
  simp only [Rows.uptoBulkAll]
  rcases List.mem_cons.1 hd with rfl | h
  ·
   omega
  ·
   have := bulkAll_mem h; omega

theorem weightsAll_mem {e : TypeId} : ∀ {l : List (DataW H)} {d : DataW H} {x : Nat}, d ∈ l → x ∈ d.weights P e → x ∈ DataW.weightsAll P e l
 | a :: l, d, x, hd, hx => by
  simp only [DataW.weightsAll, List.mem_append]
  rcases List.mem_cons.1 hd with rfl | h
  ·
   exact .inl hx
  ·
   exact .inr (weightsAll_mem h hx)

theorem good_int {N : Nat} {w : World} {t : TypeId} {k : IntKind} {cs : List Value} (ht : P.underlying t = some (.int k)) (h : Good N enc P w t cs) : ∃ n, cs = [.int k n] ∧ (Lit.int k n).wf = true := by
 obtain ⟨fuel, d, p, h, _, _⟩ := h
 obtain ⟨n, hc, _, hw⟩ := DataW.trod_int ht h
 exact ⟨n, hc, hw⟩
theorem good_bool {N : Nat} {w : World} {t : TypeId} {cs : List Value} (ht : P.underlying t = some .bool) (h : Good N enc P w t cs) : ∃ b, cs = [.bool b] := by
 obtain ⟨fuel, d, p, h, _, _⟩ := h
 obtain ⟨n, hc, _⟩ := DataW.trod_bool ht h
 exact ⟨n, hc⟩
theorem good_string {N : Nat} {w : World} {t : TypeId} {cs : List Value} (ht : P.underlying t = some .string) (h : Good N enc P w t cs) : ∃ s : ByteArray, cs = [.string s] ∧ s.size ≤ reachBytes := by
 obtain ⟨fuel, d, p, h, hx, hbk⟩ := h
 obtain ⟨s, hc, he, _⟩ := DataW.trod_string ht h
 refine ⟨s, hc, ?_⟩
 simp only [Prod.mk.injEq] at he
 obtain ⟨rfl, _⟩ := he
 have := hx s.data.toList.length (by simp [DataW.weights])
 simpa using this

theorem add_eq (b off j : Nat) : (⟨b, off, none⟩ : Addr).add j = ⟨b, off + j, none⟩ := by
 unfold Addr.add
 by_cases h : j = 0 <;> simp [h]

theorem good_slice {N : Nat} {w : World} {t e : TypeId} {cs : List Value} (s : Nat) (hs : P.cellsOf e = s) (hpos : 0 < s) (ht : P.underlying t = some (.slice e)) (h : Good N enc P w t cs) :
  ∃ (A : Option Addr) (n c : Nat) (f : Nat → Nat → Value), cs = [.slice A n c] ∧ n ≤ c ∧ c * P.bytesOf e ≤ reachBytes ∧ c ≤ N ∧ RowS w s A n f ∧ ∀ k, k < n → Good N enc P w e ((List.range s).map (f k)) := by
 obtain ⟨fuel, d, p, h, hx, hbk⟩ := h
 rcases open_slice ht h with ⟨rfl, _⟩ | ⟨a, len, cap, m, n, D, Pl, rfl, _, hl, hcm, hm, he, hi⟩
 ·
  exact ⟨none, 0, 0, fun _ _ => .bool true, rfl, Nat.le_refl _, by simp, by omega, fun h => absurd h (by omega), fun k hk => absurd hk (by omega)⟩
 ·
  simp only [if_true] at hm
  subst hm
  simp only [Prod.mk.injEq] at he
  obtain ⟨rfl, rfl⟩ := he
  rw [hs] at hi
  have hall : ∀ k, k < len → ∃ cs' : List Value, cs'.length = s ∧ (∀ j, j < s → w.cell? ((a.add (k * s)).add j) = cs'[j]?) ∧ DataW.trod enc P w 0 (fun _ => true) true n e cs' = some (D k, Pl k) := by
   intro k hk
   obtain ⟨cs', h1, h2⟩ := hi k (by omega)
   obtain ⟨_, hlen, hat⟩ := World.cells?_some h1
   exact ⟨cs', hlen, hat, h2⟩
  obtain ⟨F, hF⟩ := choose_lt (α := List Value) hall
  refine ⟨some a, len, m, fun k j => (F k).getD j (.bool true), rfl, hl, ?_, ?_, ?_, ?_⟩
  rotate_left
  ·
   have h1 := bulkAll_len (List.map D (List.range len))
   have h2 := bulkAll_len (List.map (fun j => D (len + j)) (List.range (m - len)))
   simp only [Rows.uptoBulk, List.length_map, List.length_range] at hbk h1 h2
   omega
  rotate_right
  ·
   have := hx ((len + (m - len)) * P.bytesOf e) (by simp [DataW.weights, ht])
   rwa [show len + (m - len) = m by omega] at this
  ·
   intro hn
   obtain ⟨b, off, spot⟩ := a
   obtain ⟨h1, h2, h3⟩ := hF 0 (by omega)
   have hz : (F 0)[0]? = some ((F 0).getD 0 (.bool true)) := by
    rw [List.getD_eq_getElem?_getD, List.getElem?_eq_getElem (by omega)]; rfl
   have hc := h2 0 (by omega)
   rw [hz] at hc
   have hspot : spot = none := by simpa [Addr.add] using World.cell?_spot hc
   subst hspot
   refine ⟨b, off, rfl, fun k hk j hj => ?_⟩
   obtain ⟨h1, h2, _⟩ := hF k hk
   have := h2 j hj
   rw [add_eq, add_eq] at this
   rw [this, List.getElem?_eq_getElem (by omega)]
   show _ = some ((F k).getD j (.bool true))
   rw [List.getD_eq_getElem?_getD, List.getElem?_eq_getElem (by omega)]
   rfl
  ·
   intro k hk
   obtain ⟨h1, _, h3⟩ := hF k hk
   have e1 : (List.range s).map (fun j => (F k).getD j (.bool true)) = F k := by
    apply List.ext_getElem?
    intro j
    by_cases hj : j < s
    ·
     simp [hj, List.getElem?_eq_getElem (show j < (F k).length by omega)]
    ·
     simp [hj, List.getElem?_eq_none (show (F k).length ≤ j by omega)]
   rw [e1]
   refine ⟨n, _, _, h3, fun x hxx => hx x ?_, ?_⟩
   ·
    simp only [DataW.weights, ht, List.mem_cons, List.mem_append]
    exact .inr (.inl (weightsAll_mem (List.mem_map.2 ⟨k, by simpa using hk, rfl⟩) hxx))
   ·
    have h1 := bulkAll_mem (l := List.map D (List.range len)) (d := D k) (List.mem_map.2 ⟨k, by simpa using hk, rfl⟩)
    simp only [Rows.uptoBulk] at hbk
    omega

theorem weightsEach_get : ∀ {ts : List TypeId} {ds : List (DataW H)} {i : Nat} {t : TypeId} {d : DataW H} {x : Nat}, ts[i]? = some t → ds[i]? = some d → x ∈ d.weights P t → x ∈ DataW.weightsEach P ts ds :=
 fun ht hd hx => DataW.weights_mem_each ht hd _ hx

theorem good_struct {N : Nat} {w : World} {t : TypeId} {fs : Array Field} {cs : List Value} (ht : P.underlying t = some (.struct fs)) (h : Good N enc P w t cs) :
  cs.length = P.cellsOf t ∧ ∀ (i : Nat) (f : Field), fs[i]? = some f → Good N enc P w f.type ((cs.drop f.offset).take (P.cellsOf f.type)) := by
 obtain ⟨fuel, d, p, h, hx, hbk⟩ := h
 obtain ⟨xs, n, _, he, hlen, hxl, hf⟩ := DataW.trod_struct ht h
 refine ⟨hlen, fun i f hi => ?_⟩
 have h1 := hf i f hi
 have hil : i < fs.size := (Array.getElem?_eq_some_iff.1 hi).1
 rw [List.getElem?_eq_getElem (by omega)] at h1
 simp only [Prod.mk.injEq] at he
 obtain ⟨rfl, _⟩ := he
 refine ⟨n, _, _, h1, fun x hxx => hx x ?_, ?_⟩
 rotate_left
 ·
  have h2 := bulkAll_mem (l := xs.map (·.1)) (d := (xs[i]'(by omega)).1) (List.mem_map.2 ⟨_, List.getElem_mem _, rfl⟩)
  simp only [Rows.uptoBulk] at hbk
  show Rows.uptoBulk (xs[i]'(by omega)).1 ≤ N
  omega
 simp only [DataW.weights, ht]
 exact weightsEach_get (i := i) (t := f.type) (by simp [hi]) (by rw [List.getElem?_map, List.getElem?_eq_getElem (by omega)]; rfl) hxx

theorem good_field {N : Nat} {w : World} {t : TypeId} {fs : Array Field} {cs : List Value} (ht : P.underlying t = some (.struct fs)) (h : Good N enc P w t cs) (i T c o : Nat)
  (hi : (fs[i]?).map (fun f => (f.type, f.offset)) = some (T, o)) (hc : P.cellsOf T = c) : Good N enc P w T ((cs.drop o).take c) := by
 obtain ⟨_, hf⟩ := good_struct ht h
 cases hfi : fs[i]? with
 | none => rw [hfi] at hi; cases hi
 | some f =>
  rw [hfi] at hi
  simp only [Option.map_some, Option.some.injEq, Prod.mk.injEq] at hi
  obtain ⟨rfl, rfl⟩ := hi
  subst hc
  exact hf i f hfi

theorem good_len {N : Nat} {w : World} {t : TypeId} {fs : Array Field} {cs : List Value} (ht : P.underlying t = some (.struct fs)) (h : Good N enc P w t cs) {c : Nat} (hc : P.cellsOf t = c) : cs.length = c := hc ▸ (good_struct ht h).1

theorem good_array {N : Nat} {w : World} {t e : TypeId} {m : Nat} {cs : List Value} (ht : P.underlying t = some (.array m e)) (h : Good N enc P w t cs) :
  cs.length = P.cellsOf t ∧ ∀ (i : Nat), i < m → Good N enc P w e ((cs.drop (i * P.cellsOf e)).take (P.cellsOf e)) := by
 obtain ⟨fuel, d, p, h, hx, hbk⟩ := h
 obtain ⟨xs, n, _, he, hlen, hxl, hf⟩ := DataW.trod_array ht h
 refine ⟨hlen, fun i hi => ?_⟩
 have h1 := hf i hi
 rw [List.getElem?_eq_getElem (by omega)] at h1
 simp only [Prod.mk.injEq] at he
 obtain ⟨rfl, _⟩ := he
 refine ⟨n, _, _, h1, fun x hxx => hx x ?_, ?_⟩
 rotate_left
 ·
  have h2 := bulkAll_mem (l := xs.map (·.1)) (d := (xs[i]'(by omega)).1) (List.mem_map.2 ⟨_, List.getElem_mem _, rfl⟩)
  simp only [Rows.uptoBulk] at hbk
  show Rows.uptoBulk (xs[i]'(by omega)).1 ≤ N
  omega
 simp only [DataW.weights, ht]
 exact weightsAll_mem (List.mem_map.2 ⟨xs[i], List.getElem_mem _, rfl⟩) hxx

theorem good_elem {N : Nat} {w : World} {t e : TypeId} {m : Nat} {cs : List Value} (ht : P.underlying t = some (.array m e)) (h : Good N enc P w t cs) (i c : Nat) (hi : i < m) (hc : P.cellsOf e = c) :
  Good N enc P w e ((cs.drop (i * c)).take c) := hc ▸ (good_array ht h).2 i hi

/-- the i-th cell of an element of s cells -/
theorem range_cell (f : Nat → Value) (s i : Nat) (h : i < s) : (((List.range s).map f).drop i).take 1 = [f i] := by
 apply List.ext_getElem?
 intro j
 rcases j with _ | j
 ·
  simp [h]
 ·
  simp; omega
end

end Go.Proofs.YtbdcpealkllfnaaDoor
