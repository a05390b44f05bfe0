/- What Encode writes, in plain Lean: the bits of a configuration; how long they are. What a loop's invariant speaks of stays. No condition. -/
import Derived.Test.YtbnjbclkmjjkhaaDoorFdV
import Derived.Test.YtbnjbclkmjjkhaaDoorBtL
namespace Go.Proofs.YtbnjbclkmjjkhaaDoor
open Go.RowKit Go.Shelf

def Cf.fbits (c : Cf) : Fi → List Bool
  | .bits i k => bitsOf (c.B i k).toNat 16
  | .sel i k j => bitsOf (c.L i k j).toNat (wid (c.src i)).toNat
  | .init k => bitsOf (if c.RI k = true then 1 else 0) 1
  | .rsel k => bitsOf (c.RS k).toNat (wid (c.src 1)).toNat
  | .out k => bitsOf (c.O k).toNat (wid (c.src 1)).toNat
def Cf.enc (c : Cf) : List Fi → List Bool
  | [] => []
  | x :: l => c.fbits x ++ c.enc l
theorem Cf.enc_append (c : Cf) : ∀ (a b : List Fi), c.enc (a ++ b) = c.enc a ++ c.enc b
  | [], b => rfl
  | x :: a, b => by simp [Cf.enc, Cf.enc_append c a b]
theorem Cf.enc_one (c : Cf) (x : Fi) : c.enc [x] = c.fbits x := by simp [Cf.enc]
def magicL : List Bool := bitsOf 71 8 ++ (bitsOf 87 8 ++ (bitsOf 66 8 ++ bitsOf 49 8))
theorem magic_pack : packB magicL = [71, 87, 66, 49] := by decide
def Cf.shB (c : Cf) : Nat → List Bool
  | 0 => magicL
  | k + 1 => c.shB k ++ bitsOf (c.sh k).toNat 16
def Cf.encB (c : Cf) : List Bool := c.shB 5 ++ c.enc c.flds
def Cf.text (c : Cf) : List UInt8 := packB c.encB ++ be4 (crcF (packB c.encB))

theorem magic_len : magicL.length = 32 := by decide
theorem Cf.shB_len (c : Cf) : ∀ k, (c.shB k).length = 32 + 16 * k
  | 0 => magic_len
  | k + 1 => by simp only [Cf.shB, List.length_append, bitsOf_len, Cf.shB_len c k]; omega
theorem Cf.fbits_len (c : Cf) (h : ShOk c.sh) (x : Fi) : (c.fbits x).length ≤ 16 := by
  have hw : ∀ i, (wid (c.src i)).toNat ≤ 16 := fun i => by
    have := c.src_le h i
    have := wid_le (n := c.src i) (by omega) (by omega)
    omega
  cases x <;> simp only [Cf.fbits, bitsOf_len] <;> first | exact hw _ | omega
theorem Cf.enc_len (c : Cf) (h : ShOk c.sh) : ∀ l : List Fi, (c.enc l).length ≤ 16 * l.length
  | [] => by simp [Cf.enc]
  | x :: l => by
    have h1 := c.fbits_len h x
    have h2 := c.enc_len h l
    simp only [Cf.enc, List.length_append, List.length_cons]; omega
theorem colF_len (i : Nat) : ∀ k, (colF i k).length = 5 * k
  | 0 => rfl
  | k + 1 => by simp only [colF, List.length_append, colF_len i k, cellF, List.length_cons, List.length_nil]; omega
theorem allF_len (c : Cf) (h : ∀ i, i < c.nc → c.rows i ≤ 500) : ∀ i, i ≤ c.nc → (c.allF i).length ≤ 2500 * i
  | 0, _ => by simp [Cf.allF]
  | i + 1, hi => by
    have h1 := allF_len c h i (by omega)
    have h2 := h i (by omega)
    simp only [Cf.allF, List.length_append, colF_len]; omega
theorem regF_len : ∀ k, (regF k).length = 2 * k
  | 0 => rfl
  | k + 1 => by simp only [regF, List.length_append, regF_len k, List.length_cons, List.length_nil]; omega
theorem outF_len : ∀ k, (outF k).length = k
  | 0 => rfl
  | k + 1 => by simp only [outF, List.length_append, outF_len k, List.length_cons, List.length_nil]
theorem Cf.Dims.rows_le {c : Cf} (d : c.Dims) : ∀ i, i < c.nc → c.rows i ≤ 500 := fun i hi => by have := d.rows i hi; have := d.sh.s3; omega
theorem Cf.flds_len {c : Cf} (d : c.Dims) : c.flds.length ≤ 300000 := by
  have h1 := allF_len c d.rows_le c.nc (Nat.le_refl _)
  have := d.nc; have := d.nr; have := d.no
  have := d.sh.s4; have := d.sh.s2; have := d.sh.s1
  simp only [Cf.flds, List.length_append, regF_len, outF_len]; omega

/-- a field, as it lies, for the writer -/
theorem Cf.fv_enc {c : Cf} {W : World} (h : c.At W) (hok : c.Ok) (x : c.F) :
    (∃ b o β, c.fv x.1 = .agg #[.pointer none, .pointer (some ⟨b, o, none⟩), .int .i64 2, .int .i64 1] ∧ W.cell? ⟨b, o, none⟩ = some (.bool β) ∧ c.fbits x.1 = bitsOf (if β = true then 1 else 0) 1) ∨
    (∃ (b o v d : Nat) (m : Int), c.fv x.1 = .agg #[.pointer (some ⟨b, o, none⟩), .pointer none, .int .i64 m, .int .i64 d] ∧ W.cell? ⟨b, o, none⟩ = some (.int .i64 v) ∧ c.fbits x.1 = bitsOf v d ∧ d ≤ 16 ∧ v < 65536) := by
  have hw : ∀ i, 0 ≤ wid (c.src i) ∧ wid (c.src i) ≤ 10 ∧ c.src i ≤ 1002 := fun i => by
    have h1 := c.src_le hok.d.sh i
    have h2 := wid_le (n := c.src i) (by omega) (by omega)
    omega
  obtain ⟨x, hx⟩ := x
  cases x with
  | bits i k =>
    right
    obtain ⟨b, o, e, hc⟩ := h.cells i hx.1 (by have := hx.2; omega)
    have hb := hok.b i hx.1 k hx.2
    have := hc k hx.2 4 (by omega)
    rw [Nat.add_assoc] at this
    exact ⟨b, o + (k * 5 + 4), (c.B i k).toNat, 16, 65536, by simp [Cf.fv, plus, e], this.trans (by rw [show (((c.B i k).toNat : Nat) : Int) = c.B i k by omega]; rfl), rfl, by omega, by omega⟩
  | sel i k j =>
    right
    obtain ⟨b, o, e, hc⟩ := h.cells i hx.1.1 (by have := hx.1.2; omega)
    have hj : j < 4 := hx.2
    have hl := hok.l i hx.1.1 k hx.1.2 j hj
    have h5 := hc k hx.1.2 j (by omega)
    rw [Nat.add_assoc] at h5
    have hw' := hw i
    refine ⟨b, o + (k * 5 + j), (c.L i k j).toNat, (wid (c.src i)).toNat, c.src i, by simp [Cf.fv, plus, e]; omega, h5.trans ?_, rfl, by omega, by omega⟩
    rw [show (((c.L i k j).toNat : Nat) : Int) = c.L i k j by omega]
    obtain rfl | rfl | rfl | rfl : j = 0 ∨ j = 1 ∨ j = 2 ∨ j = 3 := by omega
    all_goals rfl
  | init k =>
    left
    obtain ⟨b, o, e, hc⟩ := h.regs (by have : k < c.nr := hx; omega)
    have h1 := hc k hx 1 (by omega)
    rw [Nat.add_assoc] at h1
    exact ⟨b, o + (k * 2 + 1), c.RI k, by simp [Cf.fv, plus, e], h1, rfl⟩
  | rsel k =>
    right
    obtain ⟨b, o, e, hc⟩ := h.regs (by have : k < c.nr := hx; omega)
    have hr := hok.r k hx
    have hw' := hw 1
    exact ⟨b, o + k * 2, (c.RS k).toNat, (wid (c.src 1)).toNat, c.src 1, by simp [Cf.fv, plus, e]; omega, (hc k hx 0 (by omega)).trans (by rw [show (((c.RS k).toNat : Nat) : Int) = c.RS k by omega]; rfl), rfl, by omega, by omega⟩
  | out k =>
    right
    obtain ⟨b, o, e, hc⟩ := h.outs (by have : k < c.no := hx; omega)
    have hr := hok.o k hx
    have hw' := hw 1
    exact ⟨b, o + k, (c.O k).toNat, (wid (c.src 1)).toNat, c.src 1, by simp [Cf.fv, plus, e]; omega, (hc k hx).trans (by rw [show (((c.O k).toNat : Nat) : Int) = c.O k by omega]), rfl, by omega, by omega⟩

/-! ### What stays where a block that is no cells is turned -/
theorem heap_kept {W W' : World} {row : Option Nat} (hg : W.grownBy W' row) (hr : ∀ r, row = some r → ∃ o : Obj, W.heap[r]? = some o ∧ o.isCells = false) {b : Nat} {cur : Array Value} {t : TypeId} {z : Nat × Nat} (h : W.heap[b]? = some (.cells cur t z)) : W'.heap[b]? = some (.cells cur t z) :=
  (hg.block b (Array.getElem?_eq_some_iff.1 h).1 (fun e => by obtain ⟨o, ho, hc⟩ := hr b e.symm; rw [h] at ho; cases ho; cases hc)).trans h
theorem Arr.grown {W W' : World} {row : Option Nat} (hg : W.grownBy W' row) (hr : ∀ r, row = some r → ∃ o : Obj, W.heap[r]? = some o ∧ o.isCells = false) {b n : Nat} {e : TypeId} {V : Nat → Value} (h : Arr W b e n V) : Arr W' b e n V := by
  obtain ⟨cur, hh, r⟩ := h
  exact ⟨cur, heap_kept hg hr hh, r⟩
theorem Byt.grown {W W' : World} {row : Option Nat} (hg : W.grownBy W' row) (hr : ∀ r, row = some r → ∃ o : Obj, W.heap[r]? = some o ∧ o.isCells = false) {base c : Nat} {A : Option Addr} {l : List UInt8} (h : Byt base W A c l) : Byt base W' A c l := by
  refine ⟨h.1, ?_⟩
  rcases h.2 with h0 | ⟨g, cur, lo, hi, e, hb, hh, r⟩
  · exact .inl h0
  · exact .inr ⟨g, cur, lo, hi, e, hb, heap_kept hg hr hh, r⟩
theorem Pen.grown {W W' : World} {row : Option Nat} (hg : W.grownBy W' row) (hr : ∀ r, row = some r → ∃ o : Obj, W.heap[r]? = some o ∧ o.isCells = false) {base bp c : Nat} {A : Option Addr} {L : List Bool} (h : Pen base W bp L A c) : Pen base W' bp L A c := ⟨h.box.grown hg hr, h.row.grown hg hr⟩
theorem Pen.below {W W' : World} {base bp c : Nat} {A : Option Addr} {L : List Bool} (h : Pen base W bp L A c) (k : Below W.heap.size W W') : Pen base W' bp L A c := ⟨h.box.below k, h.row.below k⟩
theorem Strm.below {W W' : World} {base bp c : Nat} {A : Option Addr} {L : List Bool} (h : Strm base W bp L A c) (k : Below W.heap.size W W') : Strm base W' bp L A c := ⟨h.box.below k, h.row.below k⟩

/-- a writer of bits leaves what a loop asks for -/
theorem kept_puts {n₀ base bp : Nat} {W W' : World} (h : Only (PutS base bp W) W W') (hb : n₀ ≤ base) (hp : n₀ ≤ bp) (ht : ∃ cur z, W.heap[bp]? = some (.cells cur 101 z)) : Kept n₀ W W' :=
  ⟨h.size, fun k hk hA => h.block k hA (fun hs => by rcases hs with rfl | ⟨hs, _⟩ <;> omega), fun k cur t z hg hA => (h.block k (Array.getElem?_eq_some_iff.1 hA).1 (fun hs => by
    have hu : ¬ guarded 5 := by unfold guarded; decide
    have hq : ¬ guarded 101 := by unfold guarded; decide
    rcases hs with rfl | ⟨_, cur', z', hc⟩
    · obtain ⟨cur', z', hc⟩ := ht
      rw [hA] at hc; injection hc with hc; injection hc with _ h2; exact hq (h2 ▸ hg)
    · rw [hA] at hc; injection hc with hc; injection hc with _ h2; exact hu (h2 ▸ hg))).trans hA⟩
theorem others_puts {B base bp : Nat} {W W' : World} (h : Only (PutS base bp W) W W') (ht : ∃ cur z, W.heap[bp]? = some (.cells cur 101 z)) : KeepsFrom B W W' :=
  ⟨h.size, fun k o _ hA ho => (h.block k (Array.getElem?_eq_some_iff.1 hA).1 (fun hs => by
    rcases hs with rfl | ⟨_, cur', z', hc⟩
    · obtain ⟨cur', z', hc⟩ := ht
      rw [hA] at hc; cases hc; cases ho
    · rw [hA] at hc; cases hc; cases ho)).trans hA⟩
theorem below_puts {B base bp : Nat} {W W' : World} (h : Only (PutS base bp W) W W') (hb : B ≤ base) (hp : B ≤ bp) (hB : B ≤ W.heap.size) : Below B W W' := h.below (fun k _ hs => by rcases hs with rfl | ⟨hs, _⟩ <;> omega) hB
end Go.Proofs.YtbnjbclkmjjkhaaDoor
