/- Words for the memory of a run of a netlist: where registers, memories and the nodes' words lie; new slices of words, new rows of them. No condition. -/
import Derived.Test.YtmbcfondglhiiaaWordN
import Derived.Test.YtmbcfondglhiiaaArr
namespace Go.Proofs.Ytmbcfondglhiiaa
open Go.RowKit

/-- a slice of words -/
def Words (w : World) (A : Option Addr) (n : Nat) (V : Nat → Int) : Prop := Row1 w A n (fun j => .int .u64 (V j))
/-- a slice of rows of words -/
def MatW (w : World) (A : Option Addr) (n : Nat) (len : Nat → Nat) (R : Nat → Nat → Int) : Prop :=
  ∃ (RA : Nat → Option Addr) (RC : Nat → Nat), Row1 w A n (fun i => .slice (RA i) (len i) (RC i)) ∧ ∀ i, i < n → Words w (RA i) (len i) (R i)
theorem MatW.keeps {w w1 : World} {A : Option Addr} {n : Nat} {len : Nat → Nat} {R : Nat → Nat → Int} (h : MatW w A n len R) (k : Keeps w w1) : MatW w1 A n len R := by
  obtain ⟨RA, RC, h1, h2⟩ := h
  exact ⟨RA, RC, h1.keeps k, fun i hi => Row1.keeps (h2 i hi) k⟩

/-- memories: a slice of rows, row i the array in block MB i -/
structure MemsAt (g : Nl) (w : World) (A : Option Addr) (c : Nat) (MB : Nat → Nat) (M : Nat → Nat → Int) : Prop where
  row : Row1 w A g.nm (fun i => .slice (some ⟨MB i, 0, none⟩) (g.MS i).toNat (g.MS i).toNat)
  mem : ∀ i, i < g.nm → Words w (some ⟨MB i, 0, none⟩) (g.MS i).toNat (M i)
theorem MemsAt.keeps {g : Nl} {w w1 : World} {A : Option Addr} {c : Nat} {MB : Nat → Nat} {M : Nat → Nat → Int} (h : MemsAt g w A c MB M) (k : Keeps w w1) : MemsAt g w1 A c MB M := ⟨h.row.keeps k, fun i hi => Row1.keeps (h.mem i hi) k⟩

/-- a new slice of words, as the head of an array in a block of the call's own from base on -/
def OwnW (w : World) (base : Nat) (A : Option Addr) (n : Nat) (V : Nat → Int) : Prop :=
  0 < n → ∃ (b m : Nat) (U : Nat → Value), A = some ⟨b, 0, none⟩ ∧ base ≤ b ∧ n ≤ m ∧ Arr w b 33 m U ∧ ∀ k, k < n → U k = .int .u64 (V k)
section
variable {w w1 : World} {base n : Nat} {A : Option Addr} {V V' : Nat → Int}
theorem OwnW.of_own {c : Nat} (h : w.ownsRow base 33 1 (.slice A n c) n ((List.range n).map fun j => .int .u64 (V j))) : OwnW w base A n V := fun hn => by
  obtain ⟨b, off, cur, rfl, hp, hh, hc⟩ := own_rowT h hn
  obtain ⟨hb, e⟩ := hp
  injection e with e; injection e with _ e _; subst e
  have hsz : n ≤ cur.size := by
    have h1 := hc (n - 1) (by omega) 0 (by omega)
    have := (Array.getElem?_eq_some_iff.1 h1).1
    omega
  refine ⟨b, cur.size, fun k => cur.getD k undef, rfl, hb, hsz, ⟨cur, hh, rfl, fun k hk => by simp [hk]⟩, fun k hk => ?_⟩
  have h1 := hc k hk 0 (by omega)
  simp only [Nat.zero_add, Nat.mul_one, Nat.add_zero] at h1
  simp only [Array.getD_eq_getD_getElem?, h1]
  simp [hk]
theorem OwnW.words (h : OwnW w base A n V) : Words w A n V := fun hn => by
  obtain ⟨b, m, U, rfl, _, hm, hA, hU⟩ := h hn
  exact ⟨b, 0, rfl, fun k hk => by rw [Nat.zero_add, hA.cell (by omega), hU k hk]⟩
theorem OwnW.below (h : OwnW w base A n V) (k : Below w.heap.size w w1) : OwnW w1 base A n V := fun hn => by
  obtain ⟨b, m, U, e, hb, hm, hA, hU⟩ := h hn
  exact ⟨b, m, U, e, hb, hm, hA.below k, hU⟩
theorem OwnW.only {S : Nat → Prop} (h : OwnW w base A n V) (k : Only S w w1) (hs : ∀ b, b < w.heap.size → blockOf A b → ¬ S b) : OwnW w1 base A n V := fun hn => by
  obtain ⟨b, m, U, e, hb, hm, hA, hU⟩ := h hn
  exact ⟨b, m, U, e, hb, hm, hA.only k (hs b hA.lt ⟨_, e, rfl⟩), hU⟩
theorem OwnW.alloc (h : OwnW w base A n V) (o : Obj) : OwnW (w.alloc o) base A n V := h.below ((Below.refl _ _).alloc (Nat.le_refl _) o)
theorem OwnW.congr (h : OwnW w base A n V) (hV : ∀ j, j < n → V' j = V j) : OwnW w base A n V' := fun hn => by
  obtain ⟨b, m, U, e, hb, hm, hA, hU⟩ := h hn
  exact ⟨b, m, U, e, hb, hm, hA, fun k hk => by rw [hU k hk, hV k hk]⟩
theorem OwnW.mono {base' : Nat} (h : OwnW w base A n V) (hb : base' ≤ base) : OwnW w base' A n V := fun hn => by
  obtain ⟨b, m, U, e, h1, r⟩ := h hn
  exact ⟨b, m, U, e, by omega, r⟩
theorem OwnW.arr {b : Nat} (h : Arr w b 33 n (fun j => .int .u64 (V j))) (hb : base ≤ b) : OwnW w base (some ⟨b, 0, none⟩) n V := fun _ => ⟨b, n, _, rfl, hb, Nat.le_refl _, h, fun _ _ => rfl⟩
theorem OwnW.at_ (h : OwnW w base A n V) {k : Nat} (hk : k < n) : ∃ b, A = some ⟨b, 0, none⟩ ∧ base ≤ b ∧ w.cell? ⟨b, k, none⟩ = some (.int .u64 (V k)) ∧ w.frozen? ⟨b, k, none⟩ = false ∧
    ∀ (x : Int) (V' : Nat → Int), (∀ j, j < n → j ≠ k → V' j = V j) → V' k = x → OwnW (w.setCell ⟨b, k, none⟩ (.int .u64 x)) base A n V' := by
  obtain ⟨b, m, U, e, hb, hm, hA, hU⟩ := h (by omega)
  refine ⟨b, e, hb, by rw [hA.cell (by omega), hU k hk], hA.thaw k, fun x V' h1 h2 _ => ⟨b, m, fun j => if j = k then .int .u64 x else U j, e, hb, hm, hA.set (fun j _ hj => by simp [hj]) (by simp), fun j hj => ?_⟩⟩
  by_cases e : j = k
  · simp only [if_pos e]; rw [e, h2]
  · simp only [if_neg e]; rw [hU j hj, h1 j hj e]
end

theorem elU64 : Elem Try.prog 34 33 1 8 := elem_mk Try.underlying34 (z := .int .u64 0) (by kernel_rfl) rfl (by omega) (by omega)
theorem elU64Row : Elem Try.prog 31 34 1 24 := elem_mk Try.underlying31 (z := .slice none 0 0) (by kernel_rfl) rfl (by omega) (by omega)
theorem zeroU : (Try.prog.info? 33).map (fun i => (i.zero, i.size, i.bytes)) = some (some (.int .u64 0), 1, 8) := by kernel_rfl

/-- a slice of words that grows from append to append -/
def GrowW (wb : World) (A : Option Addr) (n c : Nat) (V : Nat → Int) (wr : World) : Prop := Grow wb 33 1 A n c ((List.range n).map fun k => .int .u64 (V k)) wr
theorem GrowW.push {wb wr w1 : World} {A A' : Option Addr} {n c c' : Nat} {V V' : Nat → Int} {x : Int} (h : GrowW wb A n c V wr)
    (ho : w1.ownsRow wb.heap.size 33 1 (.slice A' (n + 1) c') (n + 1) (((List.range n).map fun k => .int .u64 (V k)) ++ [.int .u64 x])) (hk : Only (blockOf A) wr w1) (hV : ∀ k, k < n → V' k = V k) (hx : V' n = x) : GrowW wb A' (n + 1) c' V' w1 := by
  refine Grow.push h ?_ hk
  rw [List.range_succ, List.map_append, List.map_congr_left (g := fun k => .int .u64 (V k)) (fun k hk => by rw [hV k (by simpa using hk)])]
  simpa [hx] using ho
theorem GrowW.start (wb : World) (V : Nat → Int) : GrowW wb none 0 0 V wb := Grow.start wb _ _
theorem GrowW.words {wb wr : World} {A : Option Addr} {n c : Nat} {V : Nat → Int} (h : GrowW wb A n c V wr) : Words wr A n V := (OwnW.of_own h.own).words

/-- a new slice of rows of words -/
structure OwnMatW (w : World) (base : Nat) (A : Option Addr) (n c : Nat) (len : Nat) (R : Nat → Nat → Int) (RA : Nat → Option Addr) (RC : Nat → Nat) : Prop where
  own : w.ownsRow base 34 1 (.slice A n c) n ((List.range n).map fun i => .slice (RA i) len (RC i))
  rows : ∀ i, i < n → OwnW w base (RA i) len (R i)
section
variable {w w1 : World} {base n c len : Nat} {A : Option Addr} {R : Nat → Nat → Int} {RA : Nat → Option Addr} {RC : Nat → Nat}
theorem OwnMatW.mat (h : OwnMatW w base A n c len R RA RC) : MatW w A n (fun _ => len) R := by
  refine ⟨RA, RC, fun hn => ?_, fun i hi => (h.rows i hi).words⟩
  obtain ⟨b, off, e, hc⟩ := own_row1 h.own hn
  refine ⟨b, off, e, fun k hk => ?_⟩
  rw [hc k hk]
  simp [hk]
theorem OwnMatW.below (h : OwnMatW w base A n c len R RA RC) (hb : Below w.heap.size w w1) : OwnMatW w1 base A n c len R RA RC := ⟨own_below h.own hb, fun i hi => (h.rows i hi).below hb⟩
theorem OwnMatW.only {S : Nat → Prop} (h : OwnMatW w base A n c len R RA RC) (hk : Only S w w1) (hS : ∀ k, base ≤ k → k < w.heap.size → ¬ S k) : OwnMatW w1 base A n c len R RA RC :=
  ⟨own_only h.own hk (fun k hb => hS k (own_base h.own k hb) (own_lt h.own k hb)), fun i hi hl => by
    obtain ⟨b, m, U, e, hb, hm, hA, hU⟩ := h.rows i hi hl
    exact ⟨b, m, U, e, hb, hm, hA.only hk (hS b hb hA.lt), hU⟩⟩
theorem OwnMatW.alloc (h : OwnMatW w base A n c len R RA RC) (o : Obj) : OwnMatW (w.alloc o) base A n c len R RA RC := h.below ((Below.refl _ _).alloc (Nat.le_refl _) o)
theorem OwnMatW.mono {base' : Nat} (h : OwnMatW w base A n c len R RA RC) (hb : base' ≤ base) : OwnMatW w base' A n c len R RA RC := ⟨own_mono h.own hb, fun i hi => (h.rows i hi).mono hb⟩
/-- the address or capacity of the last one laid on -/
def lastlyW {α : Type} (n : Nat) (x : α) (f : Nat → α) (i : Nat) : α := if i = n then x else f i
theorem OwnMatW.push {A' B : Option Addr} {c' d : Nat} (h : OwnMatW w base A n c len R RA RC)
    (ho : w1.ownsRow base 34 1 (.slice A' (n + 1) c') (n + 1) (((List.range n).map fun i => .slice (RA i) len (RC i)) ++ [.slice B len d])) (hk : Only (blockOf A) w w1)
    (hB : OwnW w base B len (R n)) : OwnMatW w1 base A' (n + 1) c' len R (lastlyW n B RA) (lastlyW n d RC) := by
  have hty := own_type (e' := 33) h.own (by decide)
  have hrow : ∀ {B : Option Addr} {V : Nat → Int}, OwnW w base B len V → OwnW w1 base B len V := fun h hl => by
    obtain ⟨b, m, U, e, hb, hm, hA, hU⟩ := h hl
    obtain ⟨cur, hh, hc⟩ := hA
    exact ⟨b, m, U, e, hb, hm, Arr.only ⟨cur, hh, hc⟩ hk (hty b cur hh), hU⟩
  refine ⟨?_, fun i hi => ?_⟩
  · rw [List.range_succ, List.map_append, List.map_congr_left (g := fun i => .slice (RA i) len (RC i)) (fun i hi => by
      have : i ≠ n := by have := List.mem_range.1 hi; omega
      simp [lastlyW, this])]
    simpa [lastlyW] using ho
  · unfold lastlyW
    by_cases e : i = n
    · rw [if_pos e, e]; exact hrow hB
    · rw [if_neg e]; exact hrow (h.rows i (by omega))
end

/-- new memories: the slice of rows in its own blocks, row i the array in block MB i, the later the higher -/
structure OwnMems (g : Nl) (w : World) (base : Nat) (A : Option Addr) (k c : Nat) (MB : Nat → Nat) (M : Nat → Nat → Int) : Prop where
  own : w.ownsRow base 34 1 (.slice A k c) k ((List.range k).map fun i => .slice (some ⟨MB i, 0, none⟩) (g.MS i).toNat (g.MS i).toNat)
  low : ∀ i, i < k → base ≤ MB i
  arr : ∀ i, i < k → Arr w (MB i) 33 (g.MS i).toNat (fun j => .int .u64 (M i j))
  mono : ∀ i j, i < j → j < k → MB i < MB j
section
variable {g : Nl} {w w1 : World} {base k c : Nat} {A : Option Addr} {MB : Nat → Nat} {M M' : Nat → Nat → Int}
theorem OwnMems.ne (h : OwnMems g w base A k c MB M) {i j : Nat} (hi : i < k) (hj : j < k) (hn : i ≠ j) : MB i ≠ MB j := by
  rcases Nat.lt_or_gt_of_ne hn with h1 | h1
  · have := h.mono i j h1 hj; omega
  · have := h.mono j i h1 hi; omega
theorem OwnMems.at_ (h : OwnMems g w base A g.nm c MB M) : MemsAt g w A c MB M := by
  refine ⟨fun hn => ?_, fun i hi => (h.arr i hi).row⟩
  obtain ⟨b, off, e, hc⟩ := own_row1 h.own hn
  refine ⟨b, off, e, fun k hk => ?_⟩
  rw [hc k hk]
  simp [hk]
theorem OwnMems.below (h : OwnMems g w base A k c MB M) (hb : Below w.heap.size w w1) : OwnMems g w1 base A k c MB M := ⟨own_below h.own hb, h.low, fun i hi => (h.arr i hi).below hb, h.mono⟩
theorem OwnMems.only {S : Nat → Prop} (h : OwnMems g w base A k c MB M) (hk : Only S w w1) (h1 : ∀ b, blockOf A b → ¬ S b) (h2 : ∀ i, i < k → ¬ S (MB i)) : OwnMems g w1 base A k c MB M :=
  ⟨own_only h.own hk h1, h.low, fun i hi => (h.arr i hi).only hk (h2 i hi), h.mono⟩
theorem OwnMems.lt (h : OwnMems g w base A k c MB M) {i : Nat} (hi : i < k) : MB i < w.heap.size := (h.arr i hi).lt
theorem OwnMems.congr (h : OwnMems g w base A k c MB M) (hM : ∀ i, i < k → ∀ j, j < (g.MS i).toNat → M' i j = M i j) : OwnMems g w base A k c MB M' :=
  ⟨h.own, h.low, fun i hi => (h.arr i hi).congr (fun j hj => by rw [hM i hi j hj]), h.mono⟩
/-- row i's block is none of the slice's -/
theorem OwnMems.apart (h : OwnMems g w base A k c MB M) {i : Nat} (hi : i < k) : ¬ blockOf A (MB i) := by
  obtain ⟨cur, hh, _⟩ := h.arr i hi
  exact own_type (e' := 33) h.own (by decide) _ cur hh
/-- a word is stored -/
theorem OwnMems.set (h : OwnMems g w base A k c MB M) {i j : Nat} (hi : i < k) (x : Int) : OwnMems g (w.setCell ⟨MB i, j, none⟩ (.int .u64 x)) base A k c MB (fun a b => if a = i ∧ b = j then x else M a b) := by
  have hO : Only (fun b => b = MB i) w (w.setCell ⟨MB i, j, none⟩ (.int .u64 x)) := (Only.refl (fun b => b = MB i) w).setCell (p := ⟨MB i, j, none⟩) (fun _ => rfl) _
  refine ⟨own_only h.own hO (fun b hb e => h.apart hi (e ▸ hb)), h.low, fun a ha => ?_, h.mono⟩
  by_cases e : a = i
  · subst e
    exact (h.arr a ha).set (fun b _ hb => by simp [hb]) (by simp)
  · exact ((h.arr a ha).only hO (h.ne ha hi e)).congr (fun b _ => by simp [e])
/-- a memory is laid on -/
theorem OwnMems.push {A' : Option Addr} {c' B : Nat} (h : OwnMems g w base A k c MB M)
    (ho : w1.ownsRow base 34 1 (.slice A' (k + 1) c') (k + 1) (((List.range k).map fun i => .slice (some ⟨MB i, 0, none⟩) (g.MS i).toNat (g.MS i).toNat) ++ [.slice (some ⟨B, 0, none⟩) (g.MS k).toNat (g.MS k).toNat])) (hk : Only (blockOf A) w w1)
    (hB : Arr w B 33 (g.MS k).toNat (fun j => .int .u64 (M k j))) (hlow : base ≤ B) (hup : ∀ i, i < k → MB i < B) : OwnMems g w1 base A' (k + 1) c' (lastlyW k B MB) M := by
  have hty := own_type (e' := 33) h.own (by decide)
  have hrow : ∀ {B n : Nat} {V : Nat → Value}, Arr w B 33 n V → Arr w1 B 33 n V := fun h => by
    obtain ⟨cur, hh, hc⟩ := h
    exact Arr.only ⟨cur, hh, hc⟩ hk (hty _ cur hh)
  refine ⟨?_, fun i hi => ?_, fun i hi => ?_, fun i j hij hj => ?_⟩
  · rw [List.range_succ, List.map_append, List.map_congr_left (g := fun i => .slice (some ⟨MB i, 0, none⟩) (g.MS i).toNat (g.MS i).toNat) (fun i hi => by
      have : i ≠ k := by have := List.mem_range.1 hi; omega
      simp [lastlyW, this])]
    simpa [lastlyW] using ho
  · unfold lastlyW
    split
    · exact hlow
    · exact h.low i (by omega)
  · unfold lastlyW
    by_cases e : i = k
    · rw [if_pos e, e]; exact hrow hB
    · rw [if_neg e]; exact hrow (h.arr i (by omega))
  · unfold lastlyW
    rw [if_neg (by omega : i ≠ k)]
    split
    · exact hup i (by omega)
    · exact h.mono i j hij (by omega)
end
end Go.Proofs.Ytmbcfondglhiiaa
