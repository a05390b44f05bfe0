/- A graph's bytes: lines, numbers in bytes of seven bits, rows, gates, what stands behind: as aiger.Unpack and the reference's AigUnpack read them. Plain Lean. No condition. -/
import Derived.Test.YtngjbiipgbeemaaDoorAgP
namespace Go.Proofs.YtngjbiipgbeemaaDoor

/-- the line from a place on, and the place behind its end -/
def lnB (l : List UInt8) (p : Nat) : Option (List UInt8 × Nat) :=
  let k := ((l.drop p).takeWhile (· != 10)).length
  if p + k < l.length then some ((l.drop p).take k, p + k + 1) else none
/-- a number in bytes of seven bits: at most f of them; i: taken so far -/
def svGo : Nat → Nat → Nat → List UInt8 → Option (Nat × Nat)
  | 0, _, _, _ => none
  | _ + 1, _, _, [] => none
  | f + 1, i, n, b :: r =>
    let m := n + b.toNat % 128 * 128 ^ i
    if b.toNat < 128 then (if b.toNat = 0 ∧ 0 < i then none else some (m, i + 1)) else svGo f (i + 1) m r
def svB (l : List UInt8) (p : Nat) : Option (Nat × Nat) := (svGo 4 0 0 (l.drop p)).map (fun x => (x.1, p + x.2))
theorem svGo_le : ∀ (f i n : Nat) (r : List UInt8) (m k : Nat), svGo f i n r = some (m, k) → i < k ∧ k ≤ i + r.length
  | 0, _, _, _, _, _, h => by cases h
  | _ + 1, _, _, [], _, _, h => by cases h
  | f + 1, i, n, b :: r, m, k, h => by
    unfold svGo at h
    simp only at h
    split at h
    · split at h
      · cases h
      · injection h with h
        injection h with h1 h2
        subst h2
        simp only [List.length_cons]
        omega
    · have := svGo_le f (i + 1) _ r m k h
      simp only [List.length_cons]
      omega
theorem svB_le {l : List UInt8} {p m q : Nat} (h : svB l p = some (m, q)) : p < q ∧ q ≤ l.length := by
  unfold svB at h
  cases e : svGo 4 0 0 (l.drop p) with
  | none => rw [e] at h; cases h
  | some x =>
    rw [e] at h
    obtain ⟨a, k⟩ := x
    have h1 := svGo_le _ _ _ _ _ _ e
    simp only [Option.map_some, Option.some.injEq, Prod.mk.injEq] at h
    rw [List.length_drop] at h1
    omega
theorem lnB_le {l s : List UInt8} {p q : Nat} (h : lnB l p = some (s, q)) : p < q ∧ q ≤ l.length ∧ s.length ≤ l.length := by
  unfold lnB at h
  simp only at h
  split at h
  · injection h with h
    injection h with h1 h2
    subst h1; subst h2
    refine ⟨by omega, by omega, ?_⟩
    rw [List.length_take]
    omega
  · cases h
def Hd.okU (h : Hd) (t : Nat) (n : List Nat) : Bool :=
  (n.length == 1 || (decide (t < h.l) && n.length == 2 && decide (n.getD 1 0 < 2))) && decide (n.getD 0 0 < h.most)
/-- the numbers of the t-th row, that begins at p, and the place behind it -/
def Hd.uRow (h : Hd) (l : List UInt8) (t p : Nat) : Option (List Nat × Nat) := match lnB l p with
  | none => none
  | some (s, q) => match numsB s with
    | none => none
    | some n => if h.okU t n = true then some (n, q) else none
/-- where the t-th row begins -/
def Hd.uPos (h : Hd) (l : List UInt8) (p0 : Nat) : Nat → Option Nat
  | 0 => some p0
  | t + 1 => match h.uPos l p0 t with
    | none => none
    | some p => (h.uRow l t p).map (·.2)
def Hd.own (h : Hd) (k : Nat) : Nat := 2 * (1 + h.i + h.l + k)
/-- the two numbers of the k-th gate, that begin at p and at q, and the place behind them -/
def Hd.gX (h : Hd) (l : List UInt8) (k p : Nat) : Option (Nat × Nat) := match svB l p with
  | none => none
  | some (x, q) => if 1 ≤ x ∧ x ≤ h.own k then some (x, q) else none
def Hd.gY (h : Hd) (l : List UInt8) (k x q : Nat) : Option (Nat × Nat) := match svB l q with
  | none => none
  | some (y, r) => if y ≤ h.own k - x then some (y, r) else none
def Hd.gRow (h : Hd) (l : List UInt8) (k p : Nat) : Option (Nat × Nat × Nat) := match h.gX l k p with
  | none => none
  | some (x, q) => match h.gY l k x q with
    | none => none
    | some (y, r) => some (x, y, r)
def Hd.gPos (h : Hd) (l : List UInt8) (p1 : Nat) : Nat → Option Nat
  | 0 => some p1
  | k + 1 => match h.gPos l p1 k with
    | none => none
    | some p => (h.gRow l k p).map (·.2.2)
/-- the head and the place behind it -/
def hdU (l : List UInt8) : Option (Hd × Nat) := match lnB l 0 with
  | none => none
  | some (s, q) => (hdrB [97, 105, 103] s).map (fun h => (h, q))
def Hd.rowsU (h : Hd) : Nat := h.l + h.o
def tailU (l : List UInt8) (p : Nat) : Option Nat := tailF (tlA (l.drop p) []) (linA (l.drop p) []) 0
/-- the bytes are bad, and that shows at place p -/
def BadU (l : List UInt8) (p : Nat) : Prop :=
  (hdU l = none ∧ p = 0) ∨ ∃ h p0, hdU l = some (h, p0) ∧
    ((∃ t, t < h.rowsU ∧ h.uPos l p0 t = some p ∧ h.uRow l t p = none) ∨
     ∃ p1, h.uPos l p0 h.rowsU = some p1 ∧
      ((∃ k q, k < h.a ∧ h.gPos l p1 k = some q ∧ ((h.gX l k q = none ∧ p = q) ∨ ∃ x, h.gX l k q = some (x, p) ∧ h.gY l k x p = none)) ∨
       (h.gPos l p1 h.a = some p ∧ tailU l p ≠ none)))
def FineU (l : List UInt8) (h : Hd) (p0 p1 : Nat) : Prop := hdU l = some (h, p0) ∧ h.uPos l p0 h.rowsU = some p1 ∧ ∃ p, h.gPos l p1 h.a = some p ∧ tailU l p = none
theorem uPos_more {h : Hd} {l : List UInt8} {p0 t : Nat} (e : h.uPos l p0 t = none) : ∀ s, t ≤ s → h.uPos l p0 s = none
  | 0, hs => by obtain rfl : t = 0 := by omega
                exact e
  | s + 1, hs => by
    by_cases e1 : t = s + 1
    · rw [← e1]; exact e
    · have := uPos_more e s (by omega)
      unfold Hd.uPos
      rw [this]
theorem gPos_more {h : Hd} {l : List UInt8} {p1 t : Nat} (e : h.gPos l p1 t = none) : ∀ s, t ≤ s → h.gPos l p1 s = none
  | 0, hs => by obtain rfl : t = 0 := by omega
                exact e
  | s + 1, hs => by
    by_cases e1 : t = s + 1
    · rw [← e1]; exact e
    · have := gPos_more e s (by omega)
      unfold Hd.gPos
      rw [this]
theorem uPos_stop {h : Hd} {l : List UInt8} {p0 t p : Nat} (e : h.uPos l p0 t = some p) (r : h.uRow l t p = none) : h.uPos l p0 (t + 1) = none := by
  show (match h.uPos l p0 t with | none => none | some p => (h.uRow l t p).map (·.2)) = none
  rw [e]; simp only [r]; rfl
theorem gRow_noX {h : Hd} {l : List UInt8} {k p : Nat} (e : h.gX l k p = none) : h.gRow l k p = none := by unfold Hd.gRow; rw [e]
theorem gRow_noY {h : Hd} {l : List UInt8} {k p x q : Nat} (e : h.gX l k p = some (x, q)) (e2 : h.gY l k x q = none) : h.gRow l k p = none := by unfold Hd.gRow; rw [e]; simp only [e2]
theorem gRow_yes {h : Hd} {l : List UInt8} {k p x q y r : Nat} (e : h.gX l k p = some (x, q)) (e2 : h.gY l k x q = some (y, r)) : h.gRow l k p = some (x, y, r) := by unfold Hd.gRow; rw [e]; simp only [e2]
theorem gPos_stop {h : Hd} {l : List UInt8} {p1 k p : Nat} (e : h.gPos l p1 k = some p) (r : h.gRow l k p = none) : h.gPos l p1 (k + 1) = none := by
  show (match h.gPos l p1 k with | none => none | some p => (h.gRow l k p).map (·.2.2)) = none
  rw [e]; simp only [r]; rfl
theorem uPos_next {h : Hd} {l : List UInt8} {p0 t p q : Nat} {n : List Nat} (e : h.uPos l p0 t = some p) (r : h.uRow l t p = some (n, q)) : h.uPos l p0 (t + 1) = some q := by
  show (match h.uPos l p0 t with | none => none | some p => (h.uRow l t p).map (·.2)) = some q
  rw [e]; simp only [r]; rfl
theorem gPos_next {h : Hd} {l : List UInt8} {p1 k p x y r : Nat} (e : h.gPos l p1 k = some p) (hr : h.gRow l k p = some (x, y, r)) : h.gPos l p1 (k + 1) = some r := by
  show (match h.gPos l p1 k with | none => none | some p => (h.gRow l k p).map (·.2.2)) = some r
  rw [e]; simp only [hr]; rfl
private theorem gate_one {h : Hd} {l : List UInt8} {p1 k q p k' q' p' : Nat} (a2 : h.gPos l p1 k = some q) (a3 : (h.gX l k q = none ∧ p = q) ∨ ∃ x, h.gX l k q = some (x, p) ∧ h.gY l k x p = none)
    (b2 : h.gPos l p1 k' = some q') (b3 : (h.gX l k' q' = none ∧ p' = q') ∨ ∃ x, h.gX l k' q' = some (x, p') ∧ h.gY l k' x p' = none) : p = p' := by
  have sa : h.gPos l p1 (k + 1) = none := gPos_stop a2 (by rcases a3 with ⟨e, _⟩ | ⟨x, e, e2⟩; exact gRow_noX e; exact gRow_noY e e2)
  have sb : h.gPos l p1 (k' + 1) = none := gPos_stop b2 (by rcases b3 with ⟨e, _⟩ | ⟨x, e, e2⟩; exact gRow_noX e; exact gRow_noY e e2)
  rcases Nat.lt_trichotomy k k' with hl | hl | hl
  · have := gPos_more sa k' (by omega); rw [b2] at this; cases this
  · subst hl
    rw [a2] at b2
    injection b2 with b2
    subst b2
    rcases a3 with ⟨e, rfl⟩ | ⟨x, e, e2⟩
    · rcases b3 with ⟨e', rfl⟩ | ⟨x', e', e2'⟩
      · rfl
      · rw [e] at e'; cases e'
    · rcases b3 with ⟨e', rfl⟩ | ⟨x', e', e2'⟩
      · rw [e] at e'; cases e'
      · rw [e] at e'
        injection e' with e'
        injection e' with e1 e3
  · have := gPos_more sb k (by omega); rw [a2] at this; cases this
theorem badU_one {l : List UInt8} {p q : Nat} (h1 : BadU l p) (h2 : BadU l q) : p = q := by
  rcases h1 with ⟨e1, rfl⟩ | ⟨h, p0, e1, h1⟩
  · rcases h2 with ⟨_, rfl⟩ | ⟨g, q0, e2, _⟩
    · rfl
    · rw [e1] at e2; cases e2
  · rcases h2 with ⟨e2, rfl⟩ | ⟨g, q0, e2, h2⟩
    · rw [e1] at e2; cases e2
    · rw [e1] at e2
      injection e2 with e2
      injection e2 with e2 e3
      subst e2; subst e3
      rcases h1 with ⟨t, a1, a2, a3⟩ | ⟨p1, a1, a2⟩
      · have sa := uPos_stop a2 a3
        rcases h2 with ⟨s, b1, b2, b3⟩ | ⟨q1, b1, b2⟩
        · have sb := uPos_stop b2 b3
          rcases Nat.lt_trichotomy t s with hl | hl | hl
          · have := uPos_more sa s (by omega); rw [b2] at this; cases this
          · subst hl; rw [a2] at b2; injection b2
          · have := uPos_more sb t (by omega); rw [a2] at this; cases this
        · have := uPos_more sa h.rowsU (by omega); rw [b1] at this; cases this
      · rcases h2 with ⟨s, b1, b2, b3⟩ | ⟨q1, b1, b2⟩
        · have := uPos_more (uPos_stop b2 b3) h.rowsU (by omega); rw [a1] at this; cases this
        · rw [a1] at b1
          injection b1 with b1
          subst b1
          rcases a2 with ⟨k, r, a2, a3, a4⟩ | ⟨a2, a3⟩
          · rcases b2 with ⟨k', r', b2, b3, b4⟩ | ⟨b2, b3⟩
            · exact gate_one a3 a4 b3 b4
            · have sa : h.gPos l p1 (k + 1) = none := gPos_stop a3 (by rcases a4 with ⟨e, _⟩ | ⟨x, e, e2⟩; exact gRow_noX e; exact gRow_noY e e2)
              have := gPos_more sa h.a (by omega); rw [b2] at this; cases this
          · rcases b2 with ⟨k', r', b2, b3, b4⟩ | ⟨b2, b3⟩
            · have sa : h.gPos l p1 (k' + 1) = none := gPos_stop b3 (by rcases b4 with ⟨e, _⟩ | ⟨x, e, e2⟩; exact gRow_noX e; exact gRow_noY e e2)
              have := gPos_more sa h.a (by omega); rw [a2] at this; cases this
            · rw [a2] at b2; injection b2
theorem badU_fine {l : List UInt8} {p p0 p1 : Nat} {h : Hd} (h1 : BadU l p) (h2 : FineU l h p0 p1) : False := by
  obtain ⟨e2, u2, r, g2, t2⟩ := h2
  rcases h1 with ⟨e1, rfl⟩ | ⟨g, q0, e1, h1⟩
  · rw [e1] at e2; cases e2
  · rw [e1] at e2
    injection e2 with e2
    injection e2 with e2 e3
    subst e2; subst e3
    rcases h1 with ⟨t, a1, a2, a3⟩ | ⟨q1, a1, a2⟩
    · have := uPos_more (uPos_stop a2 a3) g.rowsU (by omega); rw [u2] at this; cases this
    · rw [a1] at u2
      injection u2 with u2
      subst u2
      rcases a2 with ⟨k, r', a2, a3, a4⟩ | ⟨a2, a3⟩
      · have sa : g.gPos l q1 (k + 1) = none := gPos_stop a3 (by rcases a4 with ⟨e, _⟩ | ⟨x, e, e2⟩; exact gRow_noX e; exact gRow_noY e e2)
        have := gPos_more sa g.a (by omega); rw [g2] at this; cases this
      · rw [a2] at g2
        injection g2 with g2
        subst g2
        exact a3 t2
theorem fineU_one {l : List UInt8} {h g : Hd} {p0 p1 q0 q1 : Nat} (h1 : FineU l h p0 p1) (h2 : FineU l g q0 q1) : h = g ∧ p0 = q0 ∧ p1 = q1 := by
  obtain ⟨e1, u1, _⟩ := h1
  obtain ⟨e2, u2, _⟩ := h2
  rw [e1] at e2
  injection e2 with e2
  injection e2 with e2 e3
  subst e2; subst e3
  rw [u1] at u2
  injection u2 with u2
  exact ⟨rfl, rfl, u2⟩
/-- the numbers of the t-th row -/
def Hd.numU (h : Hd) (l : List UInt8) (p0 t : Nat) : List Nat := match h.uPos l p0 t with
  | none => []
  | some p => match h.uRow l t p with
    | none => []
    | some (n, _) => n
def Hd.gatU (h : Hd) (l : List UInt8) (p1 k : Nat) : Nat × Nat := match h.gPos l p1 k with
  | none => (0, 0)
  | some p => match h.gRow l k p with
    | none => (0, 0)
    | some (x, y, _) => (x, y)
theorem numU_at {h : Hd} {l : List UInt8} {p0 t p q : Nat} {n : List Nat} (e : h.uPos l p0 t = some p) (r : h.uRow l t p = some (n, q)) : h.numU l p0 t = n := by
  unfold Hd.numU; rw [e]; simp only [r]
theorem gatU_at {h : Hd} {l : List UInt8} {p1 k p x y r : Nat} (e : h.gPos l p1 k = some p) (hr : h.gRow l k p = some (x, y, r)) : h.gatU l p1 k = (x, y) := by
  unfold Hd.gatU; rw [e]; simp only [hr]
def Hd.graphU (h : Hd) (l : List UInt8) (p0 p1 : Nat) : G where
  ins := h.i
  n1 := h.l
  n2 := h.a
  n3 := h.o
  L k := ((h.numU l p0 k).getD 0 0 : Nat)
  I k := decide ((h.numU l p0 k).length = 2 ∧ (h.numU l p0 k).getD 1 0 = 1)
  X k := (h.own k : Int) - ((h.gatU l p1 k).1 : Nat)
  Y k := (h.own k : Int) - ((h.gatU l p1 k).1 : Nat) - ((h.gatU l p1 k).2 : Nat)
  O k := ((h.numU l p0 (h.l + k)).getD 0 0 : Nat)
end Go.Proofs.YtngjbiipgbeemaaDoor
