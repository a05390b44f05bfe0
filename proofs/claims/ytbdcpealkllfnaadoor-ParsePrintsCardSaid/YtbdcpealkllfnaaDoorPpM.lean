/- A text's modules as they lie in memory, with what they are printed as. No condition. -/
import Derived.Test.YtbdcpealkllfnaaDoorPpP
import Derived.Test.YtbdcpealkllfnaaDoorTrK
namespace Go.Proofs.YtbdcpealkllfnaaDoor
open Go.RowKit

/-- a row of trees of which B holds -/
def Rw {τ : Type} (e : TypeId) (sz : Nat) (w : World) (p : Nat → Prop) (A : Option Addr) (n : Nat) (B : List Value → τ → Prop) (T : Nat → τ) : Prop :=
 n ≤ 3000000 ∧ ∃ C, RowT p w e sz A n (rowF C) ∧ ∀ i, i < n → (C i).length = sz ∧ B (C i) (T i)
section
variable {τ : Type} {e : TypeId} {sz n : Nat} {w w1 : World} {p q S : Nat → Prop} {A : Option Addr} {B B' : List Value → τ → Prop} {T : Nat → τ}
theorem Rw.imp (h : Rw e sz w p A n B T) (hB : ∀ cs t, B cs t → B' cs t) : Rw e sz w p A n B' T := by
 obtain ⟨hn, C, hr, hc⟩ := h
 exact ⟨hn, C, hr, fun i hi => ⟨(hc i hi).1, hB _ _ (hc i hi).2⟩⟩
theorem Rw.mono (h : Rw e sz w p A n B T) (hp : ∀ b, b < w.heap.size → p b → q b) (hB : ∀ cs t, B cs t → B' cs t) : Rw e sz w q A n B' T := by
 obtain ⟨hn, C, hr, hc⟩ := h
 exact ⟨hn, C, hr.mono hp, fun i hi => ⟨(hc i hi).1, hB _ _ (hc i hi).2⟩⟩
theorem Rw.only (h : Rw e sz w p A n B T) (ho : Only S w w1) (hs : ∀ b, p b → ¬ S b) (hB : ∀ cs t, B cs t → B' cs t) : Rw e sz w1 p A n B' T := by
 obtain ⟨hn, C, hr, hc⟩ := h
 exact ⟨hn, C, hr.only ho (fun b _ hb _ => hs b hb), fun i hi => ⟨(hc i hi).1, hB _ _ (hc i hi).2⟩⟩
theorem Rw.of {F : TreeK τ} (h : LfP F e sz p w A n T) (hn : n ≤ 3000000) : ∃ d, Rw e sz w p A n (fun cs t => F.P d w p cs t) T := by
 obtain ⟨d, C, hr, hc⟩ := h
 exact ⟨d, hn, C, hr, hc⟩
end
def cellsE (kd at_ op width : Int) (num : Nat) (nm : LB) (A : Option Addr) (n c : Nat) : List Value := [.int .i64 kd, .int .i64 at_, .int .i64 op, .int .i64 width, .int .u64 (num : Int), .string (bstr nm), .slice A n c]
/-- an expression; d: how deep it is at most; p: of its blocks; t: its text; kd: its kind -/
def PrE : Nat → World → (Nat → Prop) → List Value → LB → Int → Prop
 | 0, _, _, _, _, _ => False
 | d + 1, w, p, cs, t, kd => ∃ (at_ op width : Int) (num : Nat) (nm : LB) (A : Option Addr) (n c : Nat) (T : Nat → LB × Int),
   cs = cellsE kd at_ op width num nm A n c ∧ OkE kd op width num nm n ∧ Rw 56 7 w p A n (fun cs t => PrE d w p cs t.1 t.2) T ∧ t = txE kd op width num nm n (fun i => (T i).2) (fun i => (T i).1)
section
variable {p q S : Nat → Prop} {w w1 : World}
theorem PrE.len : ∀ {d : Nat} {cs : List Value} {t : LB} {k : Int}, PrE d w p cs t k → cs.length = 7
 | 0, _, _, _, h => h.elim
 | _ + 1, _, _, _, ⟨_, _, _, _, _, _, _, _, _, e, _⟩ => by rw [e]; rfl
theorem PrE.deep : ∀ {d d' : Nat} {cs : List Value} {t : LB} {k : Int}, d ≤ d' → PrE d w p cs t k → PrE d' w p cs t k
 | 0, _, _, _, _, _, h => h.elim
 | _ + 1, 0, _, _, _, hd, _ => absurd hd (by omega)
 | _ + 1, _ + 1, _, _, _, hd, ⟨a, o, wd, nu, nm, A, n, c, T, e, ok, hr, ht⟩ => ⟨a, o, wd, nu, nm, A, n, c, T, e, ok, hr.imp (fun _ _ h => h.deep (by omega)), ht⟩
theorem PrE.mono : ∀ {d : Nat} {cs : List Value} {t : LB} {k : Int}, (∀ b, b < w.heap.size → p b → q b) → PrE d w p cs t k → PrE d w q cs t k
 | 0, _, _, _, _, h => h.elim
 | _ + 1, _, _, _, hp, ⟨a, o, wd, nu, nm, A, n, c, T, e, ok, hr, ht⟩ => ⟨a, o, wd, nu, nm, A, n, c, T, e, ok, hr.mono hp (fun _ _ h => h.mono hp), ht⟩
theorem PrE.only : ∀ {d : Nat} {cs : List Value} {t : LB} {k : Int}, Only S w w1 → (∀ b, p b → ¬ S b) → PrE d w p cs t k → PrE d w1 p cs t k
 | 0, _, _, _, _, _, h => h.elim
 | _ + 1, _, _, _, ho, hs, ⟨a, o, wd, nu, nm, A, n, c, T, e, ok, hr, ht⟩ => ⟨a, o, wd, nu, nm, A, n, c, T, e, ok, hr.only ho hs (fun _ _ h => h.only ho hs), ht⟩
end
def FE : TreeK (LB × Int) where
 P := fun d w p cs t => PrE d w p cs t.1 t.2
 deep := fun h h' => PrE.deep h h'
 mono := fun h h' => PrE.mono h h'
 only := fun h h1 h2 => PrE.only h h1 h2
/-- a list of expressions -/
abbrev ExL (d : Nat) (w : World) (p : Nat → Prop) (A : Option Addr) (n : Nat) (T : Nat → LB × Int) : Prop := Rw 56 7 w p A n (fun cs t => PrE d w p cs t.1 t.2) T
section
variable {p q S : Nat → Prop} {w w1 : World} {d d' n : Nat} {A : Option Addr} {T : Nat → LB × Int}
theorem ExL.deep (h : ExL d w p A n T) (hd : d ≤ d') : ExL d' w p A n T := Rw.imp h (fun _ _ h => h.deep hd)
theorem ExL.mono (h : ExL d w p A n T) (hp : ∀ b, b < w.heap.size → p b → q b) : ExL d w q A n T := Rw.mono h hp (fun _ _ h => h.mono hp)
theorem ExL.only (h : ExL d w p A n T) (ho : Only S w w1) (hs : ∀ b, p b → ¬ S b) : ExL d w1 p A n T := Rw.only h ho hs (fun _ _ h => h.only ho hs)
end
/-- an arm of a case; B: of its body -/
def ArmP (dE : Nat) (B : List Value → LB → Prop) (w : World) (p : Nat → Prop) (cs : List Value) (t : LB) : Prop :=
 ∃ (df : Bool) (AL : Option Addr) (nL cL : Nat) (TL : Nat → LB × Int) (CB : List Value) (TB : LB), cs = [.bool df, .slice AL nL cL] ++ CB ∧ CB.length = 7 ∧ (df = true → nL = 0) ∧ ExL dE w p AL nL TL ∧ B CB TB ∧ t = armL df (comL (fun i => (TL i).1) nL) TB
def cellsS (kd at_ : Int) (later : Bool) (nm : LB) (AE : Option Addr) (ne cE : Nat) (AS : Option Addr) (ns cS : Nat) (AR : Option Addr) (na cR : Nat) : List Value := [.int .i64 kd, .int .i64 at_, .bool later, .string (bstr nm), .slice AE ne cE, .slice AS ns cS, .slice AR na cR]
/-- a statement -/
def PrS : Nat → World → (Nat → Prop) → List Value → LB → Prop
 | 0, _, _, _, _ => False
 | d + 1, w, p, cs, t => ∃ (kd at_ : Int) (later : Bool) (nm : LB) (AE AS AR : Option Addr) (ne cE ns cS na cR : Nat) (TE : Nat → LB × Int) (TS TR : Nat → LB) (dE : Nat),
   cs = cellsS kd at_ later nm AE ne cE AS ns cS AR na cR ∧ OkS kd nm ne ns ∧ ExL dE w p AE ne TE ∧ Rw 73 7 w p AS ns (fun cs t => PrS d w p cs t) TS ∧ Rw 117 9 w p AR na (ArmP dE (fun cs t => PrS d w p cs t) w p) TR ∧
   t = txS kd later nm (fun i => (TE i).1) ns TS na TR
section
variable {p q S : Nat → Prop} {w w1 : World}
theorem ArmP.imp {dE : Nat} {B B' : List Value → LB → Prop} {cs : List Value} {t : LB} (h : ArmP dE B w p cs t) (hB : ∀ cs t, B cs t → B' cs t) : ArmP dE B' w p cs t := by
 obtain ⟨a, b, c, d, e, f, g, h1, h2, h3, h4, h5, h6⟩ := h
 exact ⟨a, b, c, d, e, f, g, h1, h2, h3, h4, hB _ _ h5, h6⟩
theorem ArmP.mono {dE : Nat} {B B' : List Value → LB → Prop} {cs : List Value} {t : LB} (h : ArmP dE B w p cs t) (hp : ∀ b, b < w.heap.size → p b → q b) (hB : ∀ cs t, B cs t → B' cs t) : ArmP dE B' w q cs t := by
 obtain ⟨a, b, c, d, e, f, g, h1, h2, h3, h4, h5, h6⟩ := h
 exact ⟨a, b, c, d, e, f, g, h1, h2, h3, h4.mono hp, hB _ _ h5, h6⟩
theorem ArmP.only {dE : Nat} {B B' : List Value → LB → Prop} {cs : List Value} {t : LB} (h : ArmP dE B w p cs t) (ho : Only S w w1) (hs : ∀ b, p b → ¬ S b) (hB : ∀ cs t, B cs t → B' cs t) : ArmP dE B' w1 p cs t := by
 obtain ⟨a, b, c, d, e, f, g, h1, h2, h3, h4, h5, h6⟩ := h
 exact ⟨a, b, c, d, e, f, g, h1, h2, h3, h4.only ho hs, hB _ _ h5, h6⟩
theorem ArmP.deep {dE dE' : Nat} {B : List Value → LB → Prop} {cs : List Value} {t : LB} (h : ArmP dE B w p cs t) (hd : dE ≤ dE') : ArmP dE' B w p cs t := by
 obtain ⟨a, b, c, d, e, f, g, h1, h2, h3, h4, h5, h6⟩ := h
 exact ⟨a, b, c, d, e, f, g, h1, h2, h3, h4.deep hd, h5, h6⟩
theorem PrS.len : ∀ {d : Nat} {cs : List Value} {t : LB}, PrS d w p cs t → cs.length = 7
 | 0, _, _, h => h.elim
 | _ + 1, _, _, ⟨_, _, _, _, _, _, _, _, _, _, _, _, _, _, _, _, _, e, _⟩ => by rw [e]; rfl
theorem PrS.deep : ∀ {d d' : Nat} {cs : List Value} {t : LB}, d ≤ d' → PrS d w p cs t → PrS d' w p cs t
 | 0, _, _, _, _, h => h.elim
 | _ + 1, 0, _, _, hd, _ => absurd hd (by omega)
 | _ + 1, _ + 1, _, _, hd, ⟨a1, a2, a3, a4, a5, a6, a7, a8, a9, b1, b2, b3, b4, b5, b6, b7, b8, e, ok, h1, h2, h3, h4⟩ =>
  ⟨a1, a2, a3, a4, a5, a6, a7, a8, a9, b1, b2, b3, b4, b5, b6, b7, b8, e, ok, h1, h2.imp (fun _ _ h => h.deep (by omega)), h3.imp (fun _ _ h => h.imp (fun _ _ h => h.deep (by omega))), h4⟩
theorem PrS.mono : ∀ {d : Nat} {cs : List Value} {t : LB}, (∀ b, b < w.heap.size → p b → q b) → PrS d w p cs t → PrS d w q cs t
 | 0, _, _, _, h => h.elim
 | _ + 1, _, _, hp, ⟨a1, a2, a3, a4, a5, a6, a7, a8, a9, b1, b2, b3, b4, b5, b6, b7, b8, e, ok, h1, h2, h3, h4⟩ =>
  ⟨a1, a2, a3, a4, a5, a6, a7, a8, a9, b1, b2, b3, b4, b5, b6, b7, b8, e, ok, h1.mono hp, h2.mono hp (fun _ _ h => h.mono hp), h3.mono hp (fun _ _ h => h.mono hp (fun _ _ h => h.mono hp)), h4⟩
theorem PrS.only : ∀ {d : Nat} {cs : List Value} {t : LB}, Only S w w1 → (∀ b, p b → ¬ S b) → PrS d w p cs t → PrS d w1 p cs t
 | 0, _, _, _, _, h => h.elim
 | _ + 1, _, _, ho, hs, ⟨a1, a2, a3, a4, a5, a6, a7, a8, a9, b1, b2, b3, b4, b5, b6, b7, b8, e, ok, h1, h2, h3, h4⟩ =>
  ⟨a1, a2, a3, a4, a5, a6, a7, a8, a9, b1, b2, b3, b4, b5, b6, b7, b8, e, ok, h1.only ho hs, h2.only ho hs (fun _ _ h => h.only ho hs), h3.only ho hs (fun _ _ h => h.only ho hs (fun _ _ h => h.only ho hs)), h4⟩
end
def FS : TreeK LB where
 P := fun d w p cs t => PrS d w p cs t
 deep := fun h h' => PrS.deep h h'
 mono := fun h h' => PrS.mono h h'
 only := fun h h1 h2 => PrS.only h h1 h2
def FA : TreeK LB where
 P := fun d w p cs t => ArmP d (fun cs t => PrS d w p cs t) w p cs t
 deep := fun h h' => (h'.imp (fun _ _ h2 => h2.deep h)).deep h
 mono := fun h h' => h'.mono h (fun _ _ h2 => h2.mono h)
 only := fun h h1 h2 => h2.only h h1 (fun _ _ h3 => h3.only h h1)
end Go.Proofs.YtbdcpealkllfnaaDoor
