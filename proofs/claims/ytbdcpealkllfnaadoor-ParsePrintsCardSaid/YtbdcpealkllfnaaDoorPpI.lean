/- Ranges, bindings, ports, items, modules as they lie in memory, with what they are printed as. No condition. -/
import Derived.Test.YtbdcpealkllfnaaDoorPpM
namespace Go.Proofs.YtbdcpealkllfnaaDoor
open Go.RowKit

abbrev SpT := Bool × LB × LB
def spanT (r : SpT) : LB := spanL r.1 r.2.1 r.2.2
/-- a range -/
def PrR (d : Nat) (w : World) (p : Nat → Prop) (cs : List Value) (r : SpT) : Prop :=
 ∃ (H L : List Value) (kH kL : Int), cs = .bool r.1 :: (H ++ L) ∧ PrE d w p H r.2.1 kH ∧ PrE d w p L r.2.2 kL
def FR : TreeK SpT where
 P := PrR
 deep := fun h ⟨H, L, kH, kL, e, h1, h2⟩ => ⟨H, L, kH, kL, e, h1.deep h, h2.deep h⟩
 mono := fun h ⟨H, L, kH, kL, e, h1, h2⟩ => ⟨H, L, kH, kL, e, h1.mono h, h2.mono h⟩
 only := fun h hs ⟨H, L, kH, kL, e, h1, h2⟩ => ⟨H, L, kH, kL, e, h1.only h hs, h2.only h hs⟩
theorem PrR.len {d : Nat} {w : World} {p : Nat → Prop} {cs : List Value} {r : SpT} (h : PrR d w p cs r) : cs.length = 15 := by
 obtain ⟨H, L, kH, kL, e, h1, h2⟩ := h
 rw [e, List.length_cons, List.length_append, h1.len, h2.len]
/-- a binding: its name, whether something stands within, what -/
abbrev BiT := LB × Bool × LB
def bindT (t : BiT) : LB := bindL t.1 t.2.1 t.2.2
def PrB (d : Nat) (w : World) (p : Nat → Prop) (cs : List Value) (t : BiT) : Prop :=
 ∃ (at_ : Int) (V : List Value) (k : Int), cs = .string (bstr t.1) :: .int .i64 at_ :: .bool t.2.1 :: V ∧ t.1.length ≤ 100000 ∧ PrE d w p V t.2.2 k
def FB : TreeK BiT where
 P := PrB
 deep := fun h ⟨a, V, k, e, hn, h1⟩ => ⟨a, V, k, e, hn, h1.deep h⟩
 mono := fun h ⟨a, V, k, e, hn, h1⟩ => ⟨a, V, k, e, hn, h1.mono h⟩
 only := fun h hs ⟨a, V, k, e, hn, h1⟩ => ⟨a, V, k, e, hn, h1.only h hs⟩
/-- a port: is it an output, a register, its range, its name -/
abbrev PoT := Bool × Bool × SpT × LB
def PrP (d : Nat) (w : World) (p : Nat → Prop) (cs : List Value) (t : PoT) : Prop :=
 ∃ (at_ : Int) (R : List Value), cs = .string (bstr t.2.2.2) :: .int .i64 at_ :: .bool t.1 :: .bool t.2.1 :: R ∧ t.2.2.2.length ≤ 100000 ∧ (t.2.1 = true → t.1 = true) ∧ PrR d w p R t.2.2.1
def FPo : TreeK PoT where
 P := PrP
 deep := fun h ⟨a, R, e, hn, ho, h1⟩ => ⟨a, R, e, hn, ho, FR.deep h h1⟩
 mono := fun h ⟨a, R, e, hn, ho, h1⟩ => ⟨a, R, e, hn, ho, FR.mono h h1⟩
 only := fun h hs ⟨a, R, e, hn, ho, h1⟩ => ⟨a, R, e, hn, ho, FR.only h hs h1⟩
/-- an item's values -/
structure ItV where
 kd : Int
 at_ : Int
 nm : LB
 md : LB
 R : List Value
 W : List Value
 given : Bool
 V : List Value
 G : List Value
 clk : Bool
 B : List Value
 AP : Option Addr
 np : Nat
 cp : Nat
 AQ : Option Addr
 nq : Nat
 cq : Nat
 AE : Option Addr
 ne : Nat
 ce : Nat
 lab : LB
 AI : Option Addr
 ni : Nat
 ci : Nat
 he : Bool
 elab_ : LB
 AL : Option Addr
 nl : Nat
 cl : Nat
def cellsI (x : ItV) : List Value :=
 .int .i64 x.kd :: .int .i64 x.at_ :: .string (bstr x.nm) :: .string (bstr x.md) :: (x.R ++ (x.W ++ (.bool x.given :: (x.V ++ (x.G ++ (.bool x.clk :: (x.B ++
  [.slice x.AP x.np x.cp, .slice x.AQ x.nq x.cq, .slice x.AE x.ne x.ce, .string (bstr x.lab), .slice x.AI x.ni x.ci, .bool x.he, .string (bstr x.elab_), .slice x.AL x.nl x.cl])))))))
structure OkI (x : ItV) : Prop where
 k : 1 ≤ x.kd ∧ x.kd ≤ 9
 m1 : x.nm.length ≤ 100000
 m2 : x.md.length ≤ 100000
 m3 : x.lab.length ≤ 100000
 m4 : x.elab_.length ≤ 100000
 g : x.given = true → x.kd = 2
 e8 : x.kd = 8 → x.ne = 3
 b : x.B.length = 7 ∧ ∀ u ∈ x.B, u.oneCell' = true
def itx (x : ItV) (r wd : SpT) (tV tG : LB × Int) (tB : LB) (TP TQ : Nat → BiT) (TE : Nat → LB × Int) (TI TL : Nat → LB) : LB :=
 ItT.text ⟨x.kd, x.nm, x.md, spanT r, wd.2.1, wd.2.2, x.given, tV.1, tG.1, x.clk, tB, x.np, bindsL (fun i => bindT (TP i)) x.np, bindsL (fun i => bindT (TQ i)) x.nq, fun i => (TE i).1, x.lab, catL TI x.ni, x.he, x.elab_, catL TL x.nl⟩
/-- an item -/
def PrI : Nat → World → (Nat → Prop) → List Value → LB → Prop
 | 0, _, _, _, _ => False
 | d + 1, w, p, cs, t => ∃ (x : ItV) (r wd : SpT) (tV tG : LB × Int) (tB : LB) (TP TQ : Nat → BiT) (TE : Nat → LB × Int) (TI TL : Nat → LB) (dE : Nat),
   cs = cellsI x ∧ OkI x ∧ PrR dE w p x.R r ∧ PrR dE w p x.W wd ∧ PrE dE w p x.V tV.1 tV.2 ∧ PrE dE w p x.G tG.1 tG.2 ∧ (x.kd = 6 → PrS dE w p x.B tB) ∧
   Rw 58 10 w p x.AP x.np (fun cs t => PrB dE w p cs t) TP ∧ Rw 58 10 w p x.AQ x.nq (fun cs t => PrB dE w p cs t) TQ ∧ ExL dE w p x.AE x.ne TE ∧
   Rw 75 65 w p x.AI x.ni (fun cs t => PrI d w p cs t) TI ∧ Rw 75 65 w p x.AL x.nl (fun cs t => PrI d w p cs t) TL ∧ t = itx x r wd tV tG tB TP TQ TE TI TL
section
variable {p q S : Nat → Prop} {w w1 : World}
theorem PrI.deep : ∀ {d d' : Nat} {cs : List Value} {t : LB}, d ≤ d' → PrI d w p cs t → PrI d' w p cs t
 | 0, _, _, _, _, h => h.elim
 | _ + 1, 0, _, _, hd, _ => absurd hd (by omega)
 | _ + 1, _ + 1, _, _, hd, ⟨x, a1, a2, a3, a4, a5, a6, a7, a8, a9, b1, dE, e, ok, h1, h2, h3, h4, h5, h6, h7, h8, h9, i1, i2⟩ =>
  ⟨x, a1, a2, a3, a4, a5, a6, a7, a8, a9, b1, dE, e, ok, h1, h2, h3, h4, h5, h6, h7, h8, h9.imp (fun _ _ h => h.deep (by omega)), i1.imp (fun _ _ h => h.deep (by omega)), i2⟩
theorem PrI.mono : ∀ {d : Nat} {cs : List Value} {t : LB}, (∀ b, b < w.heap.size → p b → q b) → PrI d w p cs t → PrI d w q cs t
 | 0, _, _, _, h => h.elim
 | _ + 1, _, _, hp, ⟨x, a1, a2, a3, a4, a5, a6, a7, a8, a9, b1, dE, e, ok, h1, h2, h3, h4, h5, h6, h7, h8, h9, i1, i2⟩ =>
  ⟨x, a1, a2, a3, a4, a5, a6, a7, a8, a9, b1, dE, e, ok, FR.mono hp h1, FR.mono hp h2, h3.mono hp, h4.mono hp, fun hk => (h5 hk).mono hp, h6.mono hp (fun _ _ h => FB.mono hp h), h7.mono hp (fun _ _ h => FB.mono hp h), h8.mono hp, h9.mono hp (fun _ _ h => h.mono hp), i1.mono hp (fun _ _ h => h.mono hp), i2⟩
theorem PrI.only : ∀ {d : Nat} {cs : List Value} {t : LB}, Only S w w1 → (∀ b, p b → ¬ S b) → PrI d w p cs t → PrI d w1 p cs t
 | 0, _, _, _, _, h => h.elim
 | _ + 1, _, _, ho, hs, ⟨x, a1, a2, a3, a4, a5, a6, a7, a8, a9, b1, dE, e, ok, h1, h2, h3, h4, h5, h6, h7, h8, h9, i1, i2⟩ =>
  ⟨x, a1, a2, a3, a4, a5, a6, a7, a8, a9, b1, dE, e, ok, FR.only ho hs h1, FR.only ho hs h2, h3.only ho hs, h4.only ho hs, fun hk => (h5 hk).only ho hs, h6.only ho hs (fun _ _ h => FB.only ho hs h), h7.only ho hs (fun _ _ h => FB.only ho hs h), h8.only ho hs, h9.only ho hs (fun _ _ h => h.only ho hs), i1.only ho hs (fun _ _ h => h.only ho hs), i2⟩
end
def FI : TreeK LB where
 P := fun d w p cs t => PrI d w p cs t
 deep := fun h h' => PrI.deep h h'
 mono := fun h h' => PrI.mono h h'
 only := fun h h1 h2 => PrI.only h h1 h2
def portT (i : Nat) (t : PoT) : LB := portL i t.1 t.2.1 (spanT t.2.2.1) t.2.2.2
def parT (i : Nat) (t : BiT) : LB := parL i t.1 t.2.2
/-- a module -/
def PrM (d : Nat) (w : World) (p : Nat → Prop) (cs : List Value) (t : LB) : Prop :=
 ∃ (nm : LB) (at_ : Int) (AP AQ AI : Option Addr) (np cp nq cq ni ci : Nat) (TP : Nat → BiT) (TQ : Nat → PoT) (TI : Nat → LB),
  cs = [.string (bstr nm), .int .i64 at_, .slice AP np cp, .slice AQ nq cq, .slice AI ni ci] ∧ nm.length ≤ 100000 ∧
  Rw 58 10 w p AP np (fun cs t => PrB d w p cs t) TP ∧ Rw 63 19 w p AQ nq (fun cs t => PrP d w p cs t) TQ ∧ Rw 75 65 w p AI ni (fun cs t => PrI d w p cs t) TI ∧
  t = modL nm np (fun i => parT i (TP i)) nq (fun i => portT i (TQ i)) ni TI
def FM : TreeK LB where
 P := PrM
 deep := fun h ⟨a1, a2, a3, a4, a5, a6, a7, a8, a9, b1, b2, b3, b4, b5, e, hn, h1, h2, h3, h4⟩ => ⟨a1, a2, a3, a4, a5, a6, a7, a8, a9, b1, b2, b3, b4, b5, e, hn, h1.imp (fun _ _ h' => FB.deep h h'), h2.imp (fun _ _ h' => FPo.deep h h'), h3.imp (fun _ _ h' => h'.deep h), h4⟩
 mono := fun h ⟨a1, a2, a3, a4, a5, a6, a7, a8, a9, b1, b2, b3, b4, b5, e, hn, h1, h2, h3, h4⟩ => ⟨a1, a2, a3, a4, a5, a6, a7, a8, a9, b1, b2, b3, b4, b5, e, hn, h1.mono h (fun _ _ h' => FB.mono h h'), h2.mono h (fun _ _ h' => FPo.mono h h'), h3.mono h (fun _ _ h' => h'.mono h), h4⟩
 only := fun h hs ⟨a1, a2, a3, a4, a5, a6, a7, a8, a9, b1, b2, b3, b4, b5, e, hn, h1, h2, h3, h4⟩ => ⟨a1, a2, a3, a4, a5, a6, a7, a8, a9, b1, b2, b3, b4, b5, e, hn, h1.only h hs (fun _ _ h' => FB.only h hs h'), h2.only h hs (fun _ _ h' => FPo.only h hs h'), h3.only h hs (fun _ _ h' => h'.only h hs), h4⟩
end Go.Proofs.YtbdcpealkllfnaaDoor
