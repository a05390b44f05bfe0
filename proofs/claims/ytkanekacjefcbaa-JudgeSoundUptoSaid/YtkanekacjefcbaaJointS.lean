/- A graph of the call's own that grows list by list: its box, its three lists, what each step does to them. No condition. -/
import Derived.Test.YtkanekacjefcbaaJfP
import Derived.Test.YtkanekacjefcbaaValidJ
import Derived.Test.YtkanekacjefcbaaArr
import Derived.Test.YtkanekacjefcbaaStep
import Derived.Test.YtkanekacjefcbaaDrawn2
import Derived.Test.YtkanekacjefcbaaOutletsJ
import Derived.Test.YtkanekacjefcbaaMovedJ
namespace Go.Proofs.Ytkanekacjefcbaa
open Go.RowKit

/-- a graph handed back in new memory -/
def MadeG (g : G) (w : World) (e : Ending) (w' : World) : Prop :=
  ∃ (A1 A2 A3 : Option Addr) (c1 c2 c3 : Nat), e = .returned (.agg #[.int .i64 g.ins, .slice A1 g.n1 c1, .slice A2 g.n2 c2, .slice A3 g.n3 c3]) ∧ g.At w' A1 A2 A3 ∧ Below w.heap.size w w'

theorem elLatchJ : Elem Try.prog 27 70 2 16 := elem_mk Try.underlying27 (z := .agg #[.int .i64 0, .bool false]) (by kernel_rfl) rfl (by omega) (by omega)
theorem elIntK : Elem Try.prog 26 3 1 8 := elem_mk Try.underlying26 (z := .int .i64 0) (by kernel_rfl) rfl (by omega) (by omega)

/-- the four cells of a graph -/
def four (v0 v1 v2 v3 : Value) : Nat → Value
  | 0 => v0
  | 1 => v1
  | 2 => v2
  | _ => v3
/-- a graph of the call's own, cell by cell -/
def GBox (w : World) (b : Nat) (v0 v1 v2 v3 : Value) : Prop := Arr w b 30 4 (four v0 v1 v2 v3)
section
variable {w w1 : World} {b : Nat} {v0 v1 v2 v3 : Value}
theorem GBox.new (w : World) (v0 v1 v2 v3 : Value) : GBox (w.alloc (.cells #[v0, v1, v2, v3] 30)) w.heap.size v0 v1 v2 v3 :=
  (Arr.new w #[v0, v1, v2, v3] 30).congr (fun j hj => by
    obtain rfl | rfl | rfl | rfl : j = 0 ∨ j = 1 ∨ j = 2 ∨ j = 3 := by (have hj' : j < 4 := hj); omega
    all_goals rfl)
theorem GBox.at_ (h : GBox w b v0 v1 v2 v3) : w.cell? ⟨b, 0, none⟩ = some v0 ∧ w.cell? ⟨b, 1, none⟩ = some v1 ∧ w.cell? ⟨b, 2, none⟩ = some v2 ∧ w.cell? ⟨b, 3, none⟩ = some v3 :=
  ⟨Arr.cell h (k := 0) (by omega), Arr.cell h (k := 1) (by omega), Arr.cell h (k := 2) (by omega), Arr.cell h (k := 3) (by omega)⟩
theorem GBox.put0 (h : GBox w b v0 v1 v2 v3) (x : Value) : GBox (w.setCell ⟨b, 0, none⟩ x) b x v1 v2 v3 := Arr.set h (fun j hj hne => by
    obtain rfl | rfl | rfl | rfl : j = 0 ∨ j = 1 ∨ j = 2 ∨ j = 3 := by omega
    all_goals first | rfl | omega) rfl
theorem GBox.put1 (h : GBox w b v0 v1 v2 v3) (x : Value) : GBox (w.setCell ⟨b, 1, none⟩ x) b v0 x v2 v3 := Arr.set h (fun j hj hne => by
    obtain rfl | rfl | rfl | rfl : j = 0 ∨ j = 1 ∨ j = 2 ∨ j = 3 := by omega
    all_goals first | rfl | omega) rfl
theorem GBox.put2 (h : GBox w b v0 v1 v2 v3) (x : Value) : GBox (w.setCell ⟨b, 2, none⟩ x) b v0 v1 x v3 := Arr.set h (fun j hj hne => by
    obtain rfl | rfl | rfl | rfl : j = 0 ∨ j = 1 ∨ j = 2 ∨ j = 3 := by omega
    all_goals first | rfl | omega) rfl
theorem GBox.put3 (h : GBox w b v0 v1 v2 v3) (x : Value) : GBox (w.setCell ⟨b, 3, none⟩ x) b v0 v1 v2 x := Arr.set h (fun j hj hne => by
    obtain rfl | rfl | rfl | rfl : j = 0 ∨ j = 1 ∨ j = 2 ∨ j = 3 := by omega
    all_goals first | rfl | omega) rfl
end

def latF (g : G) (k : Nat) : Nat → Value := two (.int .i64 (g.L k)) (.bool (g.I k))
def andF (g : G) (k : Nat) : Nat → Value := two (.int .i64 (g.X k)) (.int .i64 (g.Y k))
def outF (g : G) (k : Nat) : Value := .int .i64 (g.O k)
/-- so much of the graph g stands in block bh: k1 latches, k2 gates, k3 outputs -/
structure JAt (g : G) (w6 wr : World) (bh k1 k2 k3 : Nat) (A1 A2 A3 : Option Addr) (c1 c2 c3 : Nat) : Prop where
  only : Only (fun j => j = bh) w6 wr
  r1 : wr.ownsRow w6.heap.size 70 2 (.slice A1 k1 c1) k1 (flat2 (latF g) k1)
  r2 : wr.ownsRow w6.heap.size 49 2 (.slice A2 k2 c2) k2 (flat2 (andF g) k2)
  r3 : wr.ownsRow w6.heap.size 3 1 (.slice A3 k3 c3) k3 ((List.range k3).map (outF g))
  box : GBox wr bh (.int .i64 g.ins) (.slice A1 k1 c1) (.slice A2 k2 c2) (.slice A3 k3 c3)
  lt : bh < w6.heap.size
theorem Only.drawn {S : Nat → Prop} {w w1 : World} (h : Only S w.drew w1) : Only S w w1 := ⟨h.os, h.tape, h.output, h.size, h.block⟩
section
variable {g : G} {w6 wr w7 wc : World} {bh k1 k2 k3 c1 c2 c3 : Nat} {A1 A2 A3 : Option Addr}
theorem JAt.start (w : World) (b : Nat) (v : World) (hw : w = v) (hb : GBox v b (.int .i64 g.ins) (.slice none 0 0) (.slice none 0 0) (.slice none 0 0)) : JAt g w v b 0 0 0 none none none 0 0 0 := by
  subst hw
  exact ⟨Only.refl _ _, World.ownsRow_nil _ _ _ _, World.ownsRow_nil _ _ _ _, World.ownsRow_nil _ _ _ _, hb, Arr.lt hb⟩
theorem JAt.size (h : JAt g w6 wr bh k1 k2 k3 A1 A2 A3 c1 c2 c3) : w6.heap.size ≤ wr.heap.size := h.only.size
theorem JAt.call (h : JAt g w6 wr bh k1 k2 k3 A1 A2 A3 c1 c2 c3) (hb : Below wr.heap.size wr wc) : JAt g w6 wc bh k1 k2 k3 A1 A2 A3 c1 c2 c3 :=
  ⟨h.only.call hb, own_below h.r1 hb, own_below h.r2 hb, own_below h.r3 hb, Arr.below h.box hb, h.lt⟩
theorem JAt.alloc (h : JAt g w6 wr bh k1 k2 k3 A1 A2 A3 c1 c2 c3) (o : Obj) : JAt g w6 (wr.alloc o) bh k1 k2 k3 A1 A2 A3 c1 c2 c3 := h.call ((Below.refl _ _).alloc (Nat.le_refl _) _)
theorem JAt.drew (h : JAt g w6 wr bh k1 k2 k3 A1 A2 A3 c1 c2 c3) : JAt g w6 wr.drew bh k1 k2 k3 A1 A2 A3 c1 c2 c3 := ⟨h.only.drew, h.r1, h.r2, h.r3, h.box, h.lt⟩
theorem JAt.push1 {A1' : Option Addr} {c1' : Nat} {x : Int} {y : Bool} (h : JAt g w6 wr bh k1 k2 k3 A1 A2 A3 c1 c2 c3) (hk : Only (blockOf A1) wr w7)
    (ho : w7.ownsRow w6.heap.size 70 2 (.slice A1' (k1 + 1) c1') (k1 + 1) (flat2 (latF g) k1 ++ [.int .i64 x, .bool y])) (hx : g.L k1 = x) (hy : g.I k1 = y) :
    JAt g w6 (w7.setCell ⟨bh, 1, none⟩ (.slice A1' (k1 + 1) c1')) bh (k1 + 1) k2 k3 A1' A2 A3 c1' c2 c3 := by
  have hba := own_base h.r1
  have hb2 := own_base h.r2
  have hb3 := own_base h.r3
  have hb4 := own_base ho
  have hlt := h.lt
  have os := (Only.refl (fun j => j = bh) w7).setCell (p := ⟨bh, 1, none⟩) (fun _ => rfl) (.slice A1' (k1 + 1) c1')
  subst hx; subst hy
  exact ⟨(h.only.grew hk hba).trans os, own_only ho os (fun b c e => by have := hb4 b c; omega),
    own_only (own_only h.r2 hk (own_apart h.r2 h.r1 (by decide))) os (fun b c e => by have := hb2 b c; omega),
    own_only (own_only h.r3 hk (own_apart h.r3 h.r1 (by decide))) os (fun b c e => by have := hb3 b c; omega),
    GBox.put1 (Arr.only h.box hk (fun c => by have := hba _ c; omega)) _, h.lt⟩
theorem JAt.push2 {A2' : Option Addr} {c2' : Nat} {x y : Int} (h : JAt g w6 wr bh k1 k2 k3 A1 A2 A3 c1 c2 c3) (hk : Only (blockOf A2) wr w7)
    (ho : w7.ownsRow w6.heap.size 49 2 (.slice A2' (k2 + 1) c2') (k2 + 1) (flat2 (andF g) k2 ++ [.int .i64 x, .int .i64 y])) (hx : g.X k2 = x) (hy : g.Y k2 = y) :
    JAt g w6 (w7.setCell ⟨bh, 2, none⟩ (.slice A2' (k2 + 1) c2')) bh k1 (k2 + 1) k3 A1 A2' A3 c1 c2' c3 := by
  have hba := own_base h.r2
  have hb2 := own_base h.r1
  have hb3 := own_base h.r3
  have hb4 := own_base ho
  have hlt := h.lt
  have os := (Only.refl (fun j => j = bh) w7).setCell (p := ⟨bh, 2, none⟩) (fun _ => rfl) (.slice A2' (k2 + 1) c2')
  subst hx; subst hy
  exact ⟨(h.only.grew hk hba).trans os,
    own_only (own_only h.r1 hk (own_apart h.r1 h.r2 (by decide))) os (fun b c e => by have := hb2 b c; omega),
    own_only ho os (fun b c e => by have := hb4 b c; omega),
    own_only (own_only h.r3 hk (own_apart h.r3 h.r2 (by decide))) os (fun b c e => by have := hb3 b c; omega),
    GBox.put2 (Arr.only h.box hk (fun c => by have := hba _ c; omega)) _, h.lt⟩
theorem JAt.push3 {A3' : Option Addr} {c3' : Nat} {x : Int} (h : JAt g w6 wr bh k1 k2 k3 A1 A2 A3 c1 c2 c3) (hk : Only (blockOf A3) wr w7)
    (ho : w7.ownsRow w6.heap.size 3 1 (.slice A3' (k3 + 1) c3') (k3 + 1) ((List.range k3).map (outF g) ++ [.int .i64 x])) (hx : g.O k3 = x) :
    JAt g w6 (w7.setCell ⟨bh, 3, none⟩ (.slice A3' (k3 + 1) c3')) bh k1 k2 (k3 + 1) A1 A2 A3' c1 c2 c3' := by
  have hba := own_base h.r3
  have hb2 := own_base h.r1
  have hb3 := own_base h.r2
  have hb4 := own_base ho
  have hlt := h.lt
  have os := (Only.refl (fun j => j = bh) w7).setCell (p := ⟨bh, 3, none⟩) (fun _ => rfl) (.slice A3' (k3 + 1) c3')
  subst hx
  refine ⟨(h.only.grew hk hba).trans os,
    own_only (own_only h.r1 hk (own_apart h.r1 h.r3 (by decide))) os (fun b c e => by have := hb2 b c; omega),
    own_only (own_only h.r2 hk (own_apart h.r2 h.r3 (by decide))) os (fun b c e => by have := hb3 b c; omega), ?_,
    GBox.put3 (Arr.only h.box hk (fun c => by have := hba _ c; omega)) _, h.lt⟩
  have e : (List.range (k3 + 1)).map (outF g) = (List.range k3).map (outF g) ++ [.int .i64 (g.O k3)] := by rw [List.range_succ, List.map_append]; rfl
  rw [e]
  exact own_only ho os (fun b c e => by have := hb4 b c; omega)
/-- done, but for a write to an older block -/
theorem JAt.at_ {q : Nat} (h : JAt g w6 wr bh g.n1 g.n2 g.n3 A1 A2 A3 c1 c2 c3) (hO : Only (fun j => j = q) wr w7) (hq : q < w6.heap.size) : g.At w7 A1 A2 A3 := by
  have h1 := own_only h.r1 hO (fun b c e => by have := own_base h.r1 b c; omega)
  have h2 := own_only h.r2 hO (fun b c e => by have := own_base h.r2 b c; omega)
  have h3 := own_only h.r3 hO (fun b c e => by have := own_base h.r3 b c; omega)
  exact ⟨(own_rows2 h1).row, (own_rows2 h2).row, fun hn => by
    obtain ⟨b, off, e, hc⟩ := own_row1 h3 hn
    refine ⟨b, off, e, fun k hk => ?_⟩
    rw [hc k hk]
    simp [List.getD_eq_getElem?_getD, hk, outF]⟩
end

/-! ### The joint graph's numbers -/
section
variable (a b : G)
theorem joint_L1 {k : Nat} (h : k < a.n1) : (joint a b).L k = mv1 a b (a.L k) := by simp [joint, after, h]
theorem joint_L2 (k : Nat) : (joint a b).L (a.n1 + k) = mv2 a b (b.L k) := by simp [joint, after]; intro h; omega
theorem joint_I1 {k : Nat} (h : k < a.n1) : (joint a b).I k = a.I k := by simp [joint, after, h]
theorem joint_I2 (k : Nat) : (joint a b).I (a.n1 + k) = b.I k := by simp [joint, after]; intro h; omega
theorem joint_X1 {k : Nat} (h : k < a.n2) : (joint a b).X k = mv1 a b (a.X k) := by simp [joint, after, h]
theorem joint_X2 (k : Nat) : (joint a b).X (a.n2 + k) = mv2 a b (b.X k) := by simp [joint, after]; intro h; omega
theorem joint_Y1 {k : Nat} (h : k < a.n2) : (joint a b).Y k = mv1 a b (a.Y k) := by simp [joint, after, h]
theorem joint_Y2 (k : Nat) : (joint a b).Y (a.n2 + k) = mv2 a b (b.Y k) := by simp [joint, after]; intro h; omega
theorem joint_O1 {k : Nat} (h : k < a.n3) : (joint a b).O k = mv1 a b (a.O k) := by simp [joint, after, h]
theorem joint_O2 (k : Nat) : (joint a b).O (a.n3 + k) = mv2 a b (b.O k) := by simp [joint, after]; intro h; omega
end
theorem G.Valid.small {g : G} (h : g.Valid) : g.ins ≤ 60000 ∧ 0 ≤ g.ins ∧ g.n1 ≤ 6000 ∧ g.n2 ≤ 60000 ∧ g.n3 ≤ 60000 := by
  have := h.i0; have := h.i1; have := h.n1; have := h.n; have := h.n3
  omega
theorem small2_of {a b : G} (ha : a.Valid) (hb : b.Valid) : Small2 a b := by
  have := ha.small; have := hb.small
  exact ⟨by omega, by omega, by omega, by omega, by omega, by omega⟩
end Go.Proofs.Ytkanekacjefcbaa
