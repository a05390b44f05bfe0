/- The reference's GraphRun, walked: the outputs, cycle by cycle, as a new slice of new rows. Conditions: the graph is valid and lies in memory, the trace lies in memory. -/
import Derived.Test.YtdhgbikmaglgpaaRefNext
import Derived.Test.YtdhgbikmaglgpaaSame
import Derived.StillTailTactics
import Derived.Deep.RegionHeld3
namespace Go.Proofs.Ytdhgbikmaglgpaa
open Go.RowKit

/-- a new slice of rows of bools: the rows lie in blocks from base on, of bools -/
structure OwnMat (w : World) (base : Nat) (A : Option Addr) (n c : Nat) (len : Nat) (R : Nat → Nat → Bool) (RA : Nat → Option Addr) (RC : Nat → Nat) : Prop where
  own : w.ownsRow base 31 1 (.slice A n c) n ((List.range n).map fun i => .slice (RA i) len (RC i))
  rows : ∀ i, i < n → RowT (fun b => base ≤ b) w 4 1 (RA i) len (fun j _ => .bool (R i j))

theorem bits_of_rowT {p : Nat → Prop} {w : World} {A : Option Addr} {n : Nat} {V : Nat → Bool} (h : RowT p w 4 1 A n (fun j _ => .bool (V j))) : Bits w A n V := h.row.one
theorem rowT_of_bits {w : World} {base : Nat} {A : Option Addr} {n c : Nat} {V : Nat → Bool} (h : OwnBits w base A n c V) : RowT (fun b => base ≤ b) w 4 1 A n (fun j _ => .bool (V j)) := fun hn => by
  obtain ⟨b, off, cur, e, hp, hh, hc⟩ := own_rowT h hn
  refine ⟨b, off, cur, e, hp.1, hh, fun k hk j hj => ?_⟩
  rw [hc k hk j hj]
  obtain rfl : j = 0 := by omega
  simp [hk]

theorem OwnMat.mat {w : World} {base : Nat} {A : Option Addr} {n c len : Nat} {R : Nat → Nat → Bool} {RA : Nat → Option Addr} {RC : Nat → Nat} (h : OwnMat w base A n c len R RA RC) : Mat w A n (fun _ => len) R := by
  refine ⟨RA, RC, fun hn => ?_, fun i hi => bits_of_rowT (h.rows i hi)⟩
  obtain ⟨b, off, e, hc⟩ := own_row1 h.own hn
  refine ⟨b, off, e, fun k hk => ?_⟩
  rw [hc k hk]
  simp [hk]
theorem OwnMat.below {w w1 : World} {base : Nat} {A : Option Addr} {n c len : Nat} {R : Nat → Nat → Bool} {RA : Nat → Option Addr} {RC : Nat → Nat} (h : OwnMat w base A n c len R RA RC) (hb : Below w.heap.size w w1) : OwnMat w1 base A n c len R RA RC :=
  ⟨own_below h.own hb, fun i hi => (h.rows i hi).below hb⟩
theorem OwnMat.only {w w1 : World} {base : Nat} {A : Option Addr} {n c len : Nat} {R : Nat → Nat → Bool} {RA : Nat → Option Addr} {RC : Nat → Nat} {S : Nat → Prop} (h : OwnMat w base A n c len R RA RC) (hk : Only S w w1) (hS : ∀ k, base ≤ k → ¬ S k) : OwnMat w1 base A n c len R RA RC :=
  ⟨own_only h.own hk (fun k hb => hS k (own_base h.own k hb)), fun i hi => (h.rows i hi).only hk (fun b _ hb _ => hS b hb)⟩
theorem OwnMat.alloc {w : World} {base : Nat} {A : Option Addr} {n c len : Nat} {R : Nat → Nat → Bool} {RA : Nat → Option Addr} {RC : Nat → Nat} (h : OwnMat w base A n c len R RA RC) (o : Obj) : OwnMat (w.alloc o) base A n c len R RA RC :=
  h.below ((Below.refl _ _).alloc (Nat.le_refl _) o)
/-- the address or capacity of the last one laid on -/
def lastly {α : Type} (n : Nat) (x : α) (f : Nat → α) (i : Nat) : α := if i = n then x else f i
theorem OwnMat.push {w w1 : World} {base : Nat} {A A' B : Option Addr} {n c c' d len : Nat} {R : Nat → Nat → Bool} {RA : Nat → Option Addr} {RC : Nat → Nat} (h : OwnMat w base A n c len R RA RC)
    (ho : w1.ownsRow base 31 1 (.slice A' (n + 1) c') (n + 1) (((List.range n).map fun i => .slice (RA i) len (RC i)) ++ [.slice B len d])) (hk : Only (blockOf A) w w1)
    (hB : RowT (fun b => base ≤ b) w 4 1 B len (fun j _ => .bool (R n j))) : OwnMat w1 base A' (n + 1) c' len R (lastly n B RA) (lastly n d RC) := by
  have hty := own_type (e' := 4) h.own (by decide)
  refine ⟨?_, fun i hi => ?_⟩
  · rw [List.range_succ, List.map_append, List.map_congr_left (g := fun i => .slice (RA i) len (RC i)) (fun i hi => by
      have : i ≠ n := by have := List.mem_range.1 hi; omega
      simp [lastly, this])]
    simpa [lastly] using ho
  · unfold lastly
    by_cases e : i = n
    · rw [if_pos e, e]; exact hB.only hk (fun b cur _ hb => hty b cur hb)
    · rw [if_neg e]; exact (h.rows i (by omega)).only hk (fun b cur _ hb => hty b cur hb)
theorem elBoolRow : Elem Try.prog 29 31 1 24 := elem_mk Try.underlying29 (z := .slice none 0 0) (by kernel_rfl) rfl (by omega) (by omega)

/-- a new matrix -/
def RetMat (w : World) (n len : Nat) (R : Nat → Nat → Bool) (e : Ending) (w' : World) : Prop :=
  ∃ A c RA RC, e = .returned (.slice A n c) ∧ OwnMat w' w.heap.size A n c len R RA RC ∧ Below w.heap.size w w'

set_option maxHeartbeats 1000000 in
set_option maxRecDepth 100000 in
theorem refRun_any (g : G) (A1 A2 A3 : Option Addr) (c1 c2 c3 : Nat) (At : Option Addr) (nt ct : Nat) (TL : Nat → Nat) (T : Nat → Nat → Bool) (w : World) (hg : g.At w A1 A2 A3) (hv : g.Valid)
    (ht : Mat w At nt TL T) (hnt : nt * 24 ≤ 140737488351232) (htl : ∀ i, i < nt → TL i ≤ 140737488351232) :
    Calls Try.prog 41 #[.agg #[.int .i64 g.ins, .slice A1 g.n1 c1, .slice A2 g.n2 c2, .slice A3 g.n3 c3], .slice At nt ct] w (RetMat w nt g.n3 (g.row (fun c i => decide (i < TL c) && T c i))) := by
  have v4 := hv.n1
  go_enter Try.func41, Try.ntmps41
  go_wp2_with fail
  refine (states_any g A1 A2 A3 c1 c2 c3 _ (hg.keeps (Keeps.alloc _ _)) v4).mono ?_
  rintro e w1 ⟨As, cs, rfl, hown, hb1⟩
  have HB1 := Lib.hid (Below.alloc_then hb1)
  have hbox := (BoxAt.new w [.int .i64 g.ins, .slice A1 g.n1 c1, .slice A2 g.n2 c2, .slice A3 g.n3 c3] 26).keeps (Keeps.of_below hb1)
  have hg1 := hg.keeps (Keeps.below_alloc hb1)
  have ht1 := ht.keeps (Keeps.below_alloc hb1)
  have hst := hown.bits
  have hs1 := hb1.size
  simp at hs1
  clear hb1 hown
  have HTL := Lib.hid htl; clear htl
  go_wp2_with fail
  go_loopw [5, 6, 7] (fun s v i wr => ∃ (k : Nat) (A B : Option Addr) (c d : Nat) (RA : Nat → Option Addr) (RC : Nat → Nat), k ≤ nt ∧ i = .int .i64 k ∧ s = .slice B g.n1 d ∧ v = .slice A k c ∧
    Bits wr B g.n1 (g.state (fun c i => decide (i < TL c) && T c i) k) ∧ OwnMat wr w1.heap.size A k c g.n3 (g.row (fun c i => decide (i < TL c) && T c i)) RA RC ∧ Below w1.heap.size w1 wr) (fun _ _ i _ => nt - (intOf i).toNat)
  case atStart => exact ⟨0, none, As, 0, cs, fun _ => none, fun _ => 0, by omega, rfl, rfl, rfl, hst, ⟨World.ownsRow_nil _ _ _ _, fun i hi => by omega⟩, Below.refl _ _⟩
  case round =>
    obtain ⟨k, A, B, c, d, RA, RC, hk, rfl, rfl, rfl, hS, hM, hbr⟩ := hrel
    obtain ⟨g0, g1, g2, g3⟩ := (hbox.keeps (Keeps.of_below hbr)).four
    have hsz := hbr.size
    by_cases hlt : k < nt
    · obtain ⟨TA, TC, t1, t2⟩ := ht1.keeps (Keeps.of_below hbr)
      have HT2 := Lib.hid (t2 k hlt); clear t2
      obtain ⟨bt, ot, rfl, x0⟩ := t1.at_ hlt
      have hgr := hg1.keeps (Keeps.of_below hbr)
      go_wp2_with fail
      have hnx := fun W (hW : Keeps wr W) => next_any g A1 A2 A3 c1 c2 c3 (TA k) B (TL k) (TC k) d (T k) (g.state (fun c i => decide (i < TL c) && T c i) k) W (hgr.keeps hW) hv (HT2.out.keeps hW) (HTL.out k hlt) (hS.keeps hW)
      have HN := Lib.hid hnx; clear hnx
      go_region_held3 (fun w' => w'.cell? ⟨w.heap.size, 0, none⟩ = some (.int .i64 g.ins) ∧ w'.cell? ⟨w.heap.size, 1, none⟩ = some (.slice A1 g.n1 c1) ∧ w'.cell? ⟨w.heap.size, 2, none⟩ = some (.slice A2 g.n2 c2) ∧ w'.cell? ⟨w.heap.size, 3, none⟩ = some (.slice A3 g.n3 c3) ∧ w'.cell? ⟨bt, ot + k, none⟩ = some (.slice (TA k) (TL k) (TC k))) (first | exact ⟨g0, g1, g2, g3, x0⟩ | assumption)
        (first | (go_at_call 90; refine (HN.out _ ?_).mono ?_; exact (Keeps.drew _); rintro e w3 ⟨Bn, dn, Bo, dO, rfl, hn1, hn2, hb3⟩; have hs5 : w3.cell? ⟨w.heap.size, 0, none⟩ = some (.int .i64 g.ins) ∧ w3.cell? ⟨w.heap.size, 1, none⟩ = some (.slice A1 g.n1 c1) ∧ w3.cell? ⟨w.heap.size, 2, none⟩ = some (.slice A2 g.n2 c2) ∧ w3.cell? ⟨w.heap.size, 3, none⟩ = some (.slice A3 g.n3 c3) ∧ w3.cell? ⟨bt, ot + k, none⟩ = some (.slice (TA k) (TL k) (TC k)) := ⟨Keeps.of_below hb3 _ _ g0, Keeps.of_below hb3 _ _ g1, Keeps.of_below hb3 _ _ g2, Keeps.of_below hb3 _ _ g3, Keeps.of_below hb3 _ _ x0⟩))
      have HB3 := Lib.hid (show Below wr.heap.size wr w3 from ⟨hb3.os, hb3.tape, hb3.output, hb3.size, hb3.block⟩)
      have hsz3 : wr.heap.size ≤ w3.heap.size := HB3.out.size
      have H := hM.below HB3.out
      have hrow := rowT_of_bits hn2
      have hnxt := rowT_of_bits hn1
      clear hs5 hb3 hn1 hn2 g0 g1 g2 g3 x0
      go_wp2_with (at_builtin; refine wp_append rfl (.tmp 28) (.tmp 30) _ rfl elBoolRow w1.heap.size A k c _ rfl (H.alloc _).own _ 1 1 [.slice Bo g.n3 dO] rfl (src_new _ _ _ rfl) (by omega) (by simp; omega) ?_; intro A' c' w4 ho hk' hb')
      have hty := own_type (e' := 4) (H.alloc (.cells #[.slice Bo g.n3 dO] 31)).own (by decide)
      have hal := (Below.refl w3.heap.size w3).alloc (Nat.le_refl _) (.cells #[.slice Bo g.n3 dO] 31)
      refine ⟨⟨k + 1, A', Bn, c', dn, lastly k Bo RA, lastly k dO RC, by omega, by go_num, rfl, rfl, ?_, ?_, ?_⟩, by simp [intOf]; omega⟩
      · exact bits_of_rowT ((hnxt.below hal).only hk' (fun b cur _ hb => hty b cur hb))
      · exact (H.alloc _).push ho hk' ((hrow.mono (p' := fun b => w1.heap.size ≤ b) (fun b _ hb => Nat.le_trans hsz hb)).below hal)
      · exact (hbr.trans (HB3.out.mono hsz)).trans ((hal.mono (by omega)).trans (hk'.below (fun j _ c => own_base H.own j c) (by simp; omega)))
    · obtain rfl : k = nt := by omega
      go_wp2_with fail
      go_ret
      exact ⟨A, c, RA, RC, rfl, ⟨own_mono hM.own (by omega), fun i hi => (hM.rows i hi).mono (fun b _ hb => by omega)⟩, Below.then_call HB1.out hbr (by omega)⟩
end Go.Proofs.Ytdhgbikmaglgpaa
