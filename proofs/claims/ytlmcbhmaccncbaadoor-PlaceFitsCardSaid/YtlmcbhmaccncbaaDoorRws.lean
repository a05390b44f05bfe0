/- Rows of bools: read, owned, compared; SameBools and SameRows walked; an argument of rows opened (out of RefRun, for the Door seat). No condition. -/
import Derived.Test.YtlmcbhmaccncbaaDoorArr
import Derived.Test.YtlmcbhmaccncbaaDoorCf
import Derived.Test.YtlmcbhmaccncbaaDoorDrawn2
import Derived.Test.YtlmcbhmaccncbaaDoorDrawnR
import Derived.Deep.DeepMust
import Derived.Deep.QuietTactic
import Derived.BigQuiet
import Derived.StillTailTactics
import Derived.Deep.RegionHeld3
namespace Go.Proofs.YtlmcbhmaccncbaaDoor
open Go.RowKit Go.ChangeShapes Go.WideShapes Go.Deep

/-- a slice of bools -/
def Bits (w : World) (A : Option Addr) (n : Nat) (V : Nat → Bool) : Prop := Row1 w A n (fun k => .bool (V k))
theorem Bits.keeps {w w1 : World} {A : Option Addr} {n : Nat} {V : Nat → Bool} (h : Bits w A n V) (k : Keeps w w1) : Bits w1 A n V := Row1.keeps h k
def OwnBits (w : World) (base : Nat) (A : Option Addr) (n c : Nat) (V : Nat → Bool) : Prop := w.ownsRow base 4 1 (.slice A n c) n ((List.range n).map fun k => .bool (V k))
theorem OwnBits.bits {w : World} {base : Nat} {A : Option Addr} {n c : Nat} {V : Nat → Bool} (h : OwnBits w base A n c V) : Bits w A n V := fun hn => by
  obtain ⟨b, off, e, hc⟩ := own_row1 h hn
  refine ⟨b, off, e, fun k hk => ?_⟩
  rw [hc k hk]
  simp [hk]
theorem OwnBits.push {w : World} {base : Nat} {A : Option Addr} {n c : Nat} {V V' : Nat → Bool} {x : Bool} (h : w.ownsRow base 4 1 (.slice A (n + 1) c) (n + 1) (((List.range n).map fun k => .bool (V k)) ++ [.bool x]))
    (hV : ∀ k, k < n → V' k = V k) (hx : V' n = x) : OwnBits w base A (n + 1) c V' := by
  unfold OwnBits
  rw [List.range_succ, List.map_append, List.map_congr_left (g := fun k => .bool (V k)) (fun k hk => by rw [hV k (by simpa using hk)])]
  simpa [hx] using h
/-- .. of bools that grows -/
def GrowB (wb : World) (A : Option Addr) (n c : Nat) (V : Nat → Bool) (wr : World) : Prop := Grow wb 4 1 A n c ((List.range n).map fun k => .bool (V k)) wr
theorem GrowB.own {wb wr : World} {A : Option Addr} {n c : Nat} {V : Nat → Bool} (h : GrowB wb A n c V wr) : OwnBits wr wb.heap.size A n c V := Grow.own h
theorem GrowB.start (wb : World) (V : Nat → Bool) : GrowB wb none 0 0 V wb := Grow.start _ _ _
theorem GrowB.push {wb wr w1 : World} {A A' : Option Addr} {n c c' : Nat} {V V' : Nat → Bool} {x : Bool} (h : GrowB wb A n c V wr)
    (ho : w1.ownsRow wb.heap.size 4 1 (.slice A' (n + 1) c') (n + 1) (((List.range n).map fun k => .bool (V k)) ++ [.bool x])) (hk : Only (blockOf A) wr w1)
    (hV : ∀ k, k < n → V' k = V k) (hx : V' n = x) : GrowB wb A' (n + 1) c' V' w1 := Grow.push h (OwnBits.push ho hV hx) hk
theorem elBool : Elem Tryd.prog 22 4 1 1 := elem_mk Tryd.underlying22 (z := .bool false) (by kernel_rfl) rfl (by omega) (by omega)
/-- are two rows the same? -/
def RowsEq (n m : Nat) (V U : Nat → Bool) : Prop := n = m ∧ ∀ j, j < n → V j = U j
set_option maxHeartbeats 400000 in
theorem sameBools_any (A B : Option Addr) (n m c d : Nat) (V U : Nat → Bool) (w : World) (ha : Bits w A n V) (hb : Bits w B m U) (hn : n ≤ 1000000000000000) :
    Calls Tryd.prog 27 #[.slice A n c, .slice B m d] w (RetQ (tf (RowsEq n m V U)) w) := by
  by_cases hnm : n = m
  · subst hnm
    go_enter Tryd.func27, Tryd.ntmps27
    have hq : ((n : Int) != (n : Int)) = false := by simp
    go_wp2_with fail
    go_loopw [5] (fun i wr => ∃ k : Nat, k ≤ n ∧ i = .int .i64 k ∧ Drawn w wr ∧ Hid (∀ j, j < k → V j = U j)) (fun i _ => n - (intOf i).toNat)
    case atStart => exact ⟨0, by omega, rfl, ⟨0, rfl⟩, fun j hj => by omega⟩
    case round =>
      obtain ⟨k, hk, rfl, HD, HA⟩ := hrel
      by_cases hlt : k < n
      · obtain ⟨b1, o1, rfl, x0⟩ := (ha.keeps HD.keeps).at_ hlt
        obtain ⟨b2, o2, rfl, y0⟩ := (hb.keeps HD.keeps).at_ hlt
        by_cases hvu : V k = U k
        · have hx : (!(V k == U k)) = false := by simp [hvu]
          go_wp2_with fail
          go_quiet (fail)
          go_wp2_with fail
          exact ⟨⟨k + 1, by omega, by go_num, HD.more _, fun j hj => if e : j = k then e ▸ hvu else HA.out j (by omega)⟩, by simp [intOf]; omega⟩
        · have hx : (!(V k == U k)) = true := by simp [hvu]
          go_wp2_with fail
          go_quiet (fail)
          go_wp2_with fail
          go_ret
          exact ⟨by rw [tf_no (fun h => hvu (h.2 k hlt))]; rfl, HD.more _⟩
      · go_wp2_with fail
        go_ret
        obtain rfl : k = n := by omega
        exact ⟨by rw [tf_yes ⟨rfl, HA.out⟩]; rfl, HD⟩
  · go_enter Tryd.func27, Tryd.ntmps27
    have hq : ((n : Int) != (m : Int)) = true := by rw [bne_iff_ne]; omega
    go_wp2_with fail
    go_ret
    exact ⟨by rw [tf_no (fun h => hnm h.1)]; rfl, 0, rfl⟩
/-- a slice of n rows of bools -/
def Mat (w : World) (A : Option Addr) (n : Nat) (len : Nat → Nat) (R : Nat → Nat → Bool) : Prop :=
  ∃ (RA : Nat → Option Addr) (RC : Nat → Nat), Row1 w A n (fun i => .slice (RA i) (len i) (RC i)) ∧ ∀ i, i < n → Bits w (RA i) (len i) (R i)
theorem Mat.keeps {w w1 : World} {A : Option Addr} {n : Nat} {len : Nat → Nat} {R : Nat → Nat → Bool} (h : Mat w A n len R) (k : Keeps w w1) : Mat w1 A n len R := by
  obtain ⟨RA, RC, h1, h2⟩ := h
  exact ⟨RA, RC, h1.keeps k, fun i hi => (h2 i hi).keeps k⟩
def MatEq (n m : Nat) (ln lm : Nat → Nat) (R R' : Nat → Nat → Bool) : Prop := n = m ∧ ∀ i, i < n → RowsEq (ln i) (lm i) (R i) (R' i)
set_option maxHeartbeats 400000 in
theorem sameRows_any (A B : Option Addr) (n m c d : Nat) (ln lm : Nat → Nat) (R R' : Nat → Nat → Bool) (w : World) (ha : Mat w A n ln R) (hb : Mat w B m lm R') (hn : n ≤ 1000000000000000)
    (hl : ∀ i, i < n → ln i ≤ 1000000000000000) :
    Calls Tryd.prog 13 #[.slice A n c, .slice B m d] w (RetQ (tf (MatEq n m ln lm R R')) w) := by
  by_cases hnm : n = m
  · subst hnm
    go_enter Tryd.func13, Tryd.ntmps13
    have hq : ((n : Int) != (n : Int)) = false := by simp
    have HL := Lib.hid hl; clear hl
    obtain ⟨RA, RC, ha1, ha2⟩ := ha
    obtain ⟨RB, RD, hb1, hb2⟩ := hb
    have HA2 := Lib.hid ha2; have HB2 := Lib.hid hb2; clear ha2 hb2
    go_wp2_with fail
    go_loopw [5] (fun i wr => ∃ k : Nat, k ≤ n ∧ i = .int .i64 k ∧ Drawn w wr ∧ Hid (∀ j, j < k → RowsEq (ln j) (lm j) (R j) (R' j))) (fun i _ => n - (intOf i).toNat)
    case atStart => exact ⟨0, by omega, rfl, ⟨0, rfl⟩, fun j hj => by omega⟩
    case round =>
      obtain ⟨k, hk, rfl, HD, HA⟩ := hrel
      by_cases hlt : k < n
      · obtain ⟨b1, o1, rfl, x0⟩ := (ha1.keeps HD.keeps).at_ hlt
        obtain ⟨b2, o2, rfl, y0⟩ := (hb1.keeps HD.keeps).at_ hlt
        have hc := fun W (hW : Keeps w W) => sameBools_any _ _ _ _ (RC k) (RD k) _ _ W ((HA2.out k hlt).keeps hW) ((HB2.out k hlt).keeps hW) (HL.out k hlt)
        have HC := Lib.hid hc; clear hc
        by_cases hvu : RowsEq (ln k) (lm k) (R k) (R' k)
        · have hx : tf (RowsEq (ln k) (lm k) (R k) (R' k)) = true := tf_yes hvu
          have HV := Lib.hid hvu; clear hvu
          go_wp2_with fail
          go_quiet ((go_at_call 27; refine (HC.out _ (HD.more _).keeps).mono ?_; rintro e w' ⟨rfl, n', rfl⟩; exact ⟨rfl, _, World.drewN_drewN _ _ _⟩))
          go_wp2_with fail
          exact ⟨⟨k + 1, by omega, by go_num, HD.more _, fun j hj => if e : j = k then e ▸ HV.out else HA.out j (by omega)⟩, by simp [intOf]; omega⟩
        · have hx : tf (RowsEq (ln k) (lm k) (R k) (R' k)) = false := tf_no hvu
          have HV := Lib.hid hvu; clear hvu
          go_wp2_with fail
          go_quiet ((go_at_call 27; refine (HC.out _ (HD.more _).keeps).mono ?_; rintro e w' ⟨rfl, n', rfl⟩; exact ⟨rfl, _, World.drewN_drewN _ _ _⟩))
          go_wp2_with fail
          go_ret
          exact ⟨by rw [tf_no (p := MatEq n n ln lm R R') (fun h => HV.out (h.2 k hlt))]; rfl, HD.more _⟩
      · go_wp2_with fail
        go_ret
        obtain rfl : k = n := by omega
        exact ⟨by rw [tf_yes (p := MatEq _ _ ln lm R R') ⟨rfl, HA.out⟩]; rfl, HD⟩
  · go_enter Tryd.func13, Tryd.ntmps13
    have hq : ((n : Int) != (m : Int)) = true := by rw [bne_iff_ne]; omega
    go_wp2_with fail
    go_ret
    exact ⟨by rw [tf_no (fun h => hnm h.1)]; rfl, 0, rfl⟩
/-- a new slice of rows of bools: the rows lie in blocks from base on, of bools -/
structure OwnMat (w : World) (base : Nat) (A : Option Addr) (n c : Nat) (len : Nat) (R : Nat → Nat → Bool) (RA : Nat → Option Addr) (RC : Nat → Nat) : Prop where
  own : w.ownsRow base 22 1 (.slice A n c) n ((List.range n).map fun i => .slice (RA i) len (RC i))
  rows : ∀ i, i < n → RowT (fun b => base ≤ b) w 4 1 (RA i) len (fun j _ => .bool (R i j))
theorem bits_of_rowT {p : Nat → Prop} {w : World} {A : Option Addr} {n : Nat} {V : Nat → Bool} (h : RowT p w 4 1 A n (fun j _ => .bool (V j))) : Bits w A n V := h.row.one
theorem rowT_of_bits {w : World} {base : Nat} {A : Option Addr} {n c : Nat} {V : Nat → Bool} (h : OwnBits w base A n c V) : RowT (fun b => base ≤ b) w 4 1 A n (fun j _ => .bool (V j)) := fun hn => by
  obtain ⟨b, off, cur, e, hp, hh, hc⟩ := own_rowT h hn
  refine ⟨b, off, cur, e, hp.1, hh, fun k hk j hj => ?_⟩
  rw [hc k hk j hj]
  obtain rfl : j = 0 := by omega
  simp [hk]
theorem OwnMat.mat {w : World} {base : Nat} {A : Option Addr} {n c len : Nat} {R : Nat → Nat → Bool} {RA : Nat → Option Addr} {RC : Nat → Nat} (h : OwnMat w base A n c len R RA RC) : Mat w A n (fun _ => len) R := by
  refine ⟨RA, RC, fun hn => ?_, fun i hi => bits_of_rowT (h.rows i hi)⟩
  obtain ⟨b, off, e, hc⟩ := own_row1 h.own hn
  refine ⟨b, off, e, fun k hk => ?_⟩
  rw [hc k hk]
  simp [hk]
theorem OwnMat.below {w w1 : World} {base : Nat} {A : Option Addr} {n c len : Nat} {R : Nat → Nat → Bool} {RA : Nat → Option Addr} {RC : Nat → Nat} (h : OwnMat w base A n c len R RA RC) (hb : Below w.heap.size w w1) : OwnMat w1 base A n c len R RA RC :=
  ⟨own_below h.own hb, fun i hi => (h.rows i hi).below hb⟩
theorem OwnMat.only {w w1 : World} {base : Nat} {A : Option Addr} {n c len : Nat} {R : Nat → Nat → Bool} {RA : Nat → Option Addr} {RC : Nat → Nat} {S : Nat → Prop} (h : OwnMat w base A n c len R RA RC) (hk : Only S w w1) (hS : ∀ k, base ≤ k → ¬ S k) : OwnMat w1 base A n c len R RA RC :=
  ⟨own_only h.own hk (fun k hb => hS k (own_base h.own k hb)), fun i hi => (h.rows i hi).only hk (fun b _ hb _ => hS b hb)⟩
theorem OwnMat.alloc {w : World} {base : Nat} {A : Option Addr} {n c len : Nat} {R : Nat → Nat → Bool} {RA : Nat → Option Addr} {RC : Nat → Nat} (h : OwnMat w base A n c len R RA RC) (o : Obj) : OwnMat (w.alloc o) base A n c len R RA RC :=
  h.below ((Below.refl _ _).alloc (Nat.le_refl _) o)
/-- the address or capacity of the last one laid on -/
def lastly {α : Type} (n : Nat) (x : α) (f : Nat → α) (i : Nat) : α := if i = n then x else f i
theorem OwnMat.push {w w1 : World} {base : Nat} {A A' B : Option Addr} {n c c' d len : Nat} {R : Nat → Nat → Bool} {RA : Nat → Option Addr} {RC : Nat → Nat} (h : OwnMat w base A n c len R RA RC)
    (ho : w1.ownsRow base 22 1 (.slice A' (n + 1) c') (n + 1) (((List.range n).map fun i => .slice (RA i) len (RC i)) ++ [.slice B len d])) (hk : Only (blockOf A) w w1)
    (hB : RowT (fun b => base ≤ b) w 4 1 B len (fun j _ => .bool (R n j))) : OwnMat w1 base A' (n + 1) c' len R (lastly n B RA) (lastly n d RC) := by
  have hty := own_type (e' := 4) h.own (by decide)
  refine ⟨?_, fun i hi => ?_⟩
  · rw [List.range_succ, List.map_append, List.map_congr_left (g := fun i => .slice (RA i) len (RC i)) (fun i hi => by
      have : i ≠ n := by have := List.mem_range.1 hi; omega
      simp [lastly, this])]
    simpa [lastly] using ho
  · unfold lastly
    by_cases e : i = n
    · rw [if_pos e, e]; exact hB.only hk (fun b cur _ hb => hty b cur hb)
    · rw [if_neg e]; exact (h.rows i (by omega)).only hk (fun b cur _ hb => hty b cur hb)
theorem elBoolRow : Elem Tryd.prog 29 22 1 24 := elem_mk Tryd.underlying29 (z := .slice none 0 0) (by kernel_rfl) rfl (by omega) (by omega)
theorem Tryd.cellsSl31 : Tryd.prog.cellsOf 22 = 1 := by kernel_rfl
theorem Tryd.bytesBool : Tryd.prog.bytesOf 4 = 1 := by kernel_rfl
theorem Tryd.bytesSl31 : Tryd.prog.bytesOf 22 = 24 := by kernel_rfl
theorem open_bits {N : Nat} {H : Type} {enc : TypeId × Value → H} {w : World} {cs : List Value} (h : Good N enc Tryd.prog w 22 cs) :
    ∃ (A : Option Addr) (n c : Nat) (V : Nat → Bool), cs = [.slice A n c] ∧ n ≤ 140737488351232 ∧ Bits w A n V := by
  obtain ⟨A, n, c, f, rfl, hn, hb, _, hr, hg⟩ := good_slice 1 Tryd.cellsBool (by omega) Tryd.underlying22 h
  rw [Tryd.bytesBool] at hb
  unfold reachBytes at hb
  have hx : ∀ k, k < n → ∃ x : Bool, f k 0 = .bool x := fun k hk => by
    obtain ⟨x, e⟩ := good_bool Tryd.underlying4 (hg k hk)
    exact ⟨x, by simpa [List.range_succ] using e⟩
  obtain ⟨X, hX⟩ := choose_lt (α := Bool) hx
  refine ⟨A, n, c, X, rfl, by omega, fun h0 => ?_⟩
  obtain ⟨b, off, e, hc⟩ := hr.one h0
  exact ⟨b, off, e, fun k hk => (hc k hk).trans (congrArg some (hX k hk))⟩
theorem open_mat {N : Nat} {H : Type} {enc : TypeId × Value → H} {w : World} {cs : List Value} (h : Good N enc Tryd.prog w 29 cs) :
    ∃ (A : Option Addr) (n c : Nat) (len : Nat → Nat) (R : Nat → Nat → Bool), cs = [.slice A n c] ∧ n * 24 ≤ 140737488351232 ∧ Mat w A n len R ∧ ∀ i, i < n → len i ≤ 140737488351232 := by
  obtain ⟨A, n, c, f, rfl, hn, hb, _, hr, hg⟩ := good_slice 1 Tryd.cellsSl31 (by omega) Tryd.underlying29 h
  rw [Tryd.bytesSl31] at hb
  unfold reachBytes at hb
  have hx : ∀ k, k < n → ∃ x : Option Addr × Nat × Nat × (Nat → Bool), f k 0 = .slice x.1 x.2.1 x.2.2.1 ∧ x.2.1 ≤ 140737488351232 ∧ Bits w x.1 x.2.1 x.2.2.2 := fun k hk => by
    obtain ⟨A', n', c', V, e, hl, hV⟩ := open_bits (hg k hk)
    exact ⟨(A', n', c', V), by simpa [List.range_succ] using e, hl, hV⟩
  obtain ⟨X, hX⟩ := choose_lt (α := Option Addr × Nat × Nat × (Nat → Bool)) hx
  refine ⟨A, n, c, fun i => (X i).2.1, fun i => (X i).2.2.2, rfl, by omega, ⟨fun i => (X i).1, fun i => (X i).2.2.1, fun h0 => ?_, fun i hi => (hX i hi).2.2⟩, fun i hi => (hX i hi).2.1⟩
  obtain ⟨b, off, e, hc⟩ := hr.one h0
  exact ⟨b, off, e, fun k hk => (hc k hk).trans (congrArg some (hX k hk).1)⟩
end Go.Proofs.YtlmcbhmaccncbaaDoor
