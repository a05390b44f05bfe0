/- word.Run, walked: the outputs, cycle by cycle, as a new slice of new rows of words: the same that the reference's NetRun gives. Conditions: the netlist is valid and lies in memory, so does the trace. -/
import Derived.Test.YtmbcfondglhiiaaNetRun
import Derived.Test.YtmbcfondglhiiaaNode
namespace Go.Proofs.Ytmbcfondglhiiaa
open Go.RowKit

/-- the runner's box -/
def RBox (g : Nl) (p : Pl) (w : World) (b : Nat) (x6 x7 x8 : Value) : Prop := Arr w b 60 9 (fun j => (g.cells p ++ [x6, x7, x8]).getD j undef)
theorem RBox.at_ {g : Nl} {p : Pl} {w : World} {b : Nat} {x6 x7 x8 : Value} (h : RBox g p w b x6 x7 x8) : BoxAt w b (g.cells p ++ [x6, x7, x8]) := fun j v e => by
  have hj : j < 9 := by
    have := (List.getElem?_eq_some_iff.1 e).1
    simpa [Nl.cells] using this
  rw [Arr.cell h hj]
  simp [List.getD_eq_getElem?_getD, e]
theorem RBox.new (g : Nl) (p : Pl) (w : World) (x6 x7 x8 : Value) : RBox g p (w.alloc (.cells #[.slice p.A0 g.n0 p.c0, .slice p.A1 g.nn p.c1, .slice p.A2 g.nr p.c2, .slice p.A3 g.nm p.c3, .slice p.A4 g.nw p.c4, .slice p.A5 g.no p.c5, x6, x7, x8] 60)) w.heap.size x6 x7 x8 :=
  (Arr.new w #[.slice p.A0 g.n0 p.c0, .slice p.A1 g.nn p.c1, .slice p.A2 g.nr p.c2, .slice p.A3 g.nm p.c3, .slice p.A4 g.nw p.c4, .slice p.A5 g.no p.c5, x6, x7, x8] 60).congr (fun j hj => by
    have hj' : j < 9 := hj
    obtain rfl | rfl | rfl | rfl | rfl | rfl | rfl | rfl | rfl : j = 0 ∨ j = 1 ∨ j = 2 ∨ j = 3 ∨ j = 4 ∨ j = 5 ∨ j = 6 ∨ j = 7 ∨ j = 8 := by omega
    all_goals rfl)
section
variable {g : Nl} {p : Pl} {w : World} {b : Nat} {x6 x7 x8 : Value}
theorem RBox.c6 (h : RBox g p w b x6 x7 x8) : w.cell? ⟨b, 6, none⟩ = some x6 := h.at_ 6 _ rfl
theorem RBox.c7 (h : RBox g p w b x6 x7 x8) : w.cell? ⟨b, 7, none⟩ = some x7 := h.at_ 7 _ rfl
theorem RBox.c8 (h : RBox g p w b x6 x7 x8) : w.cell? ⟨b, 8, none⟩ = some x8 := h.at_ 8 _ rfl
theorem RBox.set6 (h : RBox g p w b x6 x7 x8) (y : Value) : RBox g p (w.setCell ⟨b, 6, none⟩ y) b y x7 x8 := Arr.set h (fun j hj hn => by
  obtain rfl | rfl | rfl | rfl | rfl | rfl | rfl | rfl : j = 0 ∨ j = 1 ∨ j = 2 ∨ j = 3 ∨ j = 4 ∨ j = 5 ∨ j = 7 ∨ j = 8 := by omega
  all_goals rfl) rfl
theorem RBox.set7 (h : RBox g p w b x6 x7 x8) (y : Value) : RBox g p (w.setCell ⟨b, 7, none⟩ y) b x6 y x8 := Arr.set h (fun j hj hn => by
  obtain rfl | rfl | rfl | rfl | rfl | rfl | rfl | rfl : j = 0 ∨ j = 1 ∨ j = 2 ∨ j = 3 ∨ j = 4 ∨ j = 5 ∨ j = 6 ∨ j = 8 := by omega
  all_goals rfl) rfl
end

/-- where the registers' loop stands -/
structure PReg (g : Nl) (p : Pl) (w1 w2 wr : World) (rb : Nat) (x8 : Value) (k : Nat) (A : Option Addr) (c : Nat) : Prop where
  box : RBox g p wr rb (.slice A k c) (.slice none 0 0) x8
  own : wr.ownsRow w2.heap.size 33 1 (.slice A k c) k ((List.range k).map fun j => .int .u64 (g.RI j))
  bel : Below w1.heap.size w1 wr
  only : Only (fun b => b = rb) w2 wr
/-- where the memories' loop stands -/
structure PMem (g : Nl) (p : Pl) (w1 w3 wr : World) (rb : Nat) (x6 x8 : Value) (k : Nat) (D : Option Addr) (d : Nat) (MB : Nat → Nat) : Prop where
  box : RBox g p wr rb x6 (.slice D k d) x8
  mems : OwnMems g wr w3.heap.size D k d MB (fun _ _ => 0)
  bel : Below w1.heap.size w1 wr
  only : Only (fun b => b = rb) w3 wr
/-- where word.Run stands at the head of a cycle -/
structure PRun (g : Nl) (p : Pl) (TL : Nat → Nat) (T : Nat → Nat → Int) (w1 wr : World) (b2 b3 b4 : Nat) (As : Option Addr) (c : Nat) (Am : Option Addr) (d : Nat) (MB : Nat → Nat) (k : Nat) (C : Option Addr) (c' : Nat) (RA : Nat → Option Addr) (RC : Nat → Nat) : Prop where
  bel : Below w1.heap.size w1 wr
  size : b4 ≤ wr.heap.size
  box : RBox g p wr (w1.heap.size + 1) (.slice As g.nr c) (.slice Am g.nm d) (.slice (some ⟨w1.heap.size, 0, none⟩) g.nn g.nn)
  v : ∃ F : Nat → Int, Arr wr w1.heap.size 33 g.nn (fun j => .int .u64 (F j))
  regs : OwnW wr b2 As g.nr (g.st TL T k).1
  mems : OwnMems g wr b3 Am g.nm d MB (g.st TL T k).2
  mat : OwnMatW wr b4 C k c' g.no (g.shown TL T) RA RC
theorem own_set {w : World} {base b j : Nat} {e : TypeId} {s n c : Nat} {A : Option Addr} {xs : List Value} (h : w.ownsRow base e s (.slice A n c) n xs) (hb : b < base) (v : Value) : (w.setCell ⟨b, j, none⟩ v).ownsRow base e s (.slice A n c) n xs :=
  own_only h ((Only.refl (fun x => x = b) w).setCell (p := ⟨b, j, none⟩) (fun _ => rfl) v) (fun k hk e => by have := own_base h k hk; omega)

set_option maxHeartbeats 20000000 in
set_option maxRecDepth 100000 in
theorem wordRun_any (g : Nl) (p : Pl) (At : Option Addr) (nt ct : Nat) (TL : Nat → Nat) (T : Nat → Nat → Int) (w : World) (hg : g.At w p) (hfit : g.Fits) (hok : g.Ok)
    (ht : MatW w At nt TL T) (hnt : nt * 24 ≤ 140737488351232) (htl : ∀ i, i < nt → TL i ≤ 1000000000000000) (hTb : ∀ i, i < nt → ∀ j, j < TL i → 0 ≤ T i j ∧ T i j ≤ 18446744073709551615) :
    Calls Try.prog 16 #[.agg #[.slice p.A0 g.n0 p.c0, .slice p.A1 g.nn p.c1, .slice p.A2 g.nr p.c2, .slice p.A3 g.nm p.c3, .slice p.A4 g.nw p.c4, .slice p.A5 g.no p.c5], .slice At nt ct] w (RetMatW w nt g.no (g.shown TL T)) := by
  have hb1 := hfit.b1; have hb2 := hfit.b2; have hb3 := hfit.b3; have hb4 := hfit.b4; have hb5 := hfit.b5
  have HTL := Lib.hid htl; clear htl
  have HTB := Lib.hid hTb; clear hTb
  go_enter Try.func16, Try.ntmps16
  go_upto_region 1 with (fail)
  have hbel : Below w.heap.size w (w.alloc (.cells #[.slice p.A0 g.n0 p.c0, .slice p.A1 g.nn p.c1, .slice p.A2 g.nr p.c2, .slice p.A3 g.nm p.c3, .slice p.A4 g.nw p.c4, .slice p.A5 g.no p.c5] 28)) := (Below.refl _ _).alloc (Nat.le_refl _) _
  have hbx := BoxAt.new w [.slice p.A0 g.n0 p.c0, .slice p.A1 g.nn p.c1, .slice p.A2 g.nr p.c2, .slice p.A3 g.nm p.c3, .slice p.A4 g.nw p.c4, .slice p.A5 g.no p.c5] 28
  have hs1 : (w.alloc (.cells #[.slice p.A0 g.n0 p.c0, .slice p.A1 g.nn p.c1, .slice p.A2 g.nr p.c2, .slice p.A3 g.nm p.c3, .slice p.A4 g.nw p.c4, .slice p.A5 g.no p.c5] 28)).heap.size = w.heap.size + 1 := by simp
  generalize w.alloc (.cells #[.slice p.A0 g.n0 p.c0, .slice p.A1 g.nn p.c1, .slice p.A2 g.nr p.c2, .slice p.A3 g.nm p.c3, .slice p.A4 g.nw p.c4, .slice p.A5 g.no p.c5] 28) = w1 at *
  have HB1 := Lib.hid hbel
  have hg1 := hg.keeps (Keeps.of_below hbel)
  have ht1 := ht.keeps (Keeps.of_below hbel)
  have hle1 : w.heap.size ≤ w1.heap.size := by omega
  clear hbel hs1
  have hmk := fun W => run_mk Try.underlying34 zeroU .i64 .i64 (g.nn : Int) g.nn (by omega) (by omega) (by omega) (by omega) W
  simp only [Int.toNat_natCast, Value.cells, Nat.mul_one] at hmk
  obtain ⟨g0, g1, g2, g3, g4, g5⟩ := hbx.six
  refine wp_region_z (fun w' => w'.cell? ⟨w.heap.size, 0, none⟩ = some (.slice p.A0 g.n0 p.c0) ∧ w'.cell? ⟨w.heap.size, 1, none⟩ = some (.slice p.A1 g.nn p.c1) ∧ w'.cell? ⟨w.heap.size, 2, none⟩ = some (.slice p.A2 g.nr p.c2) ∧ w'.cell? ⟨w.heap.size, 3, none⟩ = some (.slice p.A3 g.nm p.c3) ∧ w'.cell? ⟨w.heap.size, 4, none⟩ = some (.slice p.A4 g.nw p.c4) ∧ w'.cell? ⟨w.heap.size, 5, none⟩ = some (.slice p.A5 g.no p.c5)) [0, 1, 2, 3] [5, 6, 7] (by kernel_rfl) (by kernel_rfl) (by kernel_rfl) (by rfl) (fun _ _ _ _ e h => ⟨e.symm.trans h.1, h.2⟩) ⟨g0, g1, g2, g3, g4, g5⟩ ?_
  iterate 4
    refine Heads.step (v := ?_) rfl (by rfl) (fun W hW => ?_) ?_
    rotate_left
    · (obtain ⟨s0, s1, s2, s3, s4, s5⟩ := hW; go_simp; try with_reducible rfl)
  refine AnyZ.one (i := 4) (by kernel_rfl) rfl (fun K hK => ?_)
  go_simp
  refine hK _ _ (fun _ => ⟨Keeps.alloc _ _ _ _ g0, Keeps.alloc _ _ _ _ g1, Keeps.alloc _ _ _ _ g2, Keeps.alloc _ _ _ _ g3, Keeps.alloc _ _ _ _ g4, Keeps.alloc _ _ _ _ g5⟩) ?_
  clear hK
  refine AnyZ.one (i := 5) (by kernel_rfl) rfl (fun K hK => ?_)
  go_simp
  refine hK _ _ (fun h => by cases h) ?_
  clear hK
  refine AnyZ.one (i := 6) (by kernel_rfl) rfl (fun K hK => ?_)
  go_simp
  refine hK _ _ (fun h => by cases h) ?_
  clear hK
  refine AnyZ.one (i := 7) (by kernel_rfl) rfl (fun K hK => ?_)
  go_simp
  refine hK _ _ (fun h => by cases h) (AnyZ.done (by kernel_rfl) ?_)
  clear hK hmk g0 g1 g2 g3 g4 g5
  have hbW : Below w1.heap.size w1 (((w1.alloc (.cells (madeCells #[.int .u64 0] g.nn) 33)).alloc (.cells #[.slice p.A0 g.n0 p.c0, .slice p.A1 g.nn p.c1, .slice p.A2 g.nr p.c2, .slice p.A3 g.nm p.c3, .slice p.A4 g.nw p.c4, .slice p.A5 g.no p.c5, .slice none 0 0, .slice none 0 0, .slice (some ⟨w1.heap.size, 0, none⟩) g.nn g.nn] 60)).drew) := (((Below.refl _ _).alloc (Nat.le_refl _) _).alloc (by simp) _).drew
  have hVA : Arr (((w1.alloc (.cells (madeCells #[.int .u64 0] g.nn) 33)).alloc (.cells #[.slice p.A0 g.n0 p.c0, .slice p.A1 g.nn p.c1, .slice p.A2 g.nr p.c2, .slice p.A3 g.nm p.c3, .slice p.A4 g.nw p.c4, .slice p.A5 g.no p.c5, .slice none 0 0, .slice none 0 0, .slice (some ⟨w1.heap.size, 0, none⟩) g.nn g.nn] 60)).drew) w1.heap.size 33 g.nn (fun j => .int .u64 ((fun _ => (0 : Int)) j)) := ((Arr.made w1 (.int .u64 0) g.nn 33).alloc _).heap rfl
  have hRB : RBox g p (((w1.alloc (.cells (madeCells #[.int .u64 0] g.nn) 33)).alloc (.cells #[.slice p.A0 g.n0 p.c0, .slice p.A1 g.nn p.c1, .slice p.A2 g.nr p.c2, .slice p.A3 g.nm p.c3, .slice p.A4 g.nw p.c4, .slice p.A5 g.no p.c5, .slice none 0 0, .slice none 0 0, .slice (some ⟨w1.heap.size, 0, none⟩) g.nn g.nn] 60)).drew) (w1.heap.size + 1) (.slice none 0 0) (.slice none 0 0) (.slice (some ⟨w1.heap.size, 0, none⟩) g.nn g.nn) := by
    have h := RBox.new g p (w1.alloc (.cells (madeCells #[.int .u64 0] g.nn) 33)) (.slice none 0 0) (.slice none 0 0) (.slice (some ⟨w1.heap.size, 0, none⟩) g.nn g.nn)
    rw [show (w1.alloc (.cells (madeCells #[.int .u64 0] g.nn) 33)).heap.size = w1.heap.size + 1 from (by simp)] at h
    exact Arr.heap h rfl
  have hsz2 : (((w1.alloc (.cells (madeCells #[.int .u64 0] g.nn) 33)).alloc (.cells #[.slice p.A0 g.n0 p.c0, .slice p.A1 g.nn p.c1, .slice p.A2 g.nr p.c2, .slice p.A3 g.nm p.c3, .slice p.A4 g.nw p.c4, .slice p.A5 g.no p.c5, .slice none 0 0, .slice none 0 0, .slice (some ⟨w1.heap.size, 0, none⟩) g.nn g.nn] 60)).drew).heap.size = w1.heap.size + 2 := by simp [World.drew]
  generalize ((w1.alloc (.cells (madeCells #[.int .u64 0] g.nn) 33)).alloc (.cells #[.slice p.A0 g.n0 p.c0, .slice p.A1 g.nn p.c1, .slice p.A2 g.nr p.c2, .slice p.A3 g.nm p.c3, .slice p.A4 g.nw p.c4, .slice p.A5 g.no p.c5, .slice none 0 0, .slice none 0 0, .slice (some ⟨w1.heap.size, 0, none⟩) g.nn g.nn] 60)).drew = w2 at *
  have hlt2 : w1.heap.size + 2 ≤ w2.heap.size := by omega
  clear hsz2
  have hk2 := Keeps.of_below hbW
  obtain ⟨g0, g1, g2, g3, g4, g5⟩ := (hbx.keeps hk2).six
  go_step
  go_wp2_with fail
  clear g0 g1 g2 g3 g4 g5 hk2
  generalize hA2 : p.A2 = A2
  have HA2 := Lib.hid hA2; clear hA2
  go_loopw [33] (fun ix wr => ∃ (k : Nat) (A : Option Addr) (c : Nat), k ≤ g.nr ∧ ix = .int .i64 k ∧ PReg g p w1 w2 wr (w1.heap.size + 1) (.slice (some ⟨w1.heap.size, 0, none⟩) g.nn g.nn) k A c) (fun ix _ => g.nr - (intOf ix).toNat)
  case atStart => exact ⟨0, none, 0, by omega, rfl, ⟨hRB, World.ownsRow_nil _ _ _ _, hbW, Only.refl _ _⟩⟩
  case round =>
    obtain ⟨k, A, c, hk, rfl, H⟩ := hrel
    clear hRB
    have hkp := Lib.hid (Keeps.of_below H.bel)
    have hsz := H.only.size
    by_cases hlt : k < g.nr
    · have hki : (k : Int) < g.nr := by omega
      obtain ⟨b, o, hA, y0, y1, y2⟩ := (hg1.keeps hkp.out).regs.at3 hlt
      simp only [qu] at y0 y1 y2
      rw [HA2.out] at hA
      subst hA
      go_upto_region 5 with (fail)
      have qbox := BoxAt.new wr [.int .i64 (g.RW k), .int .u64 (g.RI k), .int .i64 (g.RN k)] 37
      have hbA : Below wr.heap.size wr (wr.alloc (.cells #[.int .i64 (g.RW k), .int .u64 (g.RI k), .int .i64 (g.RN k)] 37)) := (Below.refl _ _).alloc (Nat.le_refl _) _
      have hOq := H.only.alloc (.cells #[.int .i64 (g.RW k), .int .u64 (g.RI k), .int .i64 (g.RN k)] 37)
      generalize wr.alloc (.cells #[.int .i64 (g.RW k), .int .u64 (g.RI k), .int .i64 (g.RN k)] 37) = wq at *
      have hbq : RBox g p wq _ _ _ _ := Arr.below H.box hbA
      have hoq := own_below H.own hbA
      have hblq := H.bel.trans (hbA.mono (by omega))
      have c6 := hbq.c6
      have v1 : wq.cell? ⟨wr.heap.size, 1, none⟩ = some (.int .u64 (g.RI k)) := qbox 1 _ rfl
      have hszq := hOq.size
      refine wp_region_z (fun w' => w'.cell? ⟨w1.heap.size + 1, 6, none⟩ = some (.slice A k c) ∧ w'.cell? ⟨wr.heap.size, 1, none⟩ = some (.int .u64 (g.RI k))) [0, 1, 2, 3, 4, 5, 6] [9, 10, 11] (by kernel_rfl) (by kernel_rfl) (by kernel_rfl) (by rfl) (fun _ _ _ _ e h => ⟨e.symm.trans h.1, h.2⟩) ⟨c6, v1⟩ ?_
      iterate 7
        refine Heads.step (v := ?_) rfl (by rfl) (fun W hW => ?_) ?_
        rotate_left
        · (obtain ⟨s0, s1⟩ := hW; go_simp; try with_reducible rfl)
      refine AnyZ.one (i := 7) (by kernel_rfl) rfl (fun K hK => ?_)
      go_simp
      refine hK _ _ (fun _ => ⟨Keeps.alloc _ _ _ _ c6, Keeps.alloc _ _ _ _ v1⟩) ?_
      clear hK
      refine AnyZ.one (i := 8) (by kernel_rfl) rfl (fun K hK => ?_)
      refine step_append (by rfl) (.tmp 41) (.tmp 44) _ (by rfl) elU64 w2.heap.size A k c _ (by rfl) ((World.ownsRow.alloc hoq _).drew) _ 1 1 [.int .u64 (g.RI k)] (by rfl) (Src.drew (src_new wq _ _ rfl)) (by omega) (by simp; omega) ?_
      intro A' c' w8 ho hk' hb'
      have hal : Below wq.heap.size wq (wq.alloc (.cells #[.int .u64 (g.RI k)] 33)) := (Below.refl _ _).alloc (Nat.le_refl _) _
      have hOx : Only (blockOf A) (wq.alloc (.cells #[.int .u64 (g.RI k)] 33)) w8 := ⟨hk'.os, hk'.tape, hk'.output, hk'.size, hk'.block⟩
      have hbA8 := own_base hoq
      have hb8 : RBox g p w8 _ _ _ _ := Arr.only (Arr.below hbq hal) hOx (fun c => by have := hbA8 _ c; omega)
      have c68 := hb8.c6
      have hf8 : w8.frozen? ⟨w1.heap.size + 1, 6, none⟩ = false := Arr.thaw hb8 6
      have v18 : w8.cell? ⟨wr.heap.size, 1, none⟩ = some (.int .u64 (g.RI k)) := hOx.cell (hal.cell (p := ⟨wr.heap.size, 1, none⟩) (by have := World.block_lt_of_cell? _ _ v1; exact this) |>.trans v1) (fun c => by have := own_lt H.own _ c; simp at this)
      have ho8 : w8.ownsRow w2.heap.size 33 1 (.slice A' (k + 1) c') (k + 1) ((List.range (k + 1)).map fun j => .int .u64 (g.RI j)) := by
        rw [List.range_succ, List.map_append]
        simpa using ho
      have hO8 := (hOq.alloc (.cells #[.int .u64 (g.RI k)] 33)).then_ (S := fun b => b = w1.heap.size + 1) hOx (fun i hi c => absurd (hbA8 _ c) (by omega))
      have hbl8 := (hblq.trans (hal.mono (by omega))).trans (hOx.below (B := w1.heap.size) (fun j _ c => by have := hbA8 _ c; omega) (by simp; omega))
      refine hK _ _ (fun _ => ⟨c68, v18⟩) ?_
      clear hK ho hk' hb' hOx hal hbA8
      refine AnyZ.one (i := 9) (by kernel_rfl) rfl (fun K hK => ?_)
      go_simp
      refine hK _ _ (fun h => by cases h) ?_
      clear hK
      refine AnyZ.one (i := 10) (by kernel_rfl) rfl (fun K hK => ?_)
      go_simp
      refine hK _ _ (fun h => by cases h) ?_
      clear hK
      refine AnyZ.one (i := 11) (by kernel_rfl) rfl (fun K hK => ?_)
      go_simp
      refine hK _ _ (fun h => by cases h) (AnyZ.done (by kernel_rfl) ?_)
      clear hK
      have hle8 : w1.heap.size ≤ w8.heap.size := by have := hO8.size; omega
      have hP : PReg g p w1 w2 (w8.setCell ⟨w1.heap.size + 1, 6, none⟩ (.slice A' (k + 1) c')) (w1.heap.size + 1) (.slice (some ⟨w1.heap.size, 0, none⟩) g.nn g.nn) (k + 1) A' c' :=
        ⟨hb8.set6 _, own_set ho8 (by omega) _, hbl8.setCell (p := ⟨w1.heap.size + 1, 6, none⟩) (by simp) _, hO8.setCell (p := ⟨w1.heap.size + 1, 6, none⟩) (fun _ => rfl) _⟩
      go_step
      go_wp2_with fail
      go_roundw
      case rel => exact ⟨k + 1, A', c', by omega, by go_num, hP⟩
      case measure => simp [intOf]; omega
    · obtain rfl : k = g.nr := by omega
      have hrg : OwnW wr w2.heap.size A g.nr g.RI := OwnW.of_own H.own
      have hrlt := Lib.hid (own_lt H.own)
      have hrge := Lib.hid (own_base H.own)
      have hRB := H.box
      have hVA3 := hVA.only H.only (by omega)
      have HB3 := Lib.hid H.bel
      obtain ⟨g0, g1, g2, g3, g4, g5⟩ := (hbx.keeps hkp.out).six
      go_wp2_with fail
      obtain ⟨w3, rfl⟩ : ∃ w3 : World, w3 = wr := ⟨_, rfl⟩
      clear g0 g1 g2 g3 g4 g5 hkp H hVA
      generalize hA3 : p.A3 = A3
      have HA3 := Lib.hid hA3; clear hA3
      go_loopw [52] (fun ix wr => ∃ (q : Nat) (D : Option Addr) (d : Nat) (MB : Nat → Nat), q ≤ g.nm ∧ ix = .int .i64 q ∧ PMem g p w1 w3 wr (w1.heap.size + 1) (.slice A g.nr c) (.slice (some ⟨w1.heap.size, 0, none⟩) g.nn g.nn) q D d MB) (fun ix _ => g.nm - (intOf ix).toNat)
      case atStart => exact ⟨0, none, 0, fun _ => 0, by omega, rfl, ⟨hRB, ⟨World.ownsRow_nil _ _ _ _, fun i hi => by omega, fun i hi => by omega, fun i j _ hj => by omega⟩, HB3.out, Only.refl _ _⟩⟩
      case round =>
        obtain ⟨q, D, d, MB, hq, rfl, H⟩ := hrel
        clear hRB
        have hkp := Lib.hid (Keeps.of_below H.bel)
        have hsm := H.only.size
        by_cases hlq : q < g.nm
        · have hqi : (q : Int) < g.nm := by omega
          obtain ⟨b, o, hA, y0, y1⟩ := (hg1.keeps hkp.out).mems.at2 hlq
          simp only [two] at y0 y1
          rw [HA3.out] at hA
          subst hA
          have hms := (hok.mems q hlq).2
          obtain ⟨S, hS⟩ : ∃ S : Nat, g.MS q = S := ⟨(g.MS q).toNat, by omega⟩
          rw [hS] at hms y1
          have HSS : Hid ((g.MS q).toNat = S) := Lib.hid (by omega)
          clear hS
          have hmk := fun W => run_mk Try.underlying34 zeroU .i64 .i64 (S : Int) S (by omega) (by omega) (by omega) (by omega) W
          simp only [Int.toNat_natCast, Value.cells, Nat.mul_one] at hmk
          have HMK := Lib.hid hmk; clear hmk
          go_upto_region 10 with (fail)
          have qbox := BoxAt.new wr [.int .i64 (g.MW q), .int .i64 (S : Int)] 39
          have hbA : Below wr.heap.size wr (wr.alloc (.cells #[.int .i64 (g.MW q), .int .i64 (S : Int)] 39)) := (Below.refl _ _).alloc (Nat.le_refl _) _
          have hOq := H.only.alloc (.cells #[.int .i64 (g.MW q), .int .i64 (S : Int)] 39)
          generalize wr.alloc (.cells #[.int .i64 (g.MW q), .int .i64 (S : Int)] 39) = wq at *
          have hbq : RBox g p wq _ _ _ _ := Arr.below H.box hbA
          have HMq := H.mems.below hbA
          have hblq := H.bel.trans (hbA.mono (by omega))
          have c7 := hbq.c7
          have v1 : wq.cell? ⟨wr.heap.size, 1, none⟩ = some (.int .i64 (S : Int)) := qbox 1 _ rfl
          have hszq := hOq.size
          refine wp_region_z (fun w' => w'.cell? ⟨w1.heap.size + 1, 7, none⟩ = some (.slice D q d) ∧ w'.cell? ⟨wr.heap.size, 1, none⟩ = some (.int .i64 (S : Int))) [0, 1, 2, 3, 4, 5, 6] [10, 11, 12] (by kernel_rfl) (by kernel_rfl) (by kernel_rfl) (by rfl) (fun _ _ _ _ e h => ⟨e.symm.trans h.1, h.2⟩) ⟨c7, v1⟩ ?_
          iterate 7
            refine Heads.step (v := ?_) rfl (by rfl) (fun W hW => ?_) ?_
            rotate_left
            · (obtain ⟨s0, s1⟩ := hW; go_simp; try with_reducible rfl)
          have hmk := HMK.out
          refine AnyZ.one (i := 7) (by kernel_rfl) rfl (fun K hK => ?_)
          go_simp
          refine hK _ _ (fun _ => ⟨Keeps.alloc _ _ _ _ c7, Keeps.alloc _ _ _ _ v1⟩) ?_
          clear hK hmk
          have hal1 : Below wq.heap.size wq (wq.alloc (.cells (madeCells #[.int .u64 0] S) 33)) := (Below.refl _ _).alloc (Nat.le_refl _) _
          have harr := Arr.made wq (.int .u64 0) S 33
          have c71 : (wq.alloc (.cells (madeCells #[.int .u64 0] S) 33)).cell? ⟨w1.heap.size + 1, 7, none⟩ = some (.slice D q d) := Keeps.alloc _ _ _ _ c7
          have v11 : (wq.alloc (.cells (madeCells #[.int .u64 0] S) 33)).cell? ⟨wr.heap.size, 1, none⟩ = some (.int .i64 (S : Int)) := Keeps.alloc _ _ _ _ v1
          have HMx := HMq.below hal1
          have hszx := hal1.size
          have hbx1 : RBox g p _ _ _ _ _ := Arr.below hbq hal1
          have hOx1 := hOq.alloc (.cells (madeCells #[.int .u64 0] S) 33)
          have hblx := hblq.trans (hal1.mono (by omega))
          generalize wq.alloc (.cells (madeCells #[.int .u64 0] S) 33) = wx at *
          refine AnyZ.one (i := 8) (by kernel_rfl) rfl (fun K hK => ?_)
          go_simp
          refine hK _ _ (fun _ => ⟨Keeps.alloc _ _ _ _ c71, Keeps.alloc _ _ _ _ v11⟩) ?_
          clear hK
          refine AnyZ.one (i := 9) (by kernel_rfl) rfl (fun K hK => ?_)
          refine step_append_wide (by rfl) (.tmp 60) (.tmp 64) _ (by rfl) elU64Row w3.heap.size D q d _ (by rfl) ((World.ownsRow.alloc HMx.own _).drew) _ 1 1 [.slice (some ⟨wq.heap.size, 0, none⟩) S S] (by rfl) (Src.drew (src_new wx _ _ rfl)) (by omega) (by simp only [maxLen]; omega) (by omega) (by simp; omega) ?_
          intro D' d' w8 ho hk'
          have hal : Below wx.heap.size wx (wx.alloc (.cells #[.slice (some ⟨wq.heap.size, 0, none⟩) S S] 34)) := (Below.refl _ _).alloc (Nat.le_refl _) _
          have hOx : Only (blockOf D) (wx.alloc (.cells #[.slice (some ⟨wq.heap.size, 0, none⟩) S S] 34)) w8 := ⟨hk'.os, hk'.tape, hk'.output, hk'.size, hk'.block⟩
          have hbA8 := own_base HMx.own
          have HM8 : OwnMems g w8 w3.heap.size D' (q + 1) d' (lastlyW q wq.heap.size MB) (fun _ _ => 0) := (HMx.below hal).push (by rw [HSS.out]; exact ho) hOx (by rw [HSS.out]; exact harr.below hal) (by omega) (fun i hi => by have := HMq.lt hi; omega)
          have hb8 : RBox g p w8 _ _ _ _ := Arr.only (Arr.below hbx1 hal) hOx (fun c => by have := hbA8 _ c; omega)
          have c78 := hb8.c7
          have hf8 : w8.frozen? ⟨w1.heap.size + 1, 7, none⟩ = false := Arr.thaw hb8 7
          have v18 : w8.cell? ⟨wr.heap.size, 1, none⟩ = some (.int .i64 (S : Int)) := hOx.cell ((hal.cell (p := ⟨wr.heap.size, 1, none⟩) (by have := World.block_lt_of_cell? _ _ v11; exact this)).trans v11) (fun c => by have := own_lt H.mems.own _ c; simp at this)
          have hO8 := (hOx1.alloc (.cells #[.slice (some ⟨wq.heap.size, 0, none⟩) S S] 34)).then_ (S := fun b => b = w1.heap.size + 1) hOx (fun i hi c => absurd (hbA8 _ c) (by omega))
          have hbl8 := (hblx.trans (hal.mono (by omega))).trans (hOx.below (B := w1.heap.size) (fun j _ c => by have := hbA8 _ c; omega) (by simp; omega))
          refine hK _ _ (fun _ => ⟨c78, v18⟩) ?_
          clear hK ho hk' hOx hal hbA8
          refine AnyZ.one (i := 10) (by kernel_rfl) rfl (fun K hK => ?_)
          go_simp
          refine hK _ _ (fun h => by cases h) ?_
          clear hK
          refine AnyZ.one (i := 11) (by kernel_rfl) rfl (fun K hK => ?_)
          go_simp
          refine hK _ _ (fun h => by cases h) ?_
          clear hK
          refine AnyZ.one (i := 12) (by kernel_rfl) rfl (fun K hK => ?_)
          go_simp
          refine hK _ _ (fun h => by cases h) (AnyZ.done (by kernel_rfl) ?_)
          clear hK
          have hle8 : w3.heap.size ≤ w8.heap.size := hO8.size
          have hOs : Only (fun b => b = w1.heap.size + 1) w8 (w8.setCell ⟨w1.heap.size + 1, 7, none⟩ (.slice D' (q + 1) d')) := (Only.refl (fun b => b = w1.heap.size + 1) w8).setCell (p := ⟨w1.heap.size + 1, 7, none⟩) (fun _ => rfl) _
          have hP : PMem g p w1 w3 (w8.setCell ⟨w1.heap.size + 1, 7, none⟩ (.slice D' (q + 1) d')) (w1.heap.size + 1) (.slice A g.nr c) (.slice (some ⟨w1.heap.size, 0, none⟩) g.nn g.nn) (q + 1) D' d' (lastlyW q wq.heap.size MB) :=
            ⟨hb8.set7 _, HM8.only hOs (fun b hb e => by have := own_base HM8.own b hb; omega) (fun i hi e => by have := HM8.low i hi; omega), hbl8.setCell (p := ⟨w1.heap.size + 1, 7, none⟩) (by simp) _, hO8.setCell (p := ⟨w1.heap.size + 1, 7, none⟩) (fun _ => rfl) _⟩
          go_step
          go_wp2_with fail
          go_roundw
          case rel => exact ⟨q + 1, D', d', _, by omega, by go_num, hP⟩
          case measure => simp [intOf]; omega
        · obtain rfl : q = g.nm := by omega
          have hrg3 := hrg.only H.only (fun b _ hb c => by have := hrge.out b hb; omega)
          have HMO := Lib.hid (own_lt H.mems.own)
          have HMG := Lib.hid (own_base H.mems.own)
          have HML := Lib.hid (fun i (hi : i < g.nm) => H.mems.lt hi)
          have HMW := Lib.hid H.mems.low
          have hRB4 := H.box
          have hmm4 := H.mems
          have hVA4 := hVA3.only H.only (by omega)
          have HB4 := Lib.hid H.bel
          obtain ⟨g0, g1, g2, g3, g4, g5⟩ := (hbx.keeps hkp.out).six
          go_wp2_with fail
          obtain ⟨w4, rfl⟩ : ∃ w4 : World, w4 = wr := ⟨_, rfl⟩
          clear g0 g1 g2 g3 g4 g5 hkp H hVA3 hrg
          go_loopw [10, 71] (fun out ix wr => ∃ (k : Nat) (C : Option Addr) (c' : Nat) (RA : Nat → Option Addr) (RC : Nat → Nat), k ≤ nt ∧ ix = .int .i64 k ∧ out = .slice C k c' ∧ PRun g p TL T w1 wr w2.heap.size w3.heap.size w4.heap.size A c D d MB k C c' RA RC) (fun _ ix _ => nt - (intOf ix).toNat)
          case atStart => exact ⟨0, none, 0, fun _ => none, fun _ => 0, by omega, rfl, rfl, ⟨HB4.out, Nat.le_refl _, hRB4, ⟨_, hVA4⟩, hrg3, hmm4, ⟨World.ownsRow_nil _ _ _ _, fun i hi => by omega⟩⟩⟩
          case round =>
            clear hRB4 hVA4 hrg3 hmm4
            obtain ⟨k, C, c', RA, RC, hk, rfl, rfl, H⟩ := hrel
            have hkp := Lib.hid (Keeps.of_below H.bel)
            have hsw := H.size
            obtain ⟨g0, g1, g2, g3, g4, g5⟩ := (hbx.keeps hkp.out).six
            by_cases hlt : k < nt
            · have hki : (k : Int) < nt := by omega
              obtain ⟨TA, TC, t1, t2⟩ := ht1
              have HTI := Lib.hid (t2 k hlt); clear t2
              obtain ⟨bt, ot, hTe, x0⟩ := (t1.keeps hkp.out).at_ hlt
              subst hTe
              generalize hTA : TA k = TAk at *
              clear hTA
              go_wp2_with fail
              obtain ⟨w5, rfl⟩ : ∃ w5 : World, w5 = wr := ⟨_, rfl⟩
              clear g0 g1 g2 g3 g4 g5 x0 hkp t1
              generalize hA1 : p.A1 = A1
              have HA1 := Lib.hid hA1; clear hA1
              have HCS : Hid (∀ q, q < g.nn → g.cyc TL T k q = g.node (g.st TL T k).1 (g.st TL T k).2 (TL k) (T k) q (g.cyc TL T k)) := Lib.hid (fun q hq => Nl.vals_fix hok _ _ _ _ hq)
              have HCF := Lib.hid (g.cyc_fits hok hfit TL T k)
              have HSH : Hid (∀ m, g.shown TL T k m = g.cyc TL T k (g.O m).toNat) := Lib.hid (fun _ => rfl)
              have HR1 : Hid (∀ i, (g.st TL T (k + 1)).1 i = g.cyc TL T k (g.RN i).toNat) := Lib.hid (fun _ => rfl)
              have HM1 : Hid ((g.st TL T (k + 1)).2 = g.writes (g.cyc TL T k) (g.st TL T k).2 g.nw) := Lib.hid rfl
              generalize g.cyc TL T k = Cv at *
              go_loopw [78] (fun ix wi => ∃ q : Nat, q ≤ g.nn ∧ ix = .int .i64 q ∧ Only (fun b => b = w1.heap.size) w5 wi ∧ Hid (∃ F : Nat → Int, Arr wi w1.heap.size 33 g.nn (fun j => .int .u64 (F j)) ∧ ∀ j, j < q → F j = Cv j)) (fun ix _ => g.nn - (intOf ix).toNat)
              case atStart =>
                obtain ⟨F, hF⟩ := H.v
                exact ⟨0, by omega, rfl, Only.refl _ _, F, hF, fun j hj => by omega⟩
              case round =>
                obtain ⟨q, hq, rfl, HOl, HSl⟩ := hrel
                obtain ⟨F, hAF, hF⟩ := HSl.out
                have HFF := Lib.hid hF; clear hF HSl
                have hbl := HOl.below (B := w1.heap.size) (fun j _ c => by omega) (by omega)
                have hbw := H.bel.trans hbl
                have hkl := Lib.hid (Keeps.of_below hbw)
                have hszl := HOl.size
                by_cases hlq : q < g.nn
                · have hqi : (q : Int) < g.nn := by omega
                  obtain ⟨b, o, hA, y0, y1, y2, y3⟩ := (hg1.keeps hkl.out).nodes.1.at4 hlq
                  simp only [qu] at y0 y1 y2 y3
                  rw [HA1.out] at hA
                  subst hA
                  go_upto_region 19 with (fail)
                  have qbox := BoxAt.new wr [.int .i64 (g.K q), .int .i64 (g.W q), .int .u64 (g.U q), .slice (p.TA q) (g.al q) (p.TC q)] 42
                  have hbA : Below wr.heap.size wr (wr.alloc (.cells #[.int .i64 (g.K q), .int .i64 (g.W q), .int .u64 (g.U q), .slice (p.TA q) (g.al q) (p.TC q)] 42)) := (Below.refl _ _).alloc (Nat.le_refl _) _
                  have hOq := HOl.alloc (.cells #[.int .i64 (g.K q), .int .i64 (g.W q), .int .u64 (g.U q), .slice (p.TA q) (g.al q) (p.TC q)] 42)
                  generalize wr.alloc (.cells #[.int .i64 (g.K q), .int .i64 (g.W q), .int .u64 (g.U q), .slice (p.TA q) (g.al q) (p.TC q)] 42) = wq at *
                  have hAq := hAF.below hbA
                  have hblq := hbw.trans (hbA.mono (by omega))
                  clear y0 y1 y2 y3 hkl hbl hbw HOl hAF hbA
                  generalize wr.heap.size = bq at *
                  have hkq := Lib.hid (Keeps.of_below hblq)
                  have hbxq : RBox g p wq _ _ _ _ := Arr.only H.box hOq (by omega)
                  have hrq := H.regs.off hOq (fun b hb c => by omega)
                  have hmq := H.mems.only hOq (fun b hb c => by have := HMG.out b hb; omega) (fun i hi c => by have := HMW.out i hi; omega)
                  obtain ⟨L, hL⟩ : ∃ L : Rn, L = ⟨w1.heap.size + 1, A, c, D, d, MB, some ⟨w1.heap.size, 0, none⟩, g.nn⟩ := ⟨_, rfl⟩
                  have hLat : L.At g p wq (g.st TL T k).1 (g.st TL T k).2 F := by
                    subst hL
                    exact ⟨hbxq.at_, hg1.keeps hkq.out, hrq.words, hmq.at_, hAq.row⟩
                  have HNX := Lib.hid (fun (W : World) (hW : Keeps wq W) => node_any g p L (g.st TL T k).1 (g.st TL T k).2 F TAk (TL k) (TC k) (T k) q W (hLat.keeps hW) (Row1.keeps (Row1.keeps HTI.out hkq.out) hW) hfit hok hlq (fun j hj => by rw [HFF.out j hj]; exact HCF.out j (by omega)) (HTL.out k hlt) (HTB.out k hlt))
                  rw [show L.b = w1.heap.size + 1 by rw [hL]] at HNX
                  have HVq : Hid (g.node (g.st TL T k).1 (g.st TL T k).2 (TL k) (T k) q F = Cv q) := Lib.hid (by
                    rw [HCS.out q hlq]
                    refine g.node_congr _ _ _ _ _ (fun j hj => ?_)
                    obtain ⟨h0, h1⟩ := (hok.nodes q hlq).args j hj
                    exact HFF.out _ (by omega))
                  clear hL hLat hrq hmq
                  rw [HVq.out] at HNX
                  have c8 := hbxq.c8
                  obtain ⟨v0, v1, v2, v3⟩ := qbox.four
                  refine wp_region_z (fun w' => w'.cell? ⟨w1.heap.size + 1, 8, none⟩ = some (.slice (some ⟨w1.heap.size, 0, none⟩) g.nn g.nn) ∧ w'.cell? ⟨bq, 0, none⟩ = some (.int .i64 (g.K q)) ∧ w'.cell? ⟨bq, 1, none⟩ = some (.int .i64 (g.W q)) ∧ w'.cell? ⟨bq, 2, none⟩ = some (.int .u64 (g.U q)) ∧ w'.cell? ⟨bq, 3, none⟩ = some (.slice (p.TA q) (g.al q) (p.TC q))) [0, 1, 2, 3, 4, 5, 6, 7] [9, 10] (by kernel_rfl) (by kernel_rfl) (by kernel_rfl) (by rfl) (fun _ _ _ _ e h => ⟨e.symm.trans h.1, h.2⟩) ⟨c8, v0, v1, v2, v3⟩ ?_
                  iterate 8
                    refine Heads.step (v := ?_) rfl (by rfl) (fun W hW => ?_) ?_
                    rotate_left
                    · (obtain ⟨s0, s1, s2, s3, s4⟩ := hW; go_simp; try with_reducible rfl)
                  refine AnyZ.one (i := 8) (by kernel_rfl) rfl (fun K hK => ?_)
                  go_simp
                  refine (HNX.out _ (Keeps.drew _)).mono ?_
                  rintro e w8 ⟨rfl, hb8⟩
                  have hb8' : Below wq.heap.size wq w8 := ⟨hb8.os, hb8.tape, hb8.output, hb8.size, hb8.block⟩
                  have hA8 := hAq.below hb8'
                  have hO8 := hOq.call hb8'
                  have hk8 := Keeps.of_below hb8'
                  refine hK _ _ (fun _ => ⟨hk8 _ _ c8, hk8 _ _ v0, hk8 _ _ v1, hk8 _ _ v2, hk8 _ _ v3⟩) ?_
                  clear hK hb8 hk8
                  have ca := hA8.cell hlq
                  have fa := hA8.thaw q
                  refine AnyZ.one (i := 9) (by kernel_rfl) rfl (fun K hK => ?_)
                  go_simp
                  refine hK _ _ (fun h => by cases h) ?_
                  clear hK
                  refine AnyZ.one (i := 10) (by kernel_rfl) rfl (fun K hK => ?_)
                  go_simp
                  refine hK _ _ (fun h => by cases h) (AnyZ.done (by kernel_rfl) ?_)
                  clear hK
                  have hOs := hO8.setCell (p := ⟨w1.heap.size, q, none⟩) (fun _ => rfl) (.int .u64 (Cv q))
                  have hAs : Arr (w8.setCell ⟨w1.heap.size, q, none⟩ (.int .u64 (Cv q))) w1.heap.size 33 g.nn (fun j => .int .u64 ((fun j => if j = q then Cv q else F j) j)) := hA8.set (fun j _ hj => by simp [hj]) (by simp)
                  have HFS : Hid (∃ F : Nat → Int, Arr (w8.setCell ⟨w1.heap.size, q, none⟩ (.int .u64 (Cv q))) w1.heap.size 33 g.nn (fun j => .int .u64 (F j)) ∧ ∀ j, j < q + 1 → F j = Cv j) := Lib.hid ⟨_, hAs, fun j hj => by
                    by_cases e : j = q
                    · simp only [if_pos e]; rw [e]
                    · simp only [if_neg e]; exact HFF.out j (by omega)⟩
                  clear hAs
                  go_step
                  go_wp2_with fail
                  go_roundw
                  case rel => exact ⟨q + 1, by omega, by go_num, hOs, HFS⟩
                  case measure => simp [intOf]; omega
                · obtain rfl : q = g.nn := by omega
                  have hAv : Arr wr w1.heap.size 33 g.nn (fun j => .int .u64 (Cv j)) := hAF.congr (fun j hj => by rw [HFF.out j hj])
                  have hbx6 : RBox g p wr _ _ _ _ := Arr.only H.box HOl (by omega)
                  have hr6 := H.regs.off HOl (fun b hb c => by omega)
                  have hm6 := H.mems.only HOl (fun b hb c => by have := HMG.out b hb; omega) (fun i hi c => by have := HMW.out i hi; omega)
                  have hmt6 := H.mat.only HOl (fun j hj _ c => by omega)
                  have HBL6 := Lib.hid hbw
                  obtain ⟨w6, rfl⟩ : ∃ w6 : World, w6 = wr := ⟨_, rfl⟩
                  have hs6 : w4.heap.size ≤ w6.heap.size := by omega
                  clear hAF HOl hbl hbw H
                  obtain ⟨g0, g1, g2, g3, g4, g5⟩ := (hbx.keeps hkl.out).six
                  have hmk := fun W => run_mk Try.underlying34 zeroU .i64 .i64 (0 : Int) (g.no : Int) (by omega) (by omega) (by omega) (by omega) W
                  simp only [Int.toNat_natCast, Value.cells, Nat.mul_one, Int.toNat_zero] at hmk
                  go_upto_region 22 with (fail)
                  clear hmk g0 g1 g2 g3 g4 g5
                  have hrow0 : GrowW w6 (some ⟨w6.heap.size, 0, none⟩) 0 g.no (g.shown TL T k) (w6.alloc (.cells (madeCells #[.int .u64 0] g.no) 33)) :=
                    ⟨World.ownsRow_made w6 _ _ (Nat.le_refl _) (by simp [maxLen]; omega) (by simp [madeCells]), (Below.refl _ _).alloc (Nat.le_refl _) _⟩
                  generalize w6.alloc (.cells (madeCells #[.int .u64 0] g.no) 33) = wh at *
                  obtain ⟨g0, g1, g2, g3, g4, g5⟩ := (hbx.keeps (hkl.out.trans (Grow.keeps hrow0))).six
                  go_wp2_with fail
                  clear g0 g1 g2 g3 g4 g5
                  generalize hA5 : p.A5 = A5
                  have HA5 := Lib.hid hA5; clear hA5
                  go_loopw [15, 101] (fun v ix wi => ∃ (m : Nat) (E : Option Addr) (e : Nat), m ≤ g.no ∧ ix = .int .i64 m ∧ v = .slice E m e ∧ GrowW w6 E m e (g.shown TL T k) wi) (fun _ ix _ => g.no - (intOf ix).toNat)
                  case atStart => exact ⟨0, _, _, by omega, rfl, rfl, hrow0⟩
                  case round =>
                    clear hrow0
                    obtain ⟨m, E, e, hm, rfl, rfl, HG⟩ := hrel
                    have hszg := Grow.size HG
                    have hbg := HG.bel
                    have hkm := Lib.hid (Keeps.of_below (HBL6.out.trans (hbg.mono (by omega))))
                    have hbxg : RBox g p wr _ _ _ _ := Arr.below hbx6 hbg
                    have hAg := hAv.below hbg
                    by_cases hlm : m < g.no
                    · have hmi : (m : Int) < g.no := by omega
                      obtain ⟨bo, oo, hOe, x0⟩ := (hg1.keeps hkm.out).outs.at_ hlm
                      rw [HA5.out] at hOe
                      subst hOe
                      have hob := isB_in (hok.outs m hlm)
                      obtain ⟨i, hi⟩ : ∃ i : Nat, (i : Int) = g.O m := ⟨(g.O m).toNat, by omega⟩
                      rw [← hi] at x0 hob
                      have HVm : Hid (g.shown TL T k m = Cv i) := Lib.hid (by rw [HSH.out, ← hi, Int.toNat_natCast])
                      have v0 := hAg.cell (k := i) (by omega)
                      have c8 := hbxg.c8
                      clear hi
                      go_wp2_with (at_builtin; refine wp_append rfl (.tmp 105) (.tmp 113) _ rfl elU64 w6.heap.size E m e _ rfl (Grow.alloc HG _).own _ 1 1 [.int .u64 (Cv i)] rfl (src_new _ _ _ rfl) (by omega) (sz_alloc hszg) ?_; intro E' e' w9 ho hk' hb')
                      go_roundw
                      case rel => exact ⟨m + 1, E', e', by omega, by go_num, rfl, GrowW.push (Grow.alloc HG _) ho hk' (fun _ _ => rfl) HVm.out⟩
                      case measure => simp [intOf]; omega
                    · obtain rfl : m = g.no := by omega
                      have hrow : OwnW wr w4.heap.size E g.no (g.shown TL T k) := (OwnW.of_own HG.own).mono (by omega)
                      have hr7 := hr6.below hbg
                      have hm7 := hm6.below hbg
                      have hmt7 := hmt6.below hbg
                      have hsw7 : w4.heap.size ≤ wr.heap.size := by omega
                      have HBL7 := Lib.hid (HBL6.out.trans (hbg.mono (by omega)))
                      go_upto_region 28 with (at_builtin; refine wp_append rfl (.tmp 116) (.tmp 118) _ rfl elU64Row w4.heap.size C k c' _ rfl (hmt7.alloc _).own _ 1 1 [.slice E g.no e] rfl (src_new _ _ _ rfl) (by omega) (sz_alloc hsw7) ?_; intro C' cc w9 ho hk' hb')
                      have hal := (Below.refl wr.heap.size wr).alloc (Nat.le_refl _) (.cells #[.slice E g.no e] 34)
                      have hbC := own_base hmt7.own
                      have hmt9 : OwnMatW w9 w4.heap.size C' (k + 1) cc g.no (g.shown TL T) (lastlyW k E RA) (lastlyW k e RC) := (hmt7.alloc _).push ho hk' (hrow.below hal)
                      have hr9 := (hr7.below hal).only hk' (fun b _ hb c => by have := hbC _ c; have := hrlt.out _ hb; omega)
                      have hm9 := (hm7.below hal).only hk' (fun b hb c => by have := hbC _ c; have := HMO.out _ hb; omega) (fun i hi c => by have := hbC _ c; have := HML.out i hi; omega)
                      have hA9 := (hAg.below hal).only hk' (fun c => by have := hbC _ c; omega)
                      have hbx9 : RBox g p w9 _ _ _ _ := Arr.only (Arr.below hbxg hal) hk' (fun c => by have := hbC _ c; omega)
                      have HBL9 := Lib.hid ((HBL7.out.trans (hal.mono (by omega))).trans (hk'.below (fun j _ c => by have := hbC _ c; omega) (by simp; omega)))
                      have hsz9 : w4.heap.size ≤ w9.heap.size := by have := hk'.size; simp at this; omega
                      clear hk' ho hb' hal hmt7 hr7 hm7 HG hkm hbg hrow hr6 hm6 hmt6 hAg hAv hbxg hbx6 hbC hkl
                      have hkq := Lib.hid (Keeps.of_below HBL9.out)
                      obtain ⟨g0, g1, g2, g3, g4, g5⟩ := (hbx.keeps hkq.out).six
                      go_wp2_with fail
                      clear g0 g1 g2 g3 g4 g5 hkq
                      generalize hA2b : p.A2 = A2b
                      have HA2b := Lib.hid hA2b; clear hA2b
                      go_loopw [123] (fun ix wi => ∃ q : Nat, q ≤ g.nr ∧ ix = .int .i64 q ∧ Only (blockOf A) w9 wi ∧ Hid (∃ V : Nat → Int, OwnW wi w2.heap.size A g.nr V ∧ ∀ j, j < q → V j = (g.st TL T (k + 1)).1 j)) (fun ix _ => g.nr - (intOf ix).toNat)
                      case atStart => exact ⟨0, by omega, rfl, Only.refl _ _, _, hr9, fun j hj => by omega⟩
                      case round =>
                        clear hr9
                        obtain ⟨q, hq, rfl, HOl, HSl⟩ := hrel
                        obtain ⟨V5, hS, hV5⟩ := HSl.out
                        have HV5 := Lib.hid hV5; clear hV5 HSl
                        have HSB := Lib.hid (fun j (c : blockOf A j) => show w2.heap.size ≤ j ∧ j < w3.heap.size from ⟨hrge.out j c, hrlt.out j c⟩)
                        have hbl := HOl.below (B := w1.heap.size) (fun j _ c => by have := HSB.out j c; omega) (by omega)
                        have hkl := Lib.hid (Keeps.of_below (HBL9.out.trans hbl))
                        by_cases hlq : q < g.nr
                        · have hqi : (q : Int) < g.nr := by omega
                          obtain ⟨b3, o3, hA3, z0, z1, z2⟩ := (hg1.keeps hkl.out).regs.at3 hlq
                          simp only [qu] at z0 z1 z2
                          rw [HA2b.out] at hA3
                          subst hA3
                          go_upto_region 31 with (fail)
                          have qbox := BoxAt.new wr [.int .i64 (g.RW q), .int .u64 (g.RI q), .int .i64 (g.RN q)] 37
                          have hbA : Below wr.heap.size wr (wr.alloc (.cells #[.int .i64 (g.RW q), .int .u64 (g.RI q), .int .i64 (g.RN q)] 37)) := (Below.refl _ _).alloc (Nat.le_refl _) _
                          have hOq := HOl.alloc (.cells #[.int .i64 (g.RW q), .int .u64 (g.RI q), .int .i64 (g.RN q)] 37)
                          have hSq := hS.below hbA
                          generalize wr.alloc (.cells #[.int .i64 (g.RW q), .int .u64 (g.RI q), .int .i64 (g.RN q)] 37) = wq at *
                          clear z0 z1 z2 hS HOl hbl hkl hbA
                          generalize wr.heap.size = bq at *
                          have hAq := hA9.only hOq (fun c => by have := HSB.out _ c; omega)
                          have hbxq : RBox g p wq _ _ _ _ := Arr.only hbx9 hOq (fun c => by have := HSB.out _ c; omega)
                          have c6 := hbxq.c6
                          have c8 := hbxq.c8
                          have v2 : wq.cell? ⟨bq, 2, none⟩ = some (.int .i64 (g.RN q)) := qbox 2 _ rfl
                          have hnb := isB_in (hok.next q hlq)
                          obtain ⟨i, hi⟩ : ∃ i : Nat, (i : Int) = g.RN q := ⟨(g.RN q).toNat, by omega⟩
                          rw [← hi] at v2 hnb
                          have HVq : Hid ((g.st TL T (k + 1)).1 q = Cv i) := Lib.hid (by rw [HR1.out, ← hi, Int.toNat_natCast])
                          have x1 := hAq.cell (k := i) (by omega)
                          obtain ⟨bs, hbe, hbs, s0, s1, hset⟩ := (hSq.below (Below.refl wq.heap.size wq).drew).at_ hlq
                          have s0' : wq.cell? ⟨bs, q, none⟩ = some (.int .u64 (V5 q)) := s0
                          have s1' : wq.frozen? ⟨bs, q, none⟩ = false := s1
                          subst hbe
                          clear hi hSq s0 s1 hbxq hAq qbox
                          go_still_tail 14, (by kernel_rfl)
                          change wpList _ _ _ _ _ wq.drew
                          have hbd := (hOq.drew).setCell (p := ⟨bs, q, none⟩) (fun _ => ⟨_, rfl, rfl⟩) (.int .u64 (Cv i))
                          have hSS : Hid (∃ V : Nat → Int, OwnW (wq.drew.setCell ⟨bs, q, none⟩ (.int .u64 (Cv i))) w2.heap.size (some ⟨bs, 0, none⟩) g.nr V ∧ ∀ j, j < q + 1 → V j = (g.st TL T (k + 1)).1 j) := Lib.hid ⟨fun j => if j = q then Cv i else V5 j, hset _ _ (fun j _ hj => by simp [hj]) (by simp), fun j hj => by
                            by_cases e : j = q
                            · simp only [if_pos e]; rw [e, HVq.out]
                            · simp only [if_neg e]; exact HV5.out j (by omega)⟩
                          clear hset
                          go_wp2_with fail
                          go_roundw
                          case rel => exact ⟨q + 1, by omega, by go_num, hbd, hSS⟩
                          case measure => simp [intOf]; omega
                        · obtain rfl : q = g.nr := by omega
                          have hr10 : OwnW wr w2.heap.size A g.nr (g.st TL T (k + 1)).1 := hS.congr (fun j hj => (HV5.out j hj).symm)
                          have hm10 := hm9.only HOl (fun b hb c => by have := HMG.out _ hb; have := HSB.out _ c; omega) (fun i hi c => by have := HMW.out i hi; have := HSB.out _ c; omega)
                          have hmt10 := hmt9.only HOl (fun j hj _ c => by have := HSB.out _ c; omega)
                          have hA10 := hA9.only HOl (fun c => by have := HSB.out _ c; omega)
                          have hbx10 : RBox g p wr _ _ _ _ := Arr.only hbx9 HOl (fun c => by have := HSB.out _ c; omega)
                          have HBL10 := Lib.hid (HBL9.out.trans hbl)
                          have hsz10 : w4.heap.size ≤ wr.heap.size := by have := HOl.size; omega
                          obtain ⟨g0, g1, g2, g3, g4, g5⟩ := (hbx.keeps hkl.out).six
                          go_wp2_with fail
                          obtain ⟨w10, rfl⟩ : ∃ w10 : World, w10 = wr := ⟨_, rfl⟩
                          clear HOl hS HV5 hbl hkl g0 g1 g2 g3 g4 g5 hA9 hm9 hmt9 hbx9 HSB
                          generalize hA4 : p.A4 = A4
                          have HA4 := Lib.hid hA4; clear hA4
                          go_loopw [146] (fun ix wi => ∃ q : Nat, q ≤ g.nw ∧ ix = .int .i64 q ∧ Only (fun b => ∃ i, i < g.nm ∧ b = MB i) w10 wi ∧ Hid (OwnMems g wi w3.heap.size D g.nm d MB (g.writes Cv (g.st TL T k).2 q))) (fun ix _ => g.nw - (intOf ix).toNat)
                          case atStart => exact ⟨0, by omega, rfl, Only.refl _ _, hm10⟩
                          case round =>
                            clear hm10
                            obtain ⟨q, hq, rfl, HOl, HMl⟩ := hrel
                            have HSB := Lib.hid (fun j (c : ∃ i, i < g.nm ∧ j = MB i) => show w3.heap.size ≤ j ∧ j < w4.heap.size by
                              obtain ⟨i, hi, rfl⟩ := c
                              exact ⟨HMW.out i hi, HML.out i hi⟩)
                            have hbl := HOl.below (B := w1.heap.size) (fun j _ c => by have := HSB.out j c; omega) (by omega)
                            have hkl := Lib.hid (Keeps.of_below (HBL10.out.trans hbl))
                            by_cases hlq : q < g.nw
                            · have hqi : (q : Int) < g.nw := by omega
                              obtain ⟨b3, o3, hA3, z0, z1, z2, z3⟩ := (hg1.keeps hkl.out).writes.at4 hlq
                              simp only [qu] at z0 z1 z2 z3
                              rw [HA4.out] at hA3
                              subst hA3
                              go_upto_region 36 with (fail)
                              have qbox := BoxAt.new wr [.int .i64 (g.WM q), .int .i64 (g.WN q), .int .i64 (g.WA q), .int .i64 (g.WD q)] 45
                              have hbA : Below wr.heap.size wr (wr.alloc (.cells #[.int .i64 (g.WM q), .int .i64 (g.WN q), .int .i64 (g.WA q), .int .i64 (g.WD q)] 45)) := (Below.refl _ _).alloc (Nat.le_refl _) _
                              have HOq := HOl.alloc (.cells #[.int .i64 (g.WM q), .int .i64 (g.WN q), .int .i64 (g.WA q), .int .i64 (g.WD q)] 45)
                              have HMq := HMl.out.below hbA
                              generalize wr.alloc (.cells #[.int .i64 (g.WM q), .int .i64 (g.WN q), .int .i64 (g.WA q), .int .i64 (g.WD q)] 45) = wq at *
                              clear HOl HMl hbl hkl z0 z1 z2 z3 hbA
                              generalize wr.heap.size = bq at *
                              have hAq := hA10.only HOq (fun c => by have := HSB.out _ c; omega)
                              have hbxq : RBox g p wq _ _ _ _ := Arr.only hbx10 HOq (fun c => by have := HSB.out _ c; omega)
                              obtain ⟨v0, v1, v2, v3⟩ := qbox.four
                              have c7 := hbxq.c7
                              have c8 := hbxq.c8
                              have hwk := hok.writes q hlq
                              have h1 := isB_in hwk.when; have h2 := isB_in hwk.addr; have h3 := isB_in hwk.data
                              have h4 := hwk.lo; have h5 := hwk.hi
                              obtain ⟨im, him⟩ : ∃ i : Nat, (i : Int) = g.WM q := ⟨(g.WM q).toNat, by omega⟩
                              obtain ⟨jn, hjn⟩ : ∃ i : Nat, (i : Int) = g.WN q := ⟨(g.WN q).toNat, by omega⟩
                              obtain ⟨ja, hja⟩ : ∃ i : Nat, (i : Int) = g.WA q := ⟨(g.WA q).toNat, by omega⟩
                              obtain ⟨jd, hjd⟩ : ∃ i : Nat, (i : Int) = g.WD q := ⟨(g.WD q).toNat, by omega⟩
                              rw [← hjn] at h1 v1; rw [← hja] at h2 v2; rw [← hjd] at h3 v3; rw [← him] at h4 h5 v0
                              have himn : im < g.nm := by omega
                              have hms := (hok.mems im himn).2
                              obtain ⟨S, hS⟩ : ∃ S : Nat, g.MS im = S := ⟨(g.MS im).toNat, by omega⟩
                              rw [hS] at hms
                              have x1 := hAq.cell (k := jn) (by omega)
                              have x2 := hAq.cell (k := ja) (by omega)
                              have x3 := hAq.cell (k := jd) (by omega)
                              have HWS : Hid (g.writes Cv (g.st TL T k).2 (q + 1) = if Cv jn ≠ 0 ∧ Cv ja < S then fun i j => if i = im ∧ j = (Cv ja).toNat then Cv jd else g.writes Cv (g.st TL T k).2 q i j else g.writes Cv (g.st TL T k).2 q) := Lib.hid (by
                                simp only [Nl.writes]
                                rw [← hjn, ← hja, ← hjd, ← him, Int.toNat_natCast, Int.toNat_natCast, Int.toNat_natCast, Int.toNat_natCast, hS])
                              obtain ⟨x, hx⟩ : ∃ x : Nat, Cv ja = x := ⟨(Cv ja).toNat, by have := (HCF.out ja (by omega)).1; omega⟩
                              have HX := Lib.hid hx
                              rw [hx] at x2
                              have HSE : Hid ((g.MS im).toNat = S) := Lib.hid (by omega)
                              obtain ⟨bd, od, hDe, y0⟩ := Row1.at_ HMq.at_.row himn
                              rw [HSE.out] at y0
                              subst hDe
                              clear him hjn hja hjd hS hx hwk hbxq hAq qbox
                              go_quiet (fail)
                              go_wp2_with fail
                              have u0 : (wq.drewN nq).cell? ⟨bq, 0, none⟩ = some (.int .i64 im) := v0
                              have u1 : (wq.drewN nq).cell? ⟨bq, 1, none⟩ = some (.int .i64 jn) := v1
                              have u2 : (wq.drewN nq).cell? ⟨bq, 2, none⟩ = some (.int .i64 ja) := v2
                              have u3 : (wq.drewN nq).cell? ⟨bq, 3, none⟩ = some (.int .i64 jd) := v3
                              have t1 : (wq.drewN nq).cell? ⟨w1.heap.size, jn, none⟩ = some (.int .u64 (Cv jn)) := x1
                              have t2 : (wq.drewN nq).cell? ⟨w1.heap.size, ja, none⟩ = some (.int .u64 x) := x2
                              have t3 : (wq.drewN nq).cell? ⟨w1.heap.size, jd, none⟩ = some (.int .u64 (Cv jd)) := x3
                              have t8 : (wq.drewN nq).cell? ⟨w1.heap.size + 1, 8, none⟩ = some (.slice (some ⟨w1.heap.size, 0, none⟩) g.nn g.nn) := c8
                              have HOz := HOq.drewN nq
                              have HMz := HMq.below (drawnN_bel wq nq)
                              clear HOq HMq v0 v1 v2 v3 x1 x2 x3 y0 c7 c8
                              generalize wq.drewN nq = wz at *
                              by_cases hn0 : Cv jn = 0
                              · have hd1 : (Cv jn != 0) = false := by simp [hn0]
                                have HW : Hid (g.writes Cv (g.st TL T k).2 (q + 1) = g.writes Cv (g.st TL T k).2 q) := Lib.hid (by rw [HWS.out, if_neg (fun h => h.1 hn0)])
                                clear hn0
                                go_quiet (fail)
                                have hbd := HOz.drewN nq
                                have hm9 := HMz.below (drawnN_bel wz nq)
                                rw [← HW.out] at hm9
                                go_wp2_with fail
                                go_roundw
                                case rel => exact ⟨q + 1, by omega, by go_num, hbd, hm9⟩
                                case measure => simp [intOf]; omega
                              · have hd1 : (Cv jn != 0) = true := by simp [hn0]
                                by_cases hxs : x < S
                                · have hd2 : decide ((x : Int) < IntKind.u64.wrap (S : Int)) = true := by rw [wraps_u64 _ (by omega) (by omega)]; simpa using hxs
                                  have HW : Hid (g.writes Cv (g.st TL T k).2 (q + 1) = fun i j => if i = im ∧ j = x then Cv jd else g.writes Cv (g.st TL T k).2 q i j) := Lib.hid (by
                                    rw [HWS.out, if_pos ⟨hn0, by rw [HX.out]; omega⟩, HX.out, Int.toNat_natCast])
                                  have hxi : (x : Int) < S := by omega
                                  clear hn0
                                  go_quiet (fail)
                                  go_wp2_with fail
                                  have r0 : (wz.drewN nq).cell? ⟨bq, 0, none⟩ = some (.int .i64 im) := u0
                                  have r2 : (wz.drewN nq).cell? ⟨bq, 2, none⟩ = some (.int .i64 ja) := u2
                                  have r3 : (wz.drewN nq).cell? ⟨bq, 3, none⟩ = some (.int .i64 jd) := u3
                                  have e2 : (wz.drewN nq).cell? ⟨w1.heap.size, ja, none⟩ = some (.int .u64 x) := t2
                                  have e3 : (wz.drewN nq).cell? ⟨w1.heap.size, jd, none⟩ = some (.int .u64 (Cv jd)) := t3
                                  have e8 : (wz.drewN nq).cell? ⟨w1.heap.size + 1, 8, none⟩ = some (.slice (some ⟨w1.heap.size, 0, none⟩) g.nn g.nn) := t8
                                  have HOy := HOz.drewN nq
                                  have HMy := HMz.below (drawnN_bel wz nq)
                                  clear HOz HMz u0 u1 u2 u3 t1 t2 t3 t8
                                  generalize wz.drewN nq = wy at *
                                  have harr := HMy.arr im himn
                                  rw [HSE.out] at harr
                                  have ca := harr.cell hxs
                                  have fa := harr.thaw x
                                  clear harr
                                  go_still_tail 18, (by kernel_rfl)
                                  change wpList _ _ _ _ _ wy.drew
                                  have hbd := (HOy.drew).setCell (p := ⟨MB im, x, none⟩) (fun _ => ⟨im, himn, rfl⟩) (.int .u64 (Cv jd))
                                  have hm9 := (HMy.below (Below.refl wy.heap.size wy).drew).set (j := x) himn (Cv jd)
                                  rw [← HW.out] at hm9
                                  go_wp2_with fail
                                  go_roundw
                                  case rel => exact ⟨q + 1, by omega, by go_num, hbd, hm9⟩
                                  case measure => simp [intOf]; omega
                                · have hd2 : decide ((x : Int) < IntKind.u64.wrap (S : Int)) = false := by rw [wraps_u64 _ (by omega) (by omega)]; simpa using hxs
                                  have HW : Hid (g.writes Cv (g.st TL T k).2 (q + 1) = g.writes Cv (g.st TL T k).2 q) := Lib.hid (by rw [HWS.out, if_neg (fun h => by have h2 := h.2; rw [HX.out] at h2; omega)])
                                  clear hn0
                                  go_quiet (fail)
                                  have hbd := HOz.drewN nq
                                  have hm9 := HMz.below (drawnN_bel wz nq)
                                  rw [← HW.out] at hm9
                                  go_wp2_with fail
                                  go_roundw
                                  case rel => exact ⟨q + 1, by omega, by go_num, hbd, hm9⟩
                                  case measure => simp [intOf]; omega
                            · obtain rfl : q = g.nw := by omega
                              have hm11 := HMl.out
                              rw [← HM1.out] at hm11
                              have hr11 := hr10.only HOl (fun b _ hb c => by have := HSB.out b c; have := hrlt.out b hb; omega)
                              have hmt11 := hmt10.only HOl (fun j hj _ c => by have := HSB.out j c; omega)
                              have hA11 := hA10.only HOl (fun c => by have := HSB.out _ c; omega)
                              have hbx11 : RBox g p wr _ _ _ _ := Arr.only hbx10 HOl (fun c => by have := HSB.out _ c; omega)
                              have HBL11 := HBL10.out.trans hbl
                              have hsz11 : w4.heap.size ≤ wr.heap.size := by have := HOl.size; omega
                              have e1 := HA1.out
                              have e4 := HA4.out
                              have e5 := HA5.out
                              subst e1
                              subst e4
                              subst e5
                              go_wp2_with fail
                              go_roundw
                              case rel => exact ⟨k + 1, C', cc, _, _, by omega, by go_num, rfl, ⟨HBL11, hsz11, hbx11, ⟨_, hA11⟩, hr11, hm11, hmt11⟩⟩
                              case measure => simp [intOf]; omega
            · obtain rfl : k = nt := by omega
              go_wp2_with fail
              go_ret
              exact ⟨C, c', RA, RC, rfl, H.mat.mono (by omega), Below.then_call HB1.out H.bel hle1⟩
end Go.Proofs.Ytmbcfondglhiiaa
