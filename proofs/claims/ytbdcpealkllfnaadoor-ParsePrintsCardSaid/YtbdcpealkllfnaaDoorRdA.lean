/- The reference's Reader: its state, fail, step, is, accept, must, name, walked. Condition: the text has at most 60000 bytes. -/
import Derived.Test.YtbdcpealkllfnaaDoorLxF
namespace Go.Proofs.YtbdcpealkllfnaaDoor
open Go.RowKit Go.Deep

def rdC (s T : ByteArray) (kd at_ wd num q code fat : Nat) : Array Value := #[.string s, .int .i64 (kd : Int), .int .i64 (at_ : Int), .int .i64 (wd : Int), .string T, .int .u64 (num : Int), .int .i64 (q : Int), .int .i64 (code : Int), .int .i64 (fat : Int)]
/-- how much may still be taken; 0: there was a fault -/
def rdM (n kd q code : Nat) : Nat := if code = 0 then 1 + 2 * (n - q) + (if kd = 1 ∨ kd = 2 ∨ kd = 3 then 1 else 0) else 0
theorem rdM_bad {n kd q code : Nat} (h : code ≠ 0) : rdM n kd q code = 0 := if_neg h
theorem rdM_pos {n kd q : Nat} : 0 < rdM n kd q 0 := by unfold rdM; rw [if_pos rfl]; omega
theorem rdM_zero {n kd q code : Nat} (h : rdM n kd q code = 0) : code ≠ 0 := fun e => by subst e; have := rdM_pos (n := n) (kd := kd) (q := q); omega
theorem rdM_step {n kd q kd' q' : Nat} (hq : q ≤ q') (hn : q' ≤ n) (h : kd' = 1 ∨ kd' = 2 ∨ kd' = 3 → q < q') : rdM n kd' q' 0 ≤ rdM n kd q 0 ∧ (kd = 1 ∨ kd = 2 ∨ kd = 3 → rdM n kd' q' 0 < rdM n kd q 0) := by
 unfold rdM
 rw [if_pos rfl, if_pos rfl]
 by_cases h1 : kd' = 1 ∨ kd' = 2 ∨ kd' = 3
 ·
  have := h h1
  rw [if_pos h1]
  by_cases h2 : kd = 1 ∨ kd = 2 ∨ kd = 3
  ·
   rw [if_pos h2]; exact ⟨by omega, fun _ => by omega⟩
  ·
   rw [if_neg h2]; exact ⟨by omega, fun h => absurd h h2⟩
 ·
  rw [if_neg h1]
  by_cases h2 : kd = 1 ∨ kd = 2 ∨ kd = 3
  ·
   rw [if_pos h2]; exact ⟨by omega, fun _ => by omega⟩
  ·
   rw [if_neg h2]; exact ⟨by omega, fun h => absurd h h2⟩
theorem rdM_le (n kd q code : Nat) : rdM n kd q code ≤ 2 * n + 2 := by
 unfold rdM; split
 ·
  split <;> omega
 ·
  omega
/-- the reader in block b -/
structure RdF (s : ByteArray) (b : Nat) (w : World) (m kd at_ wd : Nat) (T : ByteArray) (num q code fat : Nat) : Prop where
 h : w.heap[b]? = some (.cells (rdC s T kd at_ wd num q code fat) 35)
 t : TokOk s kd at_ wd T num
 hq : q ≤ s.size
 f : fat ≤ s.size
 c : code ≤ 1
 hm : m = rdM s.size kd q code
 z : s.size ≤ 60000
def RdS (s : ByteArray) (b : Nat) (w : World) (m : Nat) : Prop := ∃ (kd at_ wd : Nat) (T : ByteArray) (num q code fat : Nat), RdF s b w m kd at_ wd T num q code fat
/-- .. whose token is of kind k -/
def RdK (s : ByteArray) (b : Nat) (w : World) (m k : Nat) : Prop := ∃ (at_ wd : Nat) (T : ByteArray) (num q code fat : Nat), RdF s b w m k at_ wd T num q code fat
theorem RdK.s {s : ByteArray} {b : Nat} {w : World} {m k : Nat} (h : RdK s b w m k) : RdS s b w m := by
 obtain ⟨a1, a2, a3, a4, a5, a6, a7, h⟩ := h
 exact ⟨_, a1, a2, a3, a4, a5, a6, a7, h⟩
/-- nothing has changed but the reader -/
abbrev OnlyB (b : Nat) : World → World → Prop := Only fun k => k = b
theorem RdF.lt {s : ByteArray} {b : Nat} {w : World} {m kd at_ wd : Nat} {T : ByteArray} {num q code fat : Nat} (h : RdF s b w m kd at_ wd T num q code fat) : b < w.heap.size := (Array.getElem?_eq_some_iff.1 h.h).1
theorem RdF.only {S : Nat → Prop} {s : ByteArray} {b : Nat} {w w1 : World} {m kd at_ wd : Nat} {T : ByteArray} {num q code fat : Nat} (h : RdF s b w m kd at_ wd T num q code fat) (k : Only S w w1) (hs : ¬ S b) : RdF s b w1 m kd at_ wd T num q code fat :=
 ⟨k.heap h.h hs, h.t, h.hq, h.f, h.c, h.hm, h.z⟩
theorem RdS.only {S : Nat → Prop} {s : ByteArray} {b : Nat} {w w1 : World} {m : Nat} (h : RdS s b w m) (k : Only S w w1) (hs : ¬ S b) : RdS s b w1 m := by
 obtain ⟨a0, a1, a2, a3, a4, a5, a6, a7, h⟩ := h
 exact ⟨a0, a1, a2, a3, a4, a5, a6, a7, h.only k hs⟩
theorem RdK.only {S : Nat → Prop} {s : ByteArray} {b : Nat} {w w1 : World} {m t : Nat} (h : RdK s b w m t) (k : Only S w w1) (hs : ¬ S b) : RdK s b w1 m t := by
 obtain ⟨a1, a2, a3, a4, a5, a6, a7, h⟩ := h
 exact ⟨a1, a2, a3, a4, a5, a6, a7, h.only k hs⟩
theorem RdS.lt {s : ByteArray} {b : Nat} {w : World} {m : Nat} (h : RdS s b w m) : b < w.heap.size := by
 obtain ⟨a0, a1, a2, a3, a4, a5, a6, a7, h⟩ := h
 exact h.lt
theorem RdS.alloc {s : ByteArray} {b : Nat} {w : World} {m : Nat} (h : RdS s b w m) (o : Obj) : RdS s b (w.alloc o) m := h.only ((Only.refl (fun _ => False) w).alloc o) (fun h => h)
theorem RdS.le {s : ByteArray} {b : Nat} {w : World} {m : Nat} (h : RdS s b w m) : m ≤ 120002 := by
 obtain ⟨a0, a1, a2, a3, a4, a5, a6, a7, h⟩ := h
 have := rdM_le s.size a0 a5 a6
 have := h.z
 have := h.hm
 omega
/-- a cell of a box -/
theorem cell_at {w : World} {b j : Nat} {cs : Array Value} {t : TypeId} {v : Value} (h : w.heap[b]? = some (.cells cs t)) (hv : cs[j]? = some v) : w.cell? ⟨b, j, none⟩ = some v ∧ w.frozen? ⟨b, j, none⟩ = false :=
 ⟨(cell_of_row w b j cs t _ h).trans hv, frozen_of_row w b j cs t h⟩
theorem RdF.c0 {s : ByteArray} {b : Nat} {w : World} {m kd at_ wd : Nat} {T : ByteArray} {num q code fat : Nat} (h : RdF s b w m kd at_ wd T num q code fat) : w.cell? ⟨b, 0, none⟩ = some (.string s) ∧ w.frozen? ⟨b, 0, none⟩ = false := ⟨(cell_of_row w b 0 _ _ _ h.h).trans rfl, frozen_of_row w b 0 _ _ h.h⟩
theorem RdF.c1 {s : ByteArray} {b : Nat} {w : World} {m kd at_ wd : Nat} {T : ByteArray} {num q code fat : Nat} (h : RdF s b w m kd at_ wd T num q code fat) : w.cell? ⟨b, 1, none⟩ = some (.int .i64 (kd : Int)) ∧ w.frozen? ⟨b, 1, none⟩ = false := ⟨(cell_of_row w b 1 _ _ _ h.h).trans rfl, frozen_of_row w b 1 _ _ h.h⟩
theorem RdF.c2 {s : ByteArray} {b : Nat} {w : World} {m kd at_ wd : Nat} {T : ByteArray} {num q code fat : Nat} (h : RdF s b w m kd at_ wd T num q code fat) : w.cell? ⟨b, 2, none⟩ = some (.int .i64 (at_ : Int)) ∧ w.frozen? ⟨b, 2, none⟩ = false := ⟨(cell_of_row w b 2 _ _ _ h.h).trans rfl, frozen_of_row w b 2 _ _ h.h⟩
theorem RdF.c3 {s : ByteArray} {b : Nat} {w : World} {m kd at_ wd : Nat} {T : ByteArray} {num q code fat : Nat} (h : RdF s b w m kd at_ wd T num q code fat) : w.cell? ⟨b, 3, none⟩ = some (.int .i64 (wd : Int)) ∧ w.frozen? ⟨b, 3, none⟩ = false := ⟨(cell_of_row w b 3 _ _ _ h.h).trans rfl, frozen_of_row w b 3 _ _ h.h⟩
theorem RdF.c4 {s : ByteArray} {b : Nat} {w : World} {m kd at_ wd : Nat} {T : ByteArray} {num q code fat : Nat} (h : RdF s b w m kd at_ wd T num q code fat) : w.cell? ⟨b, 4, none⟩ = some (.string T) ∧ w.frozen? ⟨b, 4, none⟩ = false := ⟨(cell_of_row w b 4 _ _ _ h.h).trans rfl, frozen_of_row w b 4 _ _ h.h⟩
theorem RdF.c5 {s : ByteArray} {b : Nat} {w : World} {m kd at_ wd : Nat} {T : ByteArray} {num q code fat : Nat} (h : RdF s b w m kd at_ wd T num q code fat) : w.cell? ⟨b, 5, none⟩ = some (.int .u64 (num : Int)) ∧ w.frozen? ⟨b, 5, none⟩ = false := ⟨(cell_of_row w b 5 _ _ _ h.h).trans rfl, frozen_of_row w b 5 _ _ h.h⟩
theorem RdF.c6 {s : ByteArray} {b : Nat} {w : World} {m kd at_ wd : Nat} {T : ByteArray} {num q code fat : Nat} (h : RdF s b w m kd at_ wd T num q code fat) : w.cell? ⟨b, 6, none⟩ = some (.int .i64 (q : Int)) ∧ w.frozen? ⟨b, 6, none⟩ = false := ⟨(cell_of_row w b 6 _ _ _ h.h).trans rfl, frozen_of_row w b 6 _ _ h.h⟩
theorem RdF.c7 {s : ByteArray} {b : Nat} {w : World} {m kd at_ wd : Nat} {T : ByteArray} {num q code fat : Nat} (h : RdF s b w m kd at_ wd T num q code fat) : w.cell? ⟨b, 7, none⟩ = some (.int .i64 (code : Int)) ∧ w.frozen? ⟨b, 7, none⟩ = false := ⟨(cell_of_row w b 7 _ _ _ h.h).trans rfl, frozen_of_row w b 7 _ _ h.h⟩
theorem RdF.c8 {s : ByteArray} {b : Nat} {w : World} {m kd at_ wd : Nat} {T : ByteArray} {num q code fat : Nat} (h : RdF s b w m kd at_ wd T num q code fat) : w.cell? ⟨b, 8, none⟩ = some (.int .i64 (fat : Int)) ∧ w.frozen? ⟨b, 8, none⟩ = false := ⟨(cell_of_row w b 8 _ _ _ h.h).trans rfl, frozen_of_row w b 8 _ _ h.h⟩
/-- fail -/
def FailOut (s : ByteArray) (b : Nat) (w : World) (e : Ending) (w' : World) : Prop := e = .returned (.tuple #[]) ∧ RdS s b w' 0 ∧ OnlyB b w w'
set_option maxRecDepth 100000 in
set_option maxHeartbeats 4000000 in
theorem fail_any {s : ByteArray} {b m : Nat} {w : World} (h : RdS s b w m) : Calls Tryd.prog 35 #[.pointer (some ⟨b, 0, none⟩)] w (FailOut s b w) := by
 obtain ⟨kd, at_, wd, T, num, q, code, fat, h⟩ := h
 have H := Lib.hid h
 clear h
 obtain ⟨y7, z7⟩ := H.out.c7
 by_cases hc : code = 0
 ·
  subst hc
  obtain ⟨y8, z8⟩ := H.out.c8
  obtain ⟨y2, z2⟩ := H.out.c2
  have HN : Hid (FailOut s b w (.returned (.tuple #[])) ((w.setCell ⟨b, 7, none⟩ (.int .i64 1)).setCell ⟨b, 8, none⟩ (.int .i64 (at_ : Int)))) := Lib.hid ⟨rfl, ⟨kd, at_, wd, T, num, q, 1, at_, heap_setCell_same _ b 8 _ _ _ (heap_setCell_same w b 7 _ _ _ H.out.h), H.out.t, H.out.hq, H.out.t.a, by omega, (rdM_bad (by omega)).symm, H.out.z⟩, ((Only.refl (fun k => k = b) w).setCell (p := ⟨b, 7, none⟩) (fun _ => rfl) _).setCell (p := ⟨b, 8, none⟩) (fun _ => rfl) _⟩
  go_enter Tryd.func35, Tryd.ntmps35
  go_wp2_with fail
  go_end0
  exact HN.out
 ·
  have hci : ((code : Int) == 0) = false := by rw [beq_eq_false_iff_ne]; omega
  have HC := Lib.hid hc
  clear hc
  have HN : Hid (FailOut s b w (.returned (.tuple #[])) w) := Lib.hid ⟨rfl, ⟨kd, at_, wd, T, num, q, code, fat, H.out.h, H.out.t, H.out.hq, H.out.f, H.out.c, (rdM_bad HC.out).symm, H.out.z⟩, Only.refl _ w⟩
  go_enter Tryd.func35, Tryd.ntmps35
  go_wp2_with fail
  go_end0
  exact HN.out
/-- is -/
def IsOut (s : ByteArray) (b m : Nat) (w : World) (e : Ending) (w' : World) : Prop := ∃ ok : Bool, e = .returned (.bool ok) ∧ w' = w ∧ (ok = true → RdK s b w m 3 ∧ 0 < m)
set_option maxRecDepth 100000 in
set_option maxHeartbeats 4000000 in
theorem is_any {s : ByteArray} {b m : Nat} {w : World} (h : RdS s b w m) (t : ByteArray) : Calls Tryd.prog 19 #[.pointer (some ⟨b, 0, none⟩), .string t] w (IsOut s b m w) := by
 obtain ⟨kd, at_, wd, T, num, q, code, fat, h⟩ := h
 have H := Lib.hid h
 clear h
 obtain ⟨y7, z7⟩ := H.out.c7
 obtain ⟨y1, z1⟩ := H.out.c1
 obtain ⟨y4, z4⟩ := H.out.c4
 have HN : Hid (IsOut s b m w (.returned (.bool false)) w) := Lib.hid ⟨false, rfl, rfl, fun h => by cases h⟩
 by_cases hc : code = 0
 ·
  subst hc
  by_cases hk : kd = 3
  ·
   subst hk
   have HY : Hid (∀ x, IsOut s b m w (.returned (.bool x)) w) := Lib.hid fun x => ⟨x, rfl, rfl, fun _ => ⟨⟨at_, wd, T, num, q, 0, fat, H.out⟩, by rw [H.out.hm]; exact rdM_pos⟩⟩
   go_enter Tryd.func19, Tryd.ntmps19
   go_wp2_with fail
   go_ret
   exact HY.out _
  ·
   have hki : ((kd : Int) == 3) = false := by rw [beq_eq_false_iff_ne]; omega
   clear hk
   go_enter Tryd.func19, Tryd.ntmps19
   go_wp2_with fail
   go_ret
   exact HN.out
 ·
  have hci : ((code : Int) == 0) = false := by rw [beq_eq_false_iff_ne]; omega
  clear hc
  go_enter Tryd.func19, Tryd.ntmps19
  go_wp2_with fail
  go_ret
  exact HN.out
/-- step -/
def StepOut (s : ByteArray) (b m kd : Nat) (w : World) (e : Ending) (w' : World) : Prop := e = .returned (.tuple #[]) ∧ ∃ m', RdS s b w' m' ∧ OnlyB b w w' ∧ m' ≤ m ∧ (0 < m → 0 < m') ∧ (kd = 1 ∨ kd = 2 ∨ kd = 3 → 0 < m → m' < m)
theorem set9 (w : World) (b : Nat) {s T : ByteArray} {kd at_ wd num q code fat : Nat} (h : w.heap[b]? = some (.cells (rdC s T kd at_ wd num q code fat) 35)) (T' : ByteArray) (kd' at' wd' num' q' : Nat) :
  ((((((w.setCell ⟨b, 1, none⟩ (.int .i64 (kd' : Int))).setCell ⟨b, 2, none⟩ (.int .i64 (at' : Int))).setCell ⟨b, 3, none⟩ (.int .i64 (wd' : Int))).setCell ⟨b, 4, none⟩ (.string T')).setCell ⟨b, 5, none⟩ (.int .u64 (num' : Int))).setCell ⟨b, 6, none⟩ (.int .i64 (q' : Int))).heap[b]? = some (.cells (rdC s T' kd' at' wd' num' q' code fat) 35) :=
 heap_setCell_same _ b 6 _ _ _ (heap_setCell_same _ b 5 _ _ _ (heap_setCell_same _ b 4 _ _ _ (heap_setCell_same _ b 3 _ _ _ (heap_setCell_same _ b 2 _ _ _ (heap_setCell_same w b 1 _ _ _ h)))))
theorem set9_only (w : World) (b : Nat) (v1 v2 v3 v4 v5 : Value) : OnlyB b w (((((w.setCell ⟨b, 1, none⟩ v1).setCell ⟨b, 2, none⟩ v2).setCell ⟨b, 3, none⟩ v3).setCell ⟨b, 4, none⟩ v4).setCell ⟨b, 5, none⟩ v5) :=
 (((((Only.refl (fun k => k = b) w).setCell (p := ⟨b, 1, none⟩) (fun _ => rfl) _).setCell (p := ⟨b, 2, none⟩) (fun _ => rfl) _).setCell (p := ⟨b, 3, none⟩) (fun _ => rfl) _).setCell (p := ⟨b, 4, none⟩) (fun _ => rfl) _).setCell (p := ⟨b, 5, none⟩) (fun _ => rfl) _
theorem set9_heap (w : World) (b : Nat) {s T : ByteArray} {kd at_ wd num q code fat : Nat} (h : w.heap[b]? = some (.cells (rdC s T kd at_ wd num q code fat) 35)) (T' : ByteArray) (kd' at' wd' num' : Nat) :
  (((((w.setCell ⟨b, 1, none⟩ (.int .i64 (kd' : Int))).setCell ⟨b, 2, none⟩ (.int .i64 (at' : Int))).setCell ⟨b, 3, none⟩ (.int .i64 (wd' : Int))).setCell ⟨b, 4, none⟩ (.string T')).setCell ⟨b, 5, none⟩ (.int .u64 (num' : Int))).heap[b]? = some (.cells (rdC s T' kd' at' wd' num' q code fat) 35) :=
 heap_setCell_same _ b 5 _ _ _ (heap_setCell_same _ b 4 _ _ _ (heap_setCell_same _ b 3 _ _ _ (heap_setCell_same _ b 2 _ _ _ (heap_setCell_same w b 1 _ _ _ h))))
set_option maxRecDepth 100000 in
set_option maxHeartbeats 8000000 in
theorem stepK_any {s : ByteArray} {b m kd at_ wd : Nat} {T : ByteArray} {num q code fat : Nat} {w : World} (h : RdF s b w m kd at_ wd T num q code fat) : Calls Tryd.prog 9 #[.pointer (some ⟨b, 0, none⟩)] w (StepOut s b m kd w) := by
 have H := Lib.hid h
 clear h
 obtain ⟨y7, z7⟩ := H.out.c7
 by_cases hc : code = 0
 ·
  subst hc
  obtain ⟨y0, z0⟩ := H.out.c0
  obtain ⟨y6, z6⟩ := H.out.c6
  go_enter Tryd.func9, Tryd.ntmps9
  go_wp2_with fail
  refine wp_region_z (fun w' => w'.cell? ⟨b, 0, none⟩ = some (.string s) ∧ w'.cell? ⟨b, 6, none⟩ = some (.int .i64 (q : Int))) [0, 1, 2, 3, 4, 5, 6, 7, 8, 9] [19] (by kernel_rfl) (by kernel_rfl) (by kernel_rfl) (by rfl) (fun _ _ _ _ e h => ⟨e.symm.trans h.1, h.2⟩) ⟨y0, y6⟩ ?_
  iterate 10
   refine Heads.step (v := ?_) rfl (by first | (go_simp; done) | rfl) (fun W hW => ?_) ?_
   rotate_left
   ·
    (obtain ⟨t0, t1⟩ := hW; go_simp; try with_reducible rfl)
  refine AnyZ.one (i := 10) (by kernel_rfl) rfl (fun K hK => ?_)
  go_simp
  refine (lex_any s q _ H.out.hq (Nat.le_trans H.out.z (by omega))).mono ?_
  rintro e w1 ⟨⟨kd', at', wd', T', num', q', hok, hq1, hq2, hq3, rfl⟩, hbw⟩
  have ho1 : Only (fun _ => False) w w1 := (Only.refl _ w).drew.call hbw
  have H1 : Hid (RdF s b w1 m kd at_ wd T num q 0 fat) := Lib.hid (H.out.only ho1 (fun h => h))
  have HO1 : Hid (OnlyB b w w1) := Lib.hid (ho1.mono (fun k hk h => h.elim))
  have HT : Hid (TokOk s kd' at' wd' T' num' ∧ q ≤ q' ∧ q' ≤ s.size ∧ (kd' = 1 ∨ kd' = 2 ∨ kd' = 3 → q < q')) := Lib.hid ⟨hok, hq1, hq2, hq3⟩
  clear hbw ho1 hok hq1 hq2 hq3 y0 y6 y7 z0 z6 z7
  obtain ⟨y0, z0⟩ := H1.out.c0
  obtain ⟨y6, z6⟩ := H1.out.c6
  refine hK _ _ (fun _ => ⟨y0, y6⟩) ?_
  clear hK
  simp only [tokV]
  refine AnyZ.mid [11, 12, 13, 14, 15] [19] 4 rfl (by kernel_rfl) (by kernel_rfl) (by kernel_rfl) (fun _ _ _ _ e h => ⟨e.symm.trans h.1, h.2⟩) ⟨y0, y6⟩ ?_
  iterate 5
   refine Heads.step (v := ?_) rfl (by first | (go_simp; done) | rfl) (fun W hW => ?_) ?_
   rotate_left
   ·
    (obtain ⟨t0, t1⟩ := hW; go_simp; try with_reducible rfl)
  obtain ⟨y1, z1⟩ := H1.out.c1
  obtain ⟨y2, z2⟩ := H1.out.c2
  obtain ⟨y3, z3⟩ := H1.out.c3
  obtain ⟨y4, z4⟩ := H1.out.c4
  obtain ⟨y5, z5⟩ := H1.out.c5
  have HS1 := Lib.hid (set9_heap w1 b H1.out.h T' kd' at' wd' num')
  have HS2 := Lib.hid (set9_only w1 b (.int .i64 (kd' : Int)) (.int .i64 (at' : Int)) (.int .i64 (wd' : Int)) (.string T') (.int .u64 (num' : Int)))
  refine AnyZ.one (i := 16) (by kernel_rfl) rfl (fun K hK => ?_)
  go_simp
  clear y0 y1 y2 y3 y4 y5 y6 z0 z1 z2 z3 z4 z5 z6
  generalize ((((w1.setCell ⟨b, 1, none⟩ (.int .i64 (kd' : Int))).setCell ⟨b, 2, none⟩ (.int .i64 (at' : Int))).setCell ⟨b, 3, none⟩ (.int .i64 (wd' : Int))).setCell ⟨b, 4, none⟩ (.string T')).setCell ⟨b, 5, none⟩ (.int .u64 (num' : Int)) = w2 at *
  have y0 := cell_of_row w2 b 0 _ _ _ HS1.out
  have y6 := cell_of_row w2 b 6 _ _ _ HS1.out
  have z6 := frozen_of_row w2 b 6 _ _ HS1.out
  simp only [rdC] at y0 y6
  refine hK _ _ (fun _ => ⟨y0, y6⟩) ?_
  clear hK
  refine AnyZ.mid [17, 18] [19] 1 rfl (by kernel_rfl) (by kernel_rfl) (by kernel_rfl) (fun _ _ _ _ e h => ⟨e.symm.trans h.1, h.2⟩) ⟨y0, y6⟩ ?_
  iterate 2
   refine Heads.step (v := ?_) rfl (by first | (go_simp; done) | rfl) (fun W hW => ?_) ?_
   rotate_left
   ·
    (obtain ⟨t0, t1⟩ := hW; go_simp; try with_reducible rfl)
  have y6' : w2.cell? ⟨b, 6, none⟩ = some (.int .i64 (q : Int)) := y6
  clear y6
  have hmm := Lib.hid (rdM_step (n := s.size) (kd := kd) (kd' := kd') HT.out.2.1 HT.out.2.2.1 HT.out.2.2.2)
  have HN : Hid (StepOut s b m kd w (.returned (.tuple #[])) (w2.setCell ⟨b, 6, none⟩ (.int .i64 (q' : Int)))) := Lib.hid ⟨rfl, rdM s.size kd' q' 0, ⟨kd', at', wd', T', num', q', 0, fat, heap_setCell_same _ b 6 _ _ _ HS1.out, HT.out.1, HT.out.2.2.1, H.out.f, by omega, rfl, H.out.z⟩, (HO1.out.trans (HS2.out.mono fun k _ h => h)).setCell (p := ⟨b, 6, none⟩) (fun _ => rfl) _, by rw [H.out.hm]; exact hmm.out.1, fun _ => rdM_pos, fun h _ => by rw [H.out.hm]; exact hmm.out.2 h⟩
  clear hmm
  refine AnyZ.one (i := 19) (by kernel_rfl) rfl (fun K hK => ?_)
  go_simp
  refine hK _ _ (fun h => by cases h) ?_
  clear hK
  refine AnyZ.done (by kernel_rfl) ?_
  go_wp2_with fail
  go_end0
  exact HN.out
 ·
  have hci : ((code : Int) == 0) = false := by rw [beq_eq_false_iff_ne]; omega
  have HC := Lib.hid hc
  clear hc
  have hm0 : m = 0 := H.out.hm.trans (rdM_bad HC.out)
  have HN : Hid (StepOut s b m kd w (.returned (.tuple #[])) w) := Lib.hid ⟨rfl, m, ⟨kd, at_, wd, T, num, q, code, fat, H.out⟩, Only.refl _ w, by omega, fun h => h, fun _ h => by omega⟩
  clear hm0
  go_enter Tryd.func9, Tryd.ntmps9
  go_wp2_with fail
  go_end0
  exact HN.out
end Go.Proofs.YtbdcpealkllfnaaDoor
