/- place's placer: its box; an array that is filled. No condition. -/
import Derived.Test.YtlmcbhmaccncbaaDoorPcS
import Derived.Test.YtlmcbhmaccncbaaDoorDepD
import Derived.Test.YtlmcbhmaccncbaaDoorApS
namespace Go.Proofs.YtlmcbhmaccncbaaDoor
open Go.RowKit

theorem heap_below0 {W W' : World} (h : Below W.heap.size W W') {B : Nat} {o : Obj} (hb : W.heap[B]? = some o) : W'.heap[B]? = some o := (h.block B (Array.getElem?_eq_some_iff.1 hb).1).trans hb
/-- where a net of tables lies -/
structure Ta where
  A1 : Option Addr
  A2 : Option Addr
  A3 : Option Addr
  A4 : Option Addr
  c1 : Nat
  c2 : Nat
  c3 : Nat
  c4 : Nat
def plO (g : Tb) (a : Ta) (s : Nat → Int) (fst : Int) (dp lp : Value) (bm : Nat) : Obj :=
  .cells #[.int .i64 g.ins, .slice a.A1 g.n1 a.c1, .slice a.A2 g.n2 a.c2, .slice a.A3 g.n3 a.c3, .slice a.A4 g.n4 a.c4, .int .i64 (s 0), .int .i64 (s 1), .int .i64 (s 2), .int .i64 (s 3), .int .i64 (s 4), .int .i64 fst, dp, lp, .map (some bm)] 56
section
variable {g : Tb} {a : Ta} {s : Nat → Int} {fst : Int} {dp lp : Value} {bm P : Nat} {W : World}
theorem pl_cell (h : W.heap[P]? = some (plO g a s fst dp lp bm)) : (W.cell? ⟨P, 0, none⟩ = some (.int .i64 g.ins) ∧ W.cell? ⟨P, 1, none⟩ = some (.slice a.A1 g.n1 a.c1) ∧ W.cell? ⟨P, 2, none⟩ = some (.slice a.A2 g.n2 a.c2) ∧ W.cell? ⟨P, 3, none⟩ = some (.slice a.A3 g.n3 a.c3) ∧ W.cell? ⟨P, 4, none⟩ = some (.slice a.A4 g.n4 a.c4)) ∧
    (W.cell? ⟨P, 8, none⟩ = some (.int .i64 (s 3)) ∧ W.cell? ⟨P, 9, none⟩ = some (.int .i64 (s 4))) ∧ W.cell? ⟨P, 10, none⟩ = some (.int .i64 fst) ∧ W.cell? ⟨P, 11, none⟩ = some dp ∧ W.cell? ⟨P, 12, none⟩ = some lp ∧ W.cell? ⟨P, 13, none⟩ = some (.map (some bm)) := by
  refine ⟨⟨?_, ?_, ?_, ?_, ?_⟩, ⟨?_, ?_⟩, ?_, ?_, ?_, ?_⟩
  all_goals (rw [cell_of_row W P _ _ _ _ h]; rfl)
theorem pl_thaw (h : W.heap[P]? = some (plO g a s fst dp lp bm)) (j : Nat) : W.frozen? ⟨P, j, none⟩ = false := by
  unfold plO at h
  simp [World.frozen?, h]
theorem pl_set10 {f' : Int} (h : W.heap[P]? = some (plO g a s fst dp lp bm)) : (W.setCell ⟨P, 10, none⟩ (.int .i64 f')).heap[P]? = some (plO g a s f' dp lp bm) := by
  unfold plO at h ⊢
  rw [show (W.setCell ⟨P, 10, none⟩ (.int .i64 f')).heap[P]? = _ from by simp only [World.setCell, Array.getElem?_modify, if_true, h]; rfl]
  simp
theorem pl_set11 {v : Value} (h : W.heap[P]? = some (plO g a s fst dp lp bm)) : (W.setCell ⟨P, 11, none⟩ v).heap[P]? = some (plO g a s fst v lp bm) := by
  unfold plO at h ⊢
  rw [show (W.setCell ⟨P, 11, none⟩ v).heap[P]? = _ from by simp only [World.setCell, Array.getElem?_modify, if_true, h]; rfl]
  simp
theorem pl_set12 {v : Value} (h : W.heap[P]? = some (plO g a s fst dp lp bm)) : (W.setCell ⟨P, 12, none⟩ v).heap[P]? = some (plO g a s fst dp v bm) := by
  unfold plO at h ⊢
  rw [show (W.setCell ⟨P, 12, none⟩ v).heap[P]? = _ from by simp only [World.setCell, Array.getElem?_modify, if_true, h]; rfl]
  simp
end
/-- an array of ints -/
def Ints (w : World) (b n : Nat) (L : Nat → Int) : Prop := Arr w b 3 n (fun x => .int .i64 (L x))
theorem Ints.upd {w : World} {b n : Nat} {L : Nat → Int} (h : Ints w b n L) (x : Nat) (v : Int) : Ints (w.setCell ⟨b, x, none⟩ (.int .i64 v)) b n (upd L x v) :=
  Arr.set h (fun j _ hj => by rw [upd_ne _ _ _ hj]) (by rw [upd_at])
theorem Ints.congr {w : World} {b n : Nat} {L L' : Nat → Int} (h : Ints w b n L) (e : ∀ x, x < n → L' x = L x) : Ints w b n L' := Arr.congr h (fun j hj => by rw [e j hj])
theorem two_slices (A B : Option Addr) (n m c d j : Nat) (w : World) (hj : j < 2) : (Instr.index 79 (.agg #[.slice A n c, .slice B m d]) (.int .i64 j)).run Tryd.prog w = .ok (if j = 0 then .slice A n c else .slice B m d) w := by
  obtain rfl | rfl : j = 0 ∨ j = 1 := by omega
  all_goals simp [Instr.index, run_underlying Tryd.underlying79, asIntOf, go_sem]
theorem run_max2 (w : World) (ts : Array TypeId) (t : TypeId) (x y : Int) : (Builtin.max_ ts t #[.int .i64 x, .int .i64 y]).run Tryd.prog w = .ok (.int .i64 (max x y)) w := by
  have e : (if y > x then y else x) = max x y := by
    rw [Int.max_def]
    split <;> split <;> omega
  simp [Builtin.max_, Builtin.max2, e]
theorem mk_ints (n : Nat) (hn : n ≤ 35000000000000) (W : World) : (Instr.makeSlice 24 (.int .i64 (n : Int)) (.int .i64 (n : Int))).run Tryd.prog W = .ok (.slice (some ⟨W.heap.size, 0, none⟩) n n) (W.alloc (.cells (madeCells #[.int .i64 0] n) 3)) := by
  have h := run_mk Tryd.underlying24 zeroI .i64 .i64 (n : Int) (n : Int) (by omega) (by omega) (by omega) (by omega) W
  simpa [Value.cells] using h
end Go.Proofs.YtlmcbhmaccncbaaDoor
