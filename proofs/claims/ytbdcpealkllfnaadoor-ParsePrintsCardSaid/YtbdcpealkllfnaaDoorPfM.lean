/- A map from two Booleans to texts, as a literal, and what is looked up in it. No condition. -/
import Derived.Test.YtbdcpealkllfnaaDoorPfT
import Derived.WideMake
namespace Go.Proofs.YtbdcpealkllfnaaDoor
open Go.RowKit Go.Deep

def oneM (s1 : ByteArray) : Obj := .map #[{ key := .bool true, val := .string s1, born := 0 }] 1
def twoM (s1 s2 : ByteArray) : Obj := .map #[{ key := .bool true, val := .string s1, born := 0 }, { key := .bool false, val := .string s2, born := 1 }] 2
theorem ck_bool (w : World) (b e : Bool) : (Instr.checkKey e 10000 4 (.bool b)).run Tryd.prog w = .ok () w := MapKept.run_checkKey (k := .bool b) Tryd.underlying4 (by simp [MapKept.IsKey]) e 9999
theorem run_ins1 {w : World} {r : Nat} {s : ByteArray} (h : w.heap[r]? = some (.map #[] 0)) : (Instr.mapUpdate 67 (.map (some r)) (.bool true) (.string s)).run Tryd.prog w = .ok () { w with heap := w.heap.setIfInBounds r (oneM s) } := by
 have hf : Instr.findNow .bool (.bool true) ([] : List MapEntry) 0 = some none := rfl
 simp [Instr.mapUpdate, run_underlying (P := Tryd.prog) Tryd.underlying67, MapKept.run_getObj_map h, ck_bool, MapKept.run_findKey Tryd.underlying4 hf, MapKept.run_setObj_map _ h, Result.andThen, oneM]
theorem run_ins2 {w : World} {r : Nat} {s s2 : ByteArray} (h : w.heap[r]? = some (oneM s)) : (Instr.mapUpdate 67 (.map (some r)) (.bool false) (.string s2)).run Tryd.prog w = .ok () { w with heap := w.heap.setIfInBounds r (twoM s s2) } := by
 have hf : Instr.findNow .bool (.bool false) ([{ key := .bool true, val := .string s, born := 0 }] : List MapEntry) 0 = some none := rfl
 unfold oneM at h
 simp [Instr.mapUpdate, run_underlying (P := Tryd.prog) Tryd.underlying67, MapKept.run_getObj_map h, ck_bool, MapKept.run_findKey Tryd.underlying4 hf, MapKept.run_setObj_map _ h, Result.andThen, twoM]
theorem run_look {w : World} {r : Nat} {s s2 : ByteArray} (h : w.heap[r]? = some (twoM s s2)) (b : Bool) : (Instr.lookup 67 (.map (some r)) (.bool b) false).run Tryd.prog w = .ok (.string (if b = true then s else s2)) w := by
 unfold twoM at h
 cases b with
 | true =>
  have hf : Instr.findNow .bool (.bool true) ([{ key := .bool true, val := .string s, born := 0 }, { key := .bool false, val := .string s2, born := 1 }] : List MapEntry) 0 = some (some (0, .string s)) := rfl
  simp [Instr.lookup, run_underlying (P := Tryd.prog) Tryd.underlying67, MapKept.run_getObj_map h, ck_bool, MapKept.run_findKey Tryd.underlying4 hf, Result.andThen]
 | false =>
  have hf : Instr.findNow .bool (.bool false) ([{ key := .bool true, val := .string s, born := 0 }, { key := .bool false, val := .string s2, born := 1 }] : List MapEntry) 0 = some (some (1, .string s2)) := rfl
  simp [Instr.lookup, run_underlying (P := Tryd.prog) Tryd.underlying67, MapKept.run_getObj_map h, ck_bool, MapKept.run_findKey Tryd.underlying4 hf, Result.andThen]
section
variable {ops : Array Oper} {Q : Exit → Act → World → Prop} {o o1 o2 o3 : Oper} {os : List Oper} {a : Act} {w : World}
theorem set_only {S : Nat → Prop} {w w1 : World} (h : Only S w w1) {r : Nat} (hr : r < w.heap.size → S r) (o : Obj) : Only S w { w1 with heap := w1.heap.setIfInBounds r o } :=
 ⟨h.os, h.tape, h.output, by simpa using h.size, fun k hk hn => by
  have : r ≠ k := fun e => hn (by subst e; exact hr hk)
  simp only [Array.getElem?_setIfInBounds_ne this]
  exact h.block k hk hn⟩
theorem wpl_map2 (hg1 : o1.guard = none) (hg2 : o2.guard = none) (hg3 : o3.guard = none) (d : Tmp) (h1 : o1.op = .makeMap 67 none) (hd1 : o1.dst = some d) (s1 s2 : ByteArray) (h2 : o2.op = .insert 67 (.tmp d) (.const (.bool true)) (.const (.string s1))) (hd2 : o2.dst = none)
  (h3 : o3.op = .insert 67 (.tmp d) (.const (.bool false)) (.const (.string s2))) (hd3 : o3.dst = none) (hx : ∀ r, (a.put (some d) (.map (some r))).eval (.tmp d) = .map (some r))
  (h : Hld (∀ w' r, Hid (w'.heap[r]? = some (twoM s1 s2)) → Hid (Only (fun _ => False) w w') → w.heap.size ≤ r → wpList Tryd.prog ops Q os (a.put (some d) (.map (some r))) w')) : wpList Tryd.prog ops Q (o1 :: o2 :: o3 :: os) a w := by
 have c1 : (a.put (some d) (.map (some w.heap.size))).eval (.const (.bool true)) = .bool true := rfl
 have c2 : (a.put (some d) (.map (some w.heap.size))).eval (.const (.bool false)) = .bool false := rfl
 have c3 : (a.put (some d) (.map (some w.heap.size))).eval (.const (.string s1)) = .string s1 := rfl
 have c4 : (a.put (some d) (.map (some w.heap.size))).eval (.const (.string s2)) = .string s2 := rfl
 have k0 : (w.alloc (.map #[] 0)).heap[w.heap.size]? = some (.map #[] 0) := heap_alloc_new w _
 have q0 : Only (fun _ => False) w (w.alloc (.map #[] 0)) := (Only.refl _ w).alloc _
 refine wpList_plain hg1 fun K1 hK1 => ?_
 unfold Oper.wp execOp
 simp only [h1, Option.map_none, Sem.run_bind, run_makeMap_plain, Result.andThen_ok, Sem.run_pure]
 refine hK1 _ _ ?_
 rw [hd1]
 generalize w.alloc (.map #[] 0) = wA at *
 refine wpList_plain hg2 fun K2 hK2 => ?_
 unfold Oper.wp execOp
 simp only [h2, hx, c1, c3, Sem.run_bind, run_ins1 k0, Result.andThen_ok, Sem.run_pure]
 refine hK2 _ _ ?_
 rw [hd2]
 have hlt : w.heap.size < wA.heap.size := (Array.getElem?_eq_some_iff.1 k0).1
 have k1 : ({ wA with heap := wA.heap.setIfInBounds w.heap.size (oneM s1) } : World).heap[w.heap.size]? = some (oneM s1) := by simp [hlt]
 have q1 := set_only q0 (r := w.heap.size) (fun h => by omega) (oneM s1)
 generalize ({ wA with heap := wA.heap.setIfInBounds w.heap.size (oneM s1) } : World) = wB at *
 refine wpList_plain hg3 fun K3 hK3 => ?_
 unfold Oper.wp execOp
 show Oper.upon _ _ _ _ _ _
 simp only [h3]
 have e1 : ∀ v, (a.put (some d) (.map (some w.heap.size))).put none v = a.put (some d) (.map (some w.heap.size)) := fun _ => rfl
 simp only [e1, hx, c2, c4, Sem.run_bind, run_ins2 k1, Result.andThen_ok, Sem.run_pure]
 refine hK3 _ _ ?_
 rw [hd3]
 have hlt2 : w.heap.size < wB.heap.size := (Array.getElem?_eq_some_iff.1 k1).1
 exact h.out _ w.heap.size (Lib.hid (by simp [hlt2])) (Lib.hid (set_only q1 (r := w.heap.size) (fun h => by omega) (twoM s1 s2))) (Nat.le_refl _)
theorem PS.map {B b r : Nat} {l : LB} {w w1 : World} (h : PS B b l w w1) {s1 s2 : ByteArray} (hk : w.heap[r]? = some (twoM s1 s2)) (hr : r ≠ b) : w1.heap[r]? = some (twoM s1 s2) :=
 h.oth r _ hk (by simpa using hr) (fun c fz e => by unfold twoM at e; cases e)
theorem PS.neM {B b r : Nat} {l : LB} {w w1 : World} (h : PS B b l w w1) {s1 s2 : ByteArray} (hk : w1.heap[r]? = some (twoM s1 s2)) : r ≠ b := fun e => by
 subst e
 obtain ⟨cur, hb⟩ := h.box
 rw [hk] at hb
 injection hb with hb
 unfold twoM at hb
 cases hb
theorem Uni.look {P : Program} {S : World → Prop} {x y : Operand} {r : Nat} {s1 s2 z : List UInt8} {bb : Bool} (hP : P = Tryd.prog) (hg : Region.wanted o (yielded ops a.tmps) = true) (hop : o.op = .lookup 67 x y false) (hx : a.eval x = .map (some r)) (hy : a.eval y = .bool bb) (hS : ∀ w, S w → w.heap[r]? = some (twoM (bstr s1) (bstr s2))) (hz : (if bb = true then s1 else s2) = z) : Uni P ops S S o (.string (bstr z)) a :=
 .run hg fun w hw => by
  subst hP
  have e : (if bb = true then bstr s1 else bstr s2) = bstr z := by rw [← hz]; cases bb <;> rfl
  simp only [execOp, hop, hx, hy, Sem.run_bind, run_look (hS w hw) bb, e, Result.andThen_ok, Sem.run_pure]
theorem uB {S : World → Prop} {ts : List Value} {x y : Operand} {r : Nat} {s1 s2 z : List UInt8} {bb : Bool} (hS : ∀ w, S w → w.heap[r]? = some (twoM (bstr s1) (bstr s2))) (hz : (if bb = true then s1 else s2) = z) (hop : o.op = .lookup 67 x y false := by rfl) (hx : evT ts x = .map (some r) := by rfl) (hy : evT ts y = .bool bb := by rfl) (hg : o.guard = none := by rfl) : UT Tryd.prog ops S S o (.string (bstr z)) ts := fun _ => Uni.look rfl (wan hg _) hop ((evT_eq x).trans hx) ((evT_eq y).trans hy) hS hz
end
end Go.Proofs.YtbdcpealkllfnaaDoor
