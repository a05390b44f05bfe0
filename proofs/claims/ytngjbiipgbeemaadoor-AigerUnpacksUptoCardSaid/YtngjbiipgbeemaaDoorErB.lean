/- errors.as and errors.As at a *Fault, api.Code, walked. Condition: errors.errorType is laid as the program lays it. -/
import Derived.Test.YtngjbiipgbeemaaDoorErA
import Derived.Lib.Hide
import Derived.Deep.DeepCutAuto
import Derived.Test.YtngjbiipgbeemaaDoorDrawn2
namespace Go.Proofs.YtngjbiipgbeemaaDoor
open Go.RowKit Go.Extern.Stop Go.Stop Go.Extern

theorem er_mAssign (h : Value) (w : World) : (Go.method 279 125 (.agg #[h]) "AssignableTo").run Tryd.prog w = .ok (101, .agg #[h]) w := by kernel_rfl
theorem er_mElem (h : Value) (w : World) : (Go.method 279 125 (.agg #[h]) "Elem").run Tryd.prog w = .ok (103, .agg #[h]) w := by kernel_rfl
theorem er_mImpl (h : Value) (w : World) : (Go.method 279 125 (.agg #[h]) "Implements").run Tryd.prog w = .ok (104, .agg #[h]) w := by kernel_rfl
theorem er_mKind (h : Value) (w : World) : (Go.method 279 125 (.agg #[h]) "Kind").run Tryd.prog w = .ok (93, h) w := by kernel_rfl

set_option maxRecDepth 100000 in
set_option maxHeartbeats 4000000 in
theorem er_as (e t a : Addr) (old : Value) (w : World) (ha : w.cell? a = some (.pointer (some t))) (ht0 : w.cell? t = some old) (hf0 : w.frozen? t = false) :
    Calls Tryd.prog 57 #[.iface 59 (.pointer (some e)), .iface 101 (.pointer (some t)), .agg #[.pointer (some ⟨4, 101, none⟩), .pointer (some a), .int .u64 150], .iface 125 (.agg #[.pointer (some ⟨4, 59, none⟩)])] w fun ev w' => ev = .returned (.bool true) ∧
      w' = ((w.alloc (.cells #[.pointer (some ⟨4, 101, none⟩), .pointer (some a), .int .u64 150] 112)).alloc (.cells #[.pointer (some e)] 59)).setCell t (.pointer (some e)) := by
  have hTO := @run_callFunc_extern Tryd.prog 64 _ ReflectliteType.typeOf Tryd.func64 (by kernel_rfl) (by kernel_rfl) (by kernel_rfl) (by kernel_rfl)
  have hAT := @run_callFunc_extern Tryd.prog 101 _ (ReflectliteType.relation "AssignableTo" ReflectliteType.assignableTo) Tryd.func101 (by kernel_rfl) (by kernel_rfl) (by kernel_rfl) (by kernel_rfl)
  have hEL := @run_callFunc_extern Tryd.prog 65 _ (ReflectliteValue.method (ReflectliteValue.valueError "reflectlite.Value.Elem" 0) ReflectliteValue.elem) Tryd.func65 (by kernel_rfl) (by kernel_rfl) (by kernel_rfl) (by kernel_rfl)
  have hVO := @run_callFunc_extern Tryd.prog 54 _ (fun args => ReflectliteValue.unpack (args.getD 0 (.tuple #[]))) Tryd.func54 (by kernel_rfl) (by kernel_rfl) (by kernel_rfl) (by kernel_rfl)
  have hSE := @run_callFunc_extern Tryd.prog 66 _ ReflectliteValue.set Tryd.func66 (by kernel_rfl) (by kernel_rfl) (by kernel_rfl) (by kernel_rfl)
  have tO := er_typeOfP
  have mA := er_mAssign
  have a25 := er_assignable
  have v25 := er_valueOfP
  have htl : t.block < w.heap.size := World.block_lt_of_cell? w t ht0
  have hal : a.block < w.heap.size := World.block_lt_of_cell? w a ha
  have el := er_elemV a t (w.alloc (.cells #[.pointer (some ⟨4, 101, none⟩), .pointer (some a), .int .u64 150] 112)) (by rw [World.cell?_alloc_lt _ _ a hal]; exact ha)
  have st := er_setV t ⟨w.heap.size + 1, 0, none⟩ e old ((w.alloc (.cells #[.pointer (some ⟨4, 101, none⟩), .pointer (some a), .int .u64 150] 112)).alloc (.cells #[.pointer (some e)] 59))
    (by rw [World.cell?_alloc_at _ _ _ _ (by simp)]; rfl)
    (by rw [World.cell?_alloc_lt _ _ t (by simp; omega), World.cell?_alloc_lt _ _ t htl]; exact ht0)
    (by rw [World.frozen?_alloc_old _ _ t (by simp; omega), World.frozen?_alloc_old _ _ t (Nat.ne_of_lt htl)]; exact hf0)
  go_enter Tryd.func57, Tryd.ntmps57
  go_wp2
  refine wp_loop_rounds 1 ?_
  rw [rounds_succ]
  go_wp2
  go_ret
  exact ⟨rfl, rfl⟩

/-- errors.errorType, as the program lays it -/
def ErrT (w : World) : Prop := w.cell? ⟨0, 0, none⟩ = some (.iface 125 (.agg #[.pointer (some ⟨4, 34, none⟩)]))
theorem ErrT.keeps {w w1 : World} (h : ErrT w) (k : Keeps w w1) : ErrT w1 := k _ _ h

set_option maxRecDepth 100000 in
set_option maxHeartbeats 8000000 in
theorem er_As (e t : Addr) (old : Value) (w : World) (hg : ErrT w) (ht0 : w.cell? t = some old) (hf0 : w.frozen? t = false) :
    Calls Tryd.prog 45 #[.iface 59 (.pointer (some e)), .iface 101 (.pointer (some t))] w fun ev w' => ev = .returned (.bool true) ∧ ∃ w4, Below w.heap.size w w4 ∧ w' = w4.setCell t (.pointer (some e)) := by
  have htl : t.block < w.heap.size := World.block_lt_of_cell? w t ht0
  have HG := Lib.hid hg
  have hVO := @run_callFunc_extern Tryd.prog 54 _ (fun args => ReflectliteValue.unpack (args.getD 0 (.tuple #[]))) Tryd.func54 (by kernel_rfl) (by kernel_rfl) (by kernel_rfl) (by kernel_rfl)
  have hTY := @run_callFunc_extern Tryd.prog 55 _ (ReflectliteValue.methodAny (ReflectliteValue.valueError "reflectlite.Value.Type" 0) (fun t _ _ _ => ReflectliteType.toType t)) Tryd.func55 (by kernel_rfl) (by kernel_rfl) (by kernel_rfl) (by kernel_rfl)
  have hNI := @run_callFunc_extern Tryd.prog 56 _ (ReflectliteValue.method (ReflectliteValue.valueError "reflectlite.Value.IsNil" 0) ReflectliteValue.isNil) Tryd.func56 (by kernel_rfl) (by kernel_rfl) (by kernel_rfl) (by kernel_rfl)
  have hKI := @run_callFunc_extern Tryd.prog 93 _ (ReflectliteType.abiMethod fun t => do pure (.int .u8 (← Rtype.kind t))) Tryd.func93 (by kernel_rfl) (by kernel_rfl) (by kernel_rfl) (by kernel_rfl)
  have hRE := @run_callFunc_extern Tryd.prog 103 _ (ReflectliteType.method ReflectliteType.elem) Tryd.func103 (by kernel_rfl) (by kernel_rfl) (by kernel_rfl) (by kernel_rfl)
  have hIM := @run_callFunc_extern Tryd.prog 104 _ (ReflectliteType.relation "Implements" ReflectliteType.implements_) Tryd.func104 (by kernel_rfl) (by kernel_rfl) (by kernel_rfl) (by kernel_rfl)
  have f6 := er_valueOfPP
  have f7 := er_typePP
  have mK := er_mKind
  have mE := er_mElem
  have mI := er_mImpl
  have k27 := er_kindPP
  have k25 := er_kindP
  have e27 := er_elemTPP
  have i25 := er_implements
  have hk2 : Keeps w ((w.alloc (.cells #[.pointer (some t)] 101)).alloc (.cells #[.pointer (some ⟨4, 101, none⟩), .pointer (some ⟨w.heap.size, 0, none⟩), .int .u64 150] 112)) := (Keeps.alloc _ _).trans (Keeps.alloc _ _)
  have n8 := er_isNilPP ⟨w.heap.size, 0, none⟩ t ((w.alloc (.cells #[.pointer (some t)] 101)).alloc (.cells #[.pointer (some ⟨4, 101, none⟩), .pointer (some ⟨w.heap.size, 0, none⟩), .int .u64 150] 112)) (by simp)
  have hg2 := hg.keeps hk2
  unfold ErrT at hg2
  have HT := Lib.hid (hk2 _ _ ht0)
  have HF : Hid (((w.alloc (.cells #[.pointer (some t)] 101)).alloc (.cells #[.pointer (some ⟨4, 101, none⟩), .pointer (some ⟨w.heap.size, 0, none⟩), .int .u64 150] 112)).frozen? t = false) := Lib.hid (by
    rw [World.frozen?_alloc_old _ _ t (by simp; omega), World.frozen?_alloc_old _ _ t (Nat.ne_of_lt htl)]; exact hf0)
  have HB := Lib.hid (((Below.refl w.heap.size w).alloc (Nat.le_refl _) (.cells #[.pointer (some t)] 101)).alloc (by simp) (.cells #[.pointer (some ⟨4, 101, none⟩), .pointer (some ⟨w.heap.size, 0, none⟩), .int .u64 150] 112))
  clear hk2 hg ht0 hf0
  go_enter Tryd.func45, Tryd.ntmps45
  go_wp2_with fail
  refine (er_as e t ⟨w.heap.size, 0, none⟩ old _ (by simp) HT.out HF.out).mono ?_
  rintro ev w3 ⟨rfl, rfl⟩
  go_wp2_with fail
  go_ret
  exact ⟨rfl, _, (HB.out.alloc (by simp; omega) _).alloc (by simp; omega) _, rfl⟩

set_option maxHeartbeats 4000000 in
theorem code_nil (w : World) : Calls Tryd.prog 28 #[.nilIface] w fun e w' => e = .returned (.tuple #[.int .i64 0, .int .i64 0]) ∧ w' = w := by
  go_enter Tryd.func28, Tryd.ntmps28
  go_wp2
  go_ret2
  exact ⟨rfl, rfl⟩

set_option maxHeartbeats 8000000 in
theorem code_fault (b o : Nat) (x y : Int) (w : World) (hg : ErrT w) (hx : w.cell? ⟨b, o, none⟩ = some (.int .i64 x)) (hy : w.cell? ⟨b, o + 1, none⟩ = some (.int .i64 y)) :
    Calls Tryd.prog 28 #[.iface 59 (.pointer (some ⟨b, o, none⟩))] w fun e w' => e = .returned (.tuple #[.int .i64 x, .int .i64 y]) ∧ Below w.heap.size w w' := by
  have HX := Lib.hid hx; have HY := Lib.hid hy; have HG := Lib.hid hg
  have hbl : b < w.heap.size := World.block_lt_of_cell? w _ hx
  clear hx hy hg
  go_enter Tryd.func28, Tryd.ntmps28
  go_wp2_with fail
  refine (er_As ⟨b, o, none⟩ ⟨w.heap.size, 0, none⟩ (.pointer none) _ (HG.out.keeps (Keeps.alloc _ _)) (by simp) (by simp)).mono ?_
  rintro ev w5 ⟨rfl, w4, hb4, rfl⟩
  have hz4 : w.heap.size + 1 ≤ w4.heap.size := by have := hb4.size; simpa using this
  have hc4 : w4.cell? ⟨w.heap.size, 0, none⟩ = some (.pointer none) := (hb4.cell (p := ⟨w.heap.size, 0, none⟩) (by simp)).trans (by simp)
  have hk4 : Keeps w w4 := (Keeps.alloc w _).trans (Keeps.of_below hb4)
  have hf : (w4.setCell ⟨w.heap.size, 0, none⟩ (.pointer (some ⟨b, o, none⟩))).cell? ⟨w.heap.size, 0, none⟩ = some (.pointer (some ⟨b, o, none⟩)) := World.cell?_setCell_same' _ _ _ (by rw [hc4]; rfl)
  have h0 : (w4.setCell ⟨w.heap.size, 0, none⟩ (.pointer (some ⟨b, o, none⟩))).cell? ⟨b, o, none⟩ = some (.int .i64 x) := by
    rw [World.cell?_of_block (Below.heap_setCell _ _ _ _ (by simp; omega))]; exact hk4 _ _ HX.out
  have h1 : (w4.setCell ⟨w.heap.size, 0, none⟩ (.pointer (some ⟨b, o, none⟩))).cell? ⟨b, o + 1, none⟩ = some (.int .i64 y) := by
    rw [World.cell?_of_block (Below.heap_setCell _ _ _ _ (by simp; omega))]; exact hk4 _ _ HY.out
  have HB : Hid (Below w.heap.size w (w4.setCell ⟨w.heap.size, 0, none⟩ (.pointer (some ⟨b, o, none⟩)))) := Lib.hid ((((Below.refl w.heap.size w).alloc (Nat.le_refl _) _).trans (hb4.mono (by simp))).setCell (p := ⟨w.heap.size, 0, none⟩) (Nat.le_refl _) _)
  clear hb4 hc4 hk4 hz4
  generalize w4.setCell ⟨w.heap.size, 0, none⟩ (.pointer (some ⟨b, o, none⟩)) = v at *
  go_wp2_with fail
  refine wp_region_z (fun w' => w'.cell? ⟨w.heap.size, 0, none⟩ = some (.pointer (some ⟨b, o, none⟩)) ∧ w'.cell? ⟨b, o, none⟩ = some (.int .i64 x) ∧ w'.cell? ⟨b, o + 1, none⟩ = some (.int .i64 y)) [0, 1, 2, 3, 4, 5, 6, 7, 8, 9] [] (by kernel_rfl) (by kernel_rfl) (by kernel_rfl) (by rfl) (fun _ _ _ _ e h => ⟨e.symm.trans h.1, h.2⟩) ⟨hf, h0, h1⟩ ?_
  iterate 10
    refine Heads.step (v := ?_) rfl (by first | (go_simp; done) | rfl) (fun W hW => ?_) ?_
    rotate_left
    · (obtain ⟨t0, t1, t2⟩ := hW; go_simp; try with_reducible rfl)
  refine AnyZ.done (by kernel_rfl) ?_
  go_simp
  clear hf h0 h1
  go_wp2_with fail
  go_ret2
  exact ⟨rfl, HB.out.drew⟩
end Go.Proofs.YtngjbiipgbeemaaDoor
