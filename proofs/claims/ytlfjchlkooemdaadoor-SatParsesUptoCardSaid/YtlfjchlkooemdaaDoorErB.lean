/- errors.as and errors.As at a *Fault, api.Code, walked. Condition: errors.errorType is laid as the program lays it. -/
import Derived.Test.YtlfjchlkooemdaaDoorErA
import Derived.Lib.Hide
import Derived.Deep.DeepCutAuto
import Derived.Test.YtlfjchlkooemdaaDoorDrawn2
namespace Go.Proofs.YtlfjchlkooemdaaDoor
open Go.RowKit Go.Extern.Stop Go.Stop Go.Extern

theorem er_mAssign (h : Value) (w : World) : (Go.method 242 95 (.agg #[h]) "AssignableTo").run Tryd.prog w = .ok (71, .agg #[h]) w := by kernel_rfl
theorem er_mElem (h : Value) (w : World) : (Go.method 242 95 (.agg #[h]) "Elem").run Tryd.prog w = .ok (73, .agg #[h]) w := by kernel_rfl
theorem er_mImpl (h : Value) (w : World) : (Go.method 242 95 (.agg #[h]) "Implements").run Tryd.prog w = .ok (74, .agg #[h]) w := by kernel_rfl
theorem er_mKind (h : Value) (w : World) : (Go.method 242 95 (.agg #[h]) "Kind").run Tryd.prog w = .ok (63, h) w := by kernel_rfl

set_option maxRecDepth 100000 in
set_option maxHeartbeats 4000000 in
theorem er_as (e t a : Addr) (old : Value) (w : World) (ha : w.cell? a = some (.pointer (some t))) (ht0 : w.cell? t = some old) (hf0 : w.frozen? t = false) :
    Calls Tryd.prog 38 #[.iface 40 (.pointer (some e)), .iface 65 (.pointer (some t)), .agg #[.pointer (some ⟨4, 65, none⟩), .pointer (some a), .int .u64 150], .iface 95 (.agg #[.pointer (some ⟨4, 40, none⟩)])] w fun ev w' => ev = .returned (.bool true) ∧
      w' = ((w.alloc (.cells #[.pointer (some ⟨4, 65, none⟩), .pointer (some a), .int .u64 150] 78)).alloc (.cells #[.pointer (some e)] 40)).setCell t (.pointer (some e)) := by
  have hTO := @run_callFunc_extern Tryd.prog 45 _ ReflectliteType.typeOf Tryd.func45 (by kernel_rfl) (by kernel_rfl) (by kernel_rfl) (by kernel_rfl)
  have hAT := @run_callFunc_extern Tryd.prog 71 _ (ReflectliteType.relation "AssignableTo" ReflectliteType.assignableTo) Tryd.func71 (by kernel_rfl) (by kernel_rfl) (by kernel_rfl) (by kernel_rfl)
  have hEL := @run_callFunc_extern Tryd.prog 46 _ (ReflectliteValue.method (ReflectliteValue.valueError "reflectlite.Value.Elem" 0) ReflectliteValue.elem) Tryd.func46 (by kernel_rfl) (by kernel_rfl) (by kernel_rfl) (by kernel_rfl)
  have hVO := @run_callFunc_extern Tryd.prog 35 _ (fun args => ReflectliteValue.unpack (args.getD 0 (.tuple #[]))) Tryd.func35 (by kernel_rfl) (by kernel_rfl) (by kernel_rfl) (by kernel_rfl)
  have hSE := @run_callFunc_extern Tryd.prog 47 _ ReflectliteValue.set Tryd.func47 (by kernel_rfl) (by kernel_rfl) (by kernel_rfl) (by kernel_rfl)
  have tO := er_typeOfP
  have mA := er_mAssign
  have a25 := er_assignable
  have v25 := er_valueOfP
  have htl : t.block < w.heap.size := World.block_lt_of_cell? w t ht0
  have hal : a.block < w.heap.size := World.block_lt_of_cell? w a ha
  have el := er_elemV a t (w.alloc (.cells #[.pointer (some ⟨4, 65, none⟩), .pointer (some a), .int .u64 150] 78)) (by rw [World.cell?_alloc_lt _ _ a hal]; exact ha)
  have st := er_setV t ⟨w.heap.size + 1, 0, none⟩ e old ((w.alloc (.cells #[.pointer (some ⟨4, 65, none⟩), .pointer (some a), .int .u64 150] 78)).alloc (.cells #[.pointer (some e)] 40))
    (by rw [World.cell?_alloc_at _ _ _ _ (by simp)]; rfl)
    (by rw [World.cell?_alloc_lt _ _ t (by simp; omega), World.cell?_alloc_lt _ _ t htl]; exact ht0)
    (by rw [World.frozen?_alloc_old _ _ t (by simp; omega), World.frozen?_alloc_old _ _ t (Nat.ne_of_lt htl)]; exact hf0)
  go_enter Tryd.func38, Tryd.ntmps38
  go_wp2
  refine wp_loop_rounds 1 ?_
  rw [rounds_succ]
  go_wp2
  go_ret
  exact ⟨rfl, rfl⟩

/-- errors.errorType, as the program lays it -/
def ErrT (w : World) : Prop := w.cell? ⟨0, 0, none⟩ = some (.iface 95 (.agg #[.pointer (some ⟨4, 27, none⟩)]))
theorem ErrT.keeps {w w1 : World} (h : ErrT w) (k : Keeps w w1) : ErrT w1 := k _ _ h

set_option maxRecDepth 100000 in
set_option maxHeartbeats 8000000 in
theorem er_As (e t : Addr) (old : Value) (w : World) (hg : ErrT w) (ht0 : w.cell? t = some old) (hf0 : w.frozen? t = false) :
    Calls Tryd.prog 24 #[.iface 40 (.pointer (some e)), .iface 65 (.pointer (some t))] w fun ev w' => ev = .returned (.bool true) ∧ ∃ w4, Below w.heap.size w w4 ∧ w' = w4.setCell t (.pointer (some e)) := by
  have htl : t.block < w.heap.size := World.block_lt_of_cell? w t ht0
  have HG := Lib.hid hg
  have hVO := @run_callFunc_extern Tryd.prog 35 _ (fun args => ReflectliteValue.unpack (args.getD 0 (.tuple #[]))) Tryd.func35 (by kernel_rfl) (by kernel_rfl) (by kernel_rfl) (by kernel_rfl)
  have hTY := @run_callFunc_extern Tryd.prog 36 _ (ReflectliteValue.methodAny (ReflectliteValue.valueError "reflectlite.Value.Type" 0) (fun t _ _ _ => ReflectliteType.toType t)) Tryd.func36 (by kernel_rfl) (by kernel_rfl) (by kernel_rfl) (by kernel_rfl)
  have hNI := @run_callFunc_extern Tryd.prog 37 _ (ReflectliteValue.method (ReflectliteValue.valueError "reflectlite.Value.IsNil" 0) ReflectliteValue.isNil) Tryd.func37 (by kernel_rfl) (by kernel_rfl) (by kernel_rfl) (by kernel_rfl)
  have hKI := @run_callFunc_extern Tryd.prog 63 _ (ReflectliteType.abiMethod fun t => do pure (.int .u8 (← Rtype.kind t))) Tryd.func63 (by kernel_rfl) (by kernel_rfl) (by kernel_rfl) (by kernel_rfl)
  have hRE := @run_callFunc_extern Tryd.prog 73 _ (ReflectliteType.method ReflectliteType.elem) Tryd.func73 (by kernel_rfl) (by kernel_rfl) (by kernel_rfl) (by kernel_rfl)
  have hIM := @run_callFunc_extern Tryd.prog 74 _ (ReflectliteType.relation "Implements" ReflectliteType.implements_) Tryd.func74 (by kernel_rfl) (by kernel_rfl) (by kernel_rfl) (by kernel_rfl)
  have f6 := er_valueOfPP
  have f7 := er_typePP
  have mK := er_mKind
  have mE := er_mElem
  have mI := er_mImpl
  have k27 := er_kindPP
  have k25 := er_kindP
  have e27 := er_elemTPP
  have i25 := er_implements
  have hk2 : Keeps w ((w.alloc (.cells #[.pointer (some t)] 65)).alloc (.cells #[.pointer (some ⟨4, 65, none⟩), .pointer (some ⟨w.heap.size, 0, none⟩), .int .u64 150] 78)) := (Keeps.alloc _ _).trans (Keeps.alloc _ _)
  have n8 := er_isNilPP ⟨w.heap.size, 0, none⟩ t ((w.alloc (.cells #[.pointer (some t)] 65)).alloc (.cells #[.pointer (some ⟨4, 65, none⟩), .pointer (some ⟨w.heap.size, 0, none⟩), .int .u64 150] 78)) (by simp)
  have hg2 := hg.keeps hk2
  unfold ErrT at hg2
  have HT := Lib.hid (hk2 _ _ ht0)
  have HF : Hid (((w.alloc (.cells #[.pointer (some t)] 65)).alloc (.cells #[.pointer (some ⟨4, 65, none⟩), .pointer (some ⟨w.heap.size, 0, none⟩), .int .u64 150] 78)).frozen? t = false) := Lib.hid (by
    rw [World.frozen?_alloc_old _ _ t (by simp; omega), World.frozen?_alloc_old _ _ t (Nat.ne_of_lt htl)]; exact hf0)
  have HB := Lib.hid (((Below.refl w.heap.size w).alloc (Nat.le_refl _) (.cells #[.pointer (some t)] 65)).alloc (by simp) (.cells #[.pointer (some ⟨4, 65, none⟩), .pointer (some ⟨w.heap.size, 0, none⟩), .int .u64 150] 78))
  clear hk2 hg ht0 hf0
  go_enter Tryd.func24, Tryd.ntmps24
  go_wp2_with fail
  refine (er_as e t ⟨w.heap.size, 0, none⟩ old _ (by simp) HT.out HF.out).mono ?_
  rintro ev w3 ⟨rfl, rfl⟩
  go_wp2_with fail
  go_ret
  exact ⟨rfl, _, (HB.out.alloc (by simp; omega) _).alloc (by simp; omega) _, rfl⟩

set_option maxHeartbeats 4000000 in
theorem code_nil (w : World) : Calls Tryd.prog 16 #[.nilIface] w fun e w' => e = .returned (.tuple #[.int .i64 0, .int .i64 0]) ∧ w' = w := by
  go_enter Tryd.func16, Tryd.ntmps16
  go_wp2
  go_ret2
  exact ⟨rfl, rfl⟩

set_option maxHeartbeats 8000000 in
theorem code_fault (b o : Nat) (x y : Int) (w : World) (hg : ErrT w) (hx : w.cell? ⟨b, o, none⟩ = some (.int .i64 x)) (hy : w.cell? ⟨b, o + 1, none⟩ = some (.int .i64 y)) :
    Calls Tryd.prog 16 #[.iface 40 (.pointer (some ⟨b, o, none⟩))] w fun e w' => e = .returned (.tuple #[.int .i64 x, .int .i64 y]) ∧ Below w.heap.size w w' := by
  have HX := Lib.hid hx; have HY := Lib.hid hy; have HG := Lib.hid hg
  have hbl : b < w.heap.size := World.block_lt_of_cell? w _ hx
  clear hx hy hg
  go_enter Tryd.func16, Tryd.ntmps16
  go_wp2_with fail
  refine (er_As ⟨b, o, none⟩ ⟨w.heap.size, 0, none⟩ (.pointer none) _ (HG.out.keeps (Keeps.alloc _ _)) (by simp) (by simp)).mono ?_
  rintro ev w5 ⟨rfl, w4, hb4, rfl⟩
  have hz4 : w.heap.size + 1 ≤ w4.heap.size := by have := hb4.size; simpa using this
  have hc4 : w4.cell? ⟨w.heap.size, 0, none⟩ = some (.pointer none) := (hb4.cell (p := ⟨w.heap.size, 0, none⟩) (by simp)).trans (by simp)
  have hk4 : Keeps w w4 := (Keeps.alloc w _).trans (Keeps.of_below hb4)
  have hf : (w4.setCell ⟨w.heap.size, 0, none⟩ (.pointer (some ⟨b, o, none⟩))).cell? ⟨w.heap.size, 0, none⟩ = some (.pointer (some ⟨b, o, none⟩)) := World.cell?_setCell_same' _ _ _ (by rw [hc4]; rfl)
  have h0 : (w4.setCell ⟨w.heap.size, 0, none⟩ (.pointer (some ⟨b, o, none⟩))).cell? ⟨b, o, none⟩ = some (.int .i64 x) := by
    rw [World.cell?_of_block (Below.heap_setCell _ _ _ _ (by simp; omega))]; exact hk4 _ _ HX.out
  have h1 : (w4.setCell ⟨w.heap.size, 0, none⟩ (.pointer (some ⟨b, o, none⟩))).cell? ⟨b, o + 1, none⟩ = some (.int .i64 y) := by
    rw [World.cell?_of_block (Below.heap_setCell _ _ _ _ (by simp; omega))]; exact hk4 _ _ HY.out
  have HB : Hid (Below w.heap.size w (w4.setCell ⟨w.heap.size, 0, none⟩ (.pointer (some ⟨b, o, none⟩)))) := Lib.hid ((((Below.refl w.heap.size w).alloc (Nat.le_refl _) _).trans (hb4.mono (by simp))).setCell (p := ⟨w.heap.size, 0, none⟩) (Nat.le_refl _) _)
  clear hb4 hc4 hk4 hz4
  generalize w4.setCell ⟨w.heap.size, 0, none⟩ (.pointer (some ⟨b, o, none⟩)) = v at *
  go_wp2_with fail
  refine wp_region_z (fun w' => w'.cell? ⟨w.heap.size, 0, none⟩ = some (.pointer (some ⟨b, o, none⟩)) ∧ w'.cell? ⟨b, o, none⟩ = some (.int .i64 x) ∧ w'.cell? ⟨b, o + 1, none⟩ = some (.int .i64 y)) [0, 1, 2, 3, 4, 5, 6, 7, 8, 9] [] (by kernel_rfl) (by kernel_rfl) (by kernel_rfl) (by rfl) (fun _ _ _ _ e h => ⟨e.symm.trans h.1, h.2⟩) ⟨hf, h0, h1⟩ ?_
  iterate 10
    refine Heads.step (v := ?_) rfl (by first | (go_simp; done) | rfl) (fun W hW => ?_) ?_
    rotate_left
    · (obtain ⟨t0, t1, t2⟩ := hW; go_simp; try with_reducible rfl)
  refine AnyZ.done (by kernel_rfl) ?_
  go_simp
  clear hf h0 h1
  go_wp2_with fail
  go_ret2
  exact ⟨rfl, HB.out.drew⟩
end Go.Proofs.YtlfjchlkooemdaaDoor
