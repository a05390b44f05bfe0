/- errors.As at a *Fault, walked over the model's entries for internal/reflectlite; api.Code. Condition: errors.errorType is laid as the program lays it. errors.as and errors.As at a *Fault, api.Code, walked. Condition: errors.errorType is laid as the program lays it. -/
import Derived.Test.YtbnjbclkmjjkhaaDoorBase
import Derived.LaidEql
import Derived.Stop.Asserts
import Derived.RowKitTokens
import Derived.Lib.Hide
import Derived.Deep.DeepCutAuto
import Derived.Test.YtbnjbclkmjjkhaaDoorDrawn2
namespace Go.Proofs.YtbnjbclkmjjkhaaDoor
open Go.RowKit Go.Extern.Stop Go.Stop Go.Extern

/-! ### Closed facts on the model's entries, at this program's types -/
theorem er_valueOfPP (t : Addr) (w : World) : (ReflectliteValue.unpack (.iface 104 (.pointer (some t)))).run Tryd.prog w
    = .ok (.agg #[.pointer (some ⟨1, 104, none⟩), .pointer (some ⟨w.heap.size, 0, none⟩), .int .u64 150]) (w.alloc (.cells #[.pointer (some t)] 104)) := by kernel_rfl
theorem er_typePP (a : Addr) (w : World) : (ReflectliteValue.methodAny (ReflectliteValue.valueError "reflectlite.Value.Type" 0) (fun t _ _ _ => ReflectliteType.toType t) #[.agg #[.pointer (some ⟨1, 104, none⟩), .pointer (some a), .int .u64 150]]).run Tryd.prog w
    = .ok (.iface 125 (.agg #[.pointer (some ⟨1, 104, none⟩)])) w := by kernel_rfl
theorem er_kindPP (w : World) : ((ReflectliteType.abiMethod fun t => (fun a : Nat => Value.int IntKind.u8 (a : Int)) <$> Rtype.kind t) #[.pointer (some ⟨1, 104, none⟩)]).run Tryd.prog w = .ok (.int .u8 22) w := by kernel_rfl
theorem er_kindP (w : World) : ((ReflectliteType.abiMethod fun t => (fun a : Nat => Value.int IntKind.u8 (a : Int)) <$> Rtype.kind t) #[.pointer (some ⟨1, 63, none⟩)]).run Tryd.prog w = .ok (.int .u8 22) w := by kernel_rfl
theorem er_rlm (z : Sem Value) (f : TypeId → Addr → Nat → Nat → Sem Value) (v : Value) :
    ReflectliteValue.method z f #[v] = (do match ← ReflectliteValue.parts v with | none => z | some (t, a, fl) => f t a fl (fl % 32)) := rfl
theorem er_partsPP (a : Addr) (w : World) : (ReflectliteValue.parts (.agg #[.pointer (some ⟨1, 104, none⟩), .pointer (some a), .int .u64 150])).run Tryd.prog w = .ok (some (104, a, 150)) w := by kernel_rfl
theorem er_isNilPP (a p : Addr) (W : World) (ha : W.cell? a = some (.pointer (some p))) :
    (ReflectliteValue.method (ReflectliteValue.valueError "reflectlite.Value.IsNil" 0) ReflectliteValue.isNil #[.agg #[.pointer (some ⟨1, 104, none⟩), .pointer (some a), .int .u64 150]]).run Tryd.prog W = .ok (.bool false) W := by
  rw [er_rlm]
  simp only [Sem.run_bind, er_partsPP, Result.andThen]
  simp [ReflectliteValue.isNil, loadVar, isAgg, underlying, Tryd.underlying104, ha, Result.andThen]
theorem er_elemTPP (w : World) : (ReflectliteType.method ReflectliteType.elem #[.agg #[.pointer (some ⟨1, 104, none⟩)]]).run Tryd.prog w = .ok (.iface 125 (.agg #[.pointer (some ⟨1, 63, none⟩)])) w := by kernel_rfl
theorem er_implements (w : World) : (ReflectliteType.relation "Implements" ReflectliteType.implements_ #[.agg #[.pointer (some ⟨1, 63, none⟩)], .iface 125 (.agg #[.pointer (some ⟨1, 37, none⟩)])]).run Tryd.prog w = .ok (.bool true) w := by kernel_rfl
theorem er_typeOfP (v : Value) (w : World) : (ReflectliteType.typeOf #[.iface 63 v]).run Tryd.prog w = .ok (.iface 125 (.agg #[.pointer (some ⟨1, 63, none⟩)])) w := by kernel_rfl
theorem er_assignable (w : World) : (ReflectliteType.relation "AssignableTo" ReflectliteType.assignableTo #[.agg #[.pointer (some ⟨1, 63, none⟩)], .iface 125 (.agg #[.pointer (some ⟨1, 63, none⟩)])]).run Tryd.prog w = .ok (.bool true) w := by kernel_rfl
theorem er_valueOfP (e : Addr) (w : World) : (ReflectliteValue.unpack (.iface 63 (.pointer (some e)))).run Tryd.prog w
    = .ok (.agg #[.pointer (some ⟨1, 63, none⟩), .pointer (some ⟨w.heap.size, 0, none⟩), .int .u64 150]) (w.alloc (.cells #[.pointer (some e)] 63)) := by kernel_rfl
theorem er_elemOf (w : World) : (Rtype.elem? 104).run Tryd.prog w = .ok (some 63) w := by kernel_rfl
theorem er_mkP (p : Addr) (w : World) : (ReflectliteValue.mk 63 p ReflectliteValue.flagAddr).run Tryd.prog w = .ok (.agg #[.pointer (some ⟨1, 63, none⟩), .pointer (some p), .int .u64 406]) w := by kernel_rfl
theorem er_elemV (a p : Addr) (W : World) (ha : W.cell? a = some (.pointer (some p))) :
    (ReflectliteValue.method (ReflectliteValue.valueError "reflectlite.Value.Elem" 0) ReflectliteValue.elem #[.agg #[.pointer (some ⟨1, 104, none⟩), .pointer (some a), .int .u64 150]]).run Tryd.prog W
      = .ok (.agg #[.pointer (some ⟨1, 63, none⟩), .pointer (some p), .int .u64 406]) W := by
  rw [er_rlm]
  simp only [Sem.run_bind, er_partsPP, Result.andThen]
  simp [ReflectliteValue.elem, loadVar, isAgg, underlying, Tryd.underlying104, ha, Result.andThen, er_elemOf, er_mkP]
theorem er_rls (v x : Value) : ReflectliteValue.set #[v, x] = (do
    let (some (dst, a, fl), some (src, b, _)) := (← ReflectliteValue.parts v, ← ReflectliteValue.parts x)
      | unsupported (.noEntry "extern/(internal/reflectlite.Value).Set.zeroValue")
    if fl / ReflectliteValue.flagAddr % 2 == 0 then unsupported (.noEntry "extern/(internal/reflectlite.Value).Set.unaddressable")
    let val ← loadVar src b
    if ← Rtype.directlyAssignable dst src then storeVar dst a val
    else if ← Rtype.implements dst src then
      if (← Rtype.kind src) == 20 then
        match val with
        | .nilIface => unsupported (.noEntry "extern/reflectlite: a nil value of one interface type handed on as a value of another")
        | _ => storeVar dst a val
      else storeVar dst a (.iface src val)
    else panicString ("reflectlite.Set: value of type " ++ (← Rtype.spelt src) ++ " is not assignable to type " ++ (← Rtype.spelt dst))
    pure (.tuple #[])) := rfl
theorem er_partsA (a : Addr) (w : World) : (ReflectliteValue.parts (.agg #[.pointer (some ⟨1, 63, none⟩), .pointer (some a), .int .u64 406])).run Tryd.prog w = .ok (some (63, a, 406)) w := by kernel_rfl
theorem er_partsB (a : Addr) (w : World) : (ReflectliteValue.parts (.agg #[.pointer (some ⟨1, 63, none⟩), .pointer (some a), .int .u64 150])).run Tryd.prog w = .ok (some (63, a, 150)) w := by kernel_rfl
theorem er_direct (w : World) : (Rtype.directlyAssignable 63 63).run Tryd.prog w = .ok true w := by kernel_rfl
theorem er_setV (ta b e : Addr) (old : Value) (W : World) (hb : W.cell? b = some (.pointer (some e))) (ht : W.cell? ta = some old) (hf : W.frozen? ta = false) :
    (ReflectliteValue.set #[.agg #[.pointer (some ⟨1, 63, none⟩), .pointer (some ta), .int .u64 406], .agg #[.pointer (some ⟨1, 63, none⟩), .pointer (some b), .int .u64 150]]).run Tryd.prog W
      = .ok (.tuple #[]) (W.setCell ta (.pointer (some e))) := by
  rw [er_rls]
  simp only [Sem.run_bind, er_partsA, er_partsB, Result.andThen]
  simp [ReflectliteValue.flagAddr, loadVar, isAgg, underlying, Tryd.underlying63, hb, Result.andThen, er_direct, storeVar, Value.cells, storeCells, Addr.add]
  rw [run_store Tryd.prog W ta _ _ (by rfl)]
  simp [ht, hf]
end Go.Proofs.YtbnjbclkmjjkhaaDoor
namespace Go.Proofs.YtbnjbclkmjjkhaaDoor
open Go.RowKit Go.Extern.Stop Go.Stop Go.Extern

theorem er_mAssign (h : Value) (w : World) : (Go.method 267 125 (.agg #[h]) "AssignableTo").run Tryd.prog w = .ok (78, .agg #[h]) w := by kernel_rfl
theorem er_mElem (h : Value) (w : World) : (Go.method 267 125 (.agg #[h]) "Elem").run Tryd.prog w = .ok (80, .agg #[h]) w := by kernel_rfl
theorem er_mImpl (h : Value) (w : World) : (Go.method 267 125 (.agg #[h]) "Implements").run Tryd.prog w = .ok (81, .agg #[h]) w := by kernel_rfl
theorem er_mKind (h : Value) (w : World) : (Go.method 267 125 (.agg #[h]) "Kind").run Tryd.prog w = .ok (70, h) w := by kernel_rfl

set_option maxRecDepth 100000 in
set_option maxHeartbeats 4000000 in
theorem er_as (e t a : Addr) (old : Value) (w : World) (ha : w.cell? a = some (.pointer (some t))) (ht0 : w.cell? t = some old) (hf0 : w.frozen? t = false) :
    Calls Tryd.prog 51 #[.iface 63 (.pointer (some e)), .iface 104 (.pointer (some t)), .agg #[.pointer (some ⟨1, 104, none⟩), .pointer (some a), .int .u64 150], .iface 125 (.agg #[.pointer (some ⟨1, 63, none⟩)])] w fun ev w' => ev = .returned (.bool true) ∧
      w' = ((w.alloc (.cells #[.pointer (some ⟨1, 104, none⟩), .pointer (some a), .int .u64 150] 114)).alloc (.cells #[.pointer (some e)] 63)).setCell t (.pointer (some e)) := by
  have hTO := @run_callFunc_extern Tryd.prog 53 _ ReflectliteType.typeOf Tryd.func53 (by kernel_rfl) (by kernel_rfl) (by kernel_rfl) (by kernel_rfl)
  have hAT := @run_callFunc_extern Tryd.prog 78 _ (ReflectliteType.relation "AssignableTo" ReflectliteType.assignableTo) Tryd.func78 (by kernel_rfl) (by kernel_rfl) (by kernel_rfl) (by kernel_rfl)
  have hEL := @run_callFunc_extern Tryd.prog 54 _ (ReflectliteValue.method (ReflectliteValue.valueError "reflectlite.Value.Elem" 0) ReflectliteValue.elem) Tryd.func54 (by kernel_rfl) (by kernel_rfl) (by kernel_rfl) (by kernel_rfl)
  have hVO := @run_callFunc_extern Tryd.prog 48 _ (fun args => ReflectliteValue.unpack (args.getD 0 (.tuple #[]))) Tryd.func48 (by kernel_rfl) (by kernel_rfl) (by kernel_rfl) (by kernel_rfl)
  have hSE := @run_callFunc_extern Tryd.prog 55 _ ReflectliteValue.set Tryd.func55 (by kernel_rfl) (by kernel_rfl) (by kernel_rfl) (by kernel_rfl)
  have tO := er_typeOfP
  have mA := er_mAssign
  have a25 := er_assignable
  have v25 := er_valueOfP
  have htl : t.block < w.heap.size := World.block_lt_of_cell? w t ht0
  have hal : a.block < w.heap.size := World.block_lt_of_cell? w a ha
  have el := er_elemV a t (w.alloc (.cells #[.pointer (some ⟨1, 104, none⟩), .pointer (some a), .int .u64 150] 114)) (by rw [World.cell?_alloc_lt _ _ a hal]; exact ha)
  have st := er_setV t ⟨w.heap.size + 1, 0, none⟩ e old ((w.alloc (.cells #[.pointer (some ⟨1, 104, none⟩), .pointer (some a), .int .u64 150] 114)).alloc (.cells #[.pointer (some e)] 63))
    (by rw [World.cell?_alloc_at _ _ _ _ (by simp)]; rfl)
    (by rw [World.cell?_alloc_lt _ _ t (by simp; omega), World.cell?_alloc_lt _ _ t htl]; exact ht0)
    (by rw [World.frozen?_alloc_old _ _ t (by simp; omega), World.frozen?_alloc_old _ _ t (Nat.ne_of_lt htl)]; exact hf0)
  go_enter Tryd.func51, Tryd.ntmps51
  go_wp2
  refine wp_loop_rounds 1 ?_
  rw [rounds_succ]
  go_wp2
  go_ret
  exact ⟨rfl, rfl⟩

/-- errors.errorType, as the program lays it -/
def ErrT (w : World) : Prop := w.cell? ⟨0, 0, none⟩ = some (.iface 125 (.agg #[.pointer (some ⟨1, 37, none⟩)]))
theorem ErrT.keeps {w w1 : World} (h : ErrT w) (k : Keeps w w1) : ErrT w1 := k _ _ h

set_option maxRecDepth 100000 in
set_option maxHeartbeats 8000000 in
theorem er_As (e t : Addr) (old : Value) (w : World) (hg : ErrT w) (ht0 : w.cell? t = some old) (hf0 : w.frozen? t = false) :
    Calls Tryd.prog 42 #[.iface 63 (.pointer (some e)), .iface 104 (.pointer (some t))] w fun ev w' => ev = .returned (.bool true) ∧ ∃ w4, Below w.heap.size w w4 ∧ w' = w4.setCell t (.pointer (some e)) := by
  have htl : t.block < w.heap.size := World.block_lt_of_cell? w t ht0
  have HG := Lib.hid hg
  have hVO := @run_callFunc_extern Tryd.prog 48 _ (fun args => ReflectliteValue.unpack (args.getD 0 (.tuple #[]))) Tryd.func48 (by kernel_rfl) (by kernel_rfl) (by kernel_rfl) (by kernel_rfl)
  have hTY := @run_callFunc_extern Tryd.prog 49 _ (ReflectliteValue.methodAny (ReflectliteValue.valueError "reflectlite.Value.Type" 0) (fun t _ _ _ => ReflectliteType.toType t)) Tryd.func49 (by kernel_rfl) (by kernel_rfl) (by kernel_rfl) (by kernel_rfl)
  have hNI := @run_callFunc_extern Tryd.prog 50 _ (ReflectliteValue.method (ReflectliteValue.valueError "reflectlite.Value.IsNil" 0) ReflectliteValue.isNil) Tryd.func50 (by kernel_rfl) (by kernel_rfl) (by kernel_rfl) (by kernel_rfl)
  have hKI := @run_callFunc_extern Tryd.prog 70 _ (ReflectliteType.abiMethod fun t => do pure (.int .u8 (← Rtype.kind t))) Tryd.func70 (by kernel_rfl) (by kernel_rfl) (by kernel_rfl) (by kernel_rfl)
  have hRE := @run_callFunc_extern Tryd.prog 80 _ (ReflectliteType.method ReflectliteType.elem) Tryd.func80 (by kernel_rfl) (by kernel_rfl) (by kernel_rfl) (by kernel_rfl)
  have hIM := @run_callFunc_extern Tryd.prog 81 _ (ReflectliteType.relation "Implements" ReflectliteType.implements_) Tryd.func81 (by kernel_rfl) (by kernel_rfl) (by kernel_rfl) (by kernel_rfl)
  have f6 := er_valueOfPP
  have f7 := er_typePP
  have mK := er_mKind
  have mE := er_mElem
  have mI := er_mImpl
  have k27 := er_kindPP
  have k25 := er_kindP
  have e27 := er_elemTPP
  have i25 := er_implements
  have hk2 : Keeps w ((w.alloc (.cells #[.pointer (some t)] 104)).alloc (.cells #[.pointer (some ⟨1, 104, none⟩), .pointer (some ⟨w.heap.size, 0, none⟩), .int .u64 150] 114)) := (Keeps.alloc _ _).trans (Keeps.alloc _ _)
  have n8 := er_isNilPP ⟨w.heap.size, 0, none⟩ t ((w.alloc (.cells #[.pointer (some t)] 104)).alloc (.cells #[.pointer (some ⟨1, 104, none⟩), .pointer (some ⟨w.heap.size, 0, none⟩), .int .u64 150] 114)) (by simp)
  have hg2 := hg.keeps hk2
  unfold ErrT at hg2
  have HT := Lib.hid (hk2 _ _ ht0)
  have HF : Hid (((w.alloc (.cells #[.pointer (some t)] 104)).alloc (.cells #[.pointer (some ⟨1, 104, none⟩), .pointer (some ⟨w.heap.size, 0, none⟩), .int .u64 150] 114)).frozen? t = false) := Lib.hid (by
    rw [World.frozen?_alloc_old _ _ t (by simp; omega), World.frozen?_alloc_old _ _ t (Nat.ne_of_lt htl)]; exact hf0)
  have HB := Lib.hid (((Below.refl w.heap.size w).alloc (Nat.le_refl _) (.cells #[.pointer (some t)] 104)).alloc (by simp) (.cells #[.pointer (some ⟨1, 104, none⟩), .pointer (some ⟨w.heap.size, 0, none⟩), .int .u64 150] 114))
  clear hk2 hg ht0 hf0
  go_enter Tryd.func42, Tryd.ntmps42
  go_wp2_with fail
  refine (er_as e t ⟨w.heap.size, 0, none⟩ old _ (by simp) HT.out HF.out).mono ?_
  rintro ev w3 ⟨rfl, rfl⟩
  go_wp2_with fail
  go_ret
  exact ⟨rfl, _, (HB.out.alloc (by simp; omega) _).alloc (by simp; omega) _, rfl⟩

set_option maxHeartbeats 4000000 in
theorem code_nil (w : World) : Calls Tryd.prog 31 #[.nilIface] w fun e w' => e = .returned (.tuple #[.int .i64 0, .int .i64 0]) ∧ w' = w := by
  go_enter Tryd.func31, Tryd.ntmps31
  go_wp2
  go_ret2
  exact ⟨rfl, rfl⟩

set_option maxHeartbeats 8000000 in
theorem code_fault (b o : Nat) (x y : Int) (w : World) (hg : ErrT w) (hx : w.cell? ⟨b, o, none⟩ = some (.int .i64 x)) (hy : w.cell? ⟨b, o + 1, none⟩ = some (.int .i64 y)) :
    Calls Tryd.prog 31 #[.iface 63 (.pointer (some ⟨b, o, none⟩))] w fun e w' => e = .returned (.tuple #[.int .i64 x, .int .i64 y]) ∧ Below w.heap.size w w' := by
  have HX := Lib.hid hx; have HY := Lib.hid hy; have HG := Lib.hid hg
  have hbl : b < w.heap.size := World.block_lt_of_cell? w _ hx
  clear hx hy hg
  go_enter Tryd.func31, Tryd.ntmps31
  go_wp2_with fail
  refine (er_As ⟨b, o, none⟩ ⟨w.heap.size, 0, none⟩ (.pointer none) _ (HG.out.keeps (Keeps.alloc _ _)) (by simp) (by simp)).mono ?_
  rintro ev w5 ⟨rfl, w4, hb4, rfl⟩
  have hz4 : w.heap.size + 1 ≤ w4.heap.size := by have := hb4.size; simpa using this
  have hc4 : w4.cell? ⟨w.heap.size, 0, none⟩ = some (.pointer none) := (hb4.cell (p := ⟨w.heap.size, 0, none⟩) (by simp)).trans (by simp)
  have hk4 : Keeps w w4 := (Keeps.alloc w _).trans (Keeps.of_below hb4)
  have hf : (w4.setCell ⟨w.heap.size, 0, none⟩ (.pointer (some ⟨b, o, none⟩))).cell? ⟨w.heap.size, 0, none⟩ = some (.pointer (some ⟨b, o, none⟩)) := World.cell?_setCell_same' _ _ _ (by rw [hc4]; rfl)
  have h0 : (w4.setCell ⟨w.heap.size, 0, none⟩ (.pointer (some ⟨b, o, none⟩))).cell? ⟨b, o, none⟩ = some (.int .i64 x) := by
    rw [World.cell?_of_block (Below.heap_setCell _ _ _ _ (by simp; omega))]; exact hk4 _ _ HX.out
  have h1 : (w4.setCell ⟨w.heap.size, 0, none⟩ (.pointer (some ⟨b, o, none⟩))).cell? ⟨b, o + 1, none⟩ = some (.int .i64 y) := by
    rw [World.cell?_of_block (Below.heap_setCell _ _ _ _ (by simp; omega))]; exact hk4 _ _ HY.out
  have HB : Hid (Below w.heap.size w (w4.setCell ⟨w.heap.size, 0, none⟩ (.pointer (some ⟨b, o, none⟩)))) := Lib.hid ((((Below.refl w.heap.size w).alloc (Nat.le_refl _) _).trans (hb4.mono (by simp))).setCell (p := ⟨w.heap.size, 0, none⟩) (Nat.le_refl _) _)
  clear hb4 hc4 hk4 hz4
  generalize w4.setCell ⟨w.heap.size, 0, none⟩ (.pointer (some ⟨b, o, none⟩)) = v at *
  go_wp2_with fail
  refine wp_region_z (fun w' => w'.cell? ⟨w.heap.size, 0, none⟩ = some (.pointer (some ⟨b, o, none⟩)) ∧ w'.cell? ⟨b, o, none⟩ = some (.int .i64 x) ∧ w'.cell? ⟨b, o + 1, none⟩ = some (.int .i64 y)) [0, 1, 2, 3, 4, 5, 6, 7, 8, 9] [] (by kernel_rfl) (by kernel_rfl) (by kernel_rfl) (by rfl) (fun _ _ _ _ e h => ⟨e.symm.trans h.1, h.2⟩) ⟨hf, h0, h1⟩ ?_
  iterate 10
    refine Heads.step (v := ?_) rfl (by first | (go_simp; done) | rfl) (fun W hW => ?_) ?_
    rotate_left
    · (obtain ⟨t0, t1, t2⟩ := hW; go_simp; try with_reducible rfl)
  refine AnyZ.done (by kernel_rfl) ?_
  go_simp
  clear hf h0 h1
  go_wp2_with fail
  go_ret2
  exact ⟨rfl, HB.out.drew⟩
end Go.Proofs.YtbnjbclkmjjkhaaDoor
