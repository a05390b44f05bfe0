/- stream.sealed of a slice of bytes that is full: the copy is the call's own. Condition: the bytes lie in memory. -/
import Derived.Test.YtbnjbclkmjjkhaaDoorDkT
namespace Go.Proofs.YtbnjbclkmjjkhaaDoor
open Go.RowKit

theorem run_append_f {w : World} {base : Nat} {A : Option Addr} {l : List UInt8} (ty : TypeId) (h : Mem w A l) (h0 : 0 < l.length) (D : Option Addr) (m d : Nat) (news : List Value) (hsrc : Src w 1 D m news) (hm : 0 < m) (hbytes : l.length + m ≤ 140737488355328) (hbase : base ≤ w.heap.size) :
    ∃ A' c' w', (Builtin.append_ #[22, 22] ty #[.slice A l.length l.length, .slice D m d]).run Tryd.prog w = .ok (.slice A' (l.length + m) c') w' ∧ OwnB base w' A' (l.length + m) c' (Lib.byteCells l ++ news) ∧ Below w.heap.size w w' := by
  obtain ⟨i, z, ht, hi, hz, hsz, hby, hzs, hpos, hbpos⟩ := elByte
  obtain ⟨hl, hone, hcells⟩ := hsrc
  obtain ⟨ad, rfl, hnews⟩ := hcells hm
  obtain ⟨b, off, rfl, hr⟩ := h h0
  have hsz1 : i.size = 1 := hsz
  have h63 : l.length + m ≤ maxLen := by simp only [maxLen]; omega
  have hbl : (Lib.byteCells l).length = l.length := by simp [Lib.byteCells]
  have holds : ∀ j u, (Lib.byteCells l)[j]? = some u → w.cell? ((⟨b, off, none⟩ : Addr).add j) = some u := by
    intro j u hu
    have hj : j < l.length := by rw [← hbl]; exact (List.getElem?_eq_some_iff.1 hu).1
    rw [add_eq, hr j hj, ← hu]
    simp [Lib.byteCells, List.getD_eq_getElem?_getD, hj]
  have hrun := run_append_grow (P := Tryd.prog) w 22 ty 5 i z ht hi hz ⟨b, off, none⟩ l.length l.length (Lib.byteCells l) (by rw [hbl, hsz1, Nat.mul_one]) holds ad m d news (by rw [hl, hsz1]) hnews (by omega) (by omega) (growslice_fits (by omega) (by rw [hby]; omega))
  have hge := grownCap_ge w (l.length + m) l.length 5
  have hcm2 : grownCap w (l.length + m) l.length 5 ≤ maxLen := grownCap_le_maxLen w (l.length + m) l.length 5 h63
  have hlen : (Lib.byteCells l ++ news).length = l.length + m := by rw [List.length_append, hbl, hl, Nat.mul_one]
  refine ⟨some ⟨w.heap.size, 0, none⟩, _, _, hrun, ⟨hlen, .inr ⟨w.heap.size, _, 0, 0, rfl, hbase, heap_alloc_new w.drew _, .inl rfl, hge, hcm2, ?_, ?_⟩⟩, ((Below.refl w.heap.size w).drew).alloc (by simp) _⟩
  · simp only [Array.size_append, List.size_toArray, size_zeroCells, hzs, hbl, hl]
    omega
  · simp only [Array.toList_append, List.append_assoc]
    rw [← List.append_assoc, ← hlen]
    exact List.take_left

/-- the operation, for the walk -/
theorem wp_append_f {w : World} {ops : Array Oper} {rest : List Oper} {o : Oper} {a : Act} {Q : Exit → Act → World → Prop} (hgd : o.guard = none) (s x : Operand)
    (ho : o.op = .call { callee := .builtin .append, args := #[s, x], argTypes := #[22, 22] })
    (base : Nat) (A : Option Addr) (l : List UInt8) (hs : a.eval s = .slice A l.length l.length) (h : Mem w A l) (h0 : 0 < l.length)
    (D : Option Addr) (m d : Nat) (news : List Value) (hx : a.eval x = .slice D m d) (hsrc : Src w 1 D m news)
    (hm : 0 < m) (hbytes : l.length + m ≤ 140737488355328) (hbase : base ≤ w.heap.size)
    (hK : ∀ A' c' w', OwnB base w' A' (l.length + m) c' (Lib.byteCells l ++ news) → Below w.heap.size w w' → wpList Tryd.prog ops Q rest (a.put o.dst (.slice A' (l.length + m) c')) w') :
    wpList Tryd.prog ops Q (o :: rest) a w := by
  refine wpList_plain hgd fun K hKK => ?_
  obtain ⟨A', c', w', hr, h2, h3⟩ := run_append_f o.type h h0 D m d news hsrc hm hbytes hbase
  unfold Oper.wp execOp
  simp only [ho, resolve, invoke, builtin, Sem.run_bind, Sem.run_pure, Result.andThen_ok, List.map_toArray, List.map_cons, List.map_nil, hs, hx, hr]
  exact hKK _ _ (hK A' c' w' h2 h3)

set_option maxRecDepth 100000 in
set_option maxHeartbeats 4000000 in
theorem sealed_full (l : List UInt8) (A : Option Addr) (w : World) (hm : Mem w A l) (h0 : 0 < l.length) (hl : l.length ≤ 1000000000) :
    Calls Tryd.prog 22 #[.slice A l.length l.length] w fun e w' => (∃ A' c', e = .returned (.slice A' (l.length + 4) c') ∧ Byt w.heap.size w' A' c' (l ++ be4 (crcF l))) ∧ Below w.heap.size w w' := by
  have HM := Lib.hid hm; have H0 := Lib.hid h0
  clear hm h0
  go_enter Tryd.func22, Tryd.ntmps22
  go_wp2_with fail
  go_loop [3, 8] (fun vc vi => ∃ (i X : Nat), i ≤ l.length ∧ vi = .int .i64 i ∧ vc = .int .u32 X ∧ Hid (X = crcV l i)) (fun _ vi => l.length - (intOf vi).toNat)
  case atStart => exact ⟨0, _, by omega, rfl, rfl, Lib.hid rfl⟩
  case round =>
    obtain ⟨i, X, hi, rfl, rfl, HX⟩ := hrel
    have HXB : Hid (X < 4294967296) := Lib.hid (by rw [HX.out]; exact crcV_lt l i)
    by_cases hlt : i < l.length
    · obtain ⟨ba, oa, hA, x0⟩ := HM.out.at_ hlt
      subst hA
      have hb : (l.getD i 0).toNat < 256 := (l.getD i 0).toNat_lt
      have HS : Hid (crcV l (i + 1) = stepN 8 (X ^^^ (l.getD i 0).toNat)) := Lib.hid (by rw [HX.out]; rfl)
      generalize (l.getD i 0).toNat = b at *
      go_wp2_with fail
      go_loop [3, 16] (fun vc vk => ∃ (k z : Nat), k ≤ 8 ∧ vk = .int .i64 k ∧ vc = .int .u32 z ∧ Hid (z = stepN k (X ^^^ b))) (fun _ vk => 8 - (intOf vk).toNat)
      case atStart => exact ⟨0, _, by omega, rfl, congrArg (Value.int .u32) (by first | exact xor32 HXB.out (by omega) | (rw [show IntKind.u32.wrap (b : Int) = b by rw [IntKind.wrap_u32]; omega]; exact xor32 HXB.out (by omega))), Lib.hid rfl⟩
      case round =>
        obtain ⟨k, z, hk, rfl, rfl, HZ⟩ := hrel
        have HZB : Hid (z < 4294967296) := Lib.hid (by rw [HZ.out]; exact stepN_lt (Nat.xor_lt_two_pow (n := 32) HXB.out (by omega)) k)
        by_cases hlk : k < 8
        · by_cases h1 : z % 2 = 1
          · have ht : (bits .and .u32 (z : Int) 1 == 1) = true := by rw [and1 HZB.out, h1]; rfl
            have HZ1 : Hid (((z / 2) ^^^ 3988292384) = stepN (k + 1) (X ^^^ b)) := Lib.hid (by show _ = step1 (stepN k (X ^^^ b)); rw [← HZ.out, step1, if_pos h1])
            have HXR : Hid (bits .xor .u32 ((z : Int) / 2) 3988292384 = (((z / 2) ^^^ 3988292384 : Nat) : Int)) := Lib.hid (by have := xor32 (a := z / 2) (b := 3988292384) (by have := HZB.out; omega) (by omega); rw [← this]; congr 1)
            clear h1
            go_wp2_with fail
            go_round
            case rel => exact ⟨k + 1, _, by omega, by go_num, congrArg (Value.int .u32) HXR.out, HZ1⟩
            case measure => simp [intOf]; omega
          · have ht : (bits .and .u32 (z : Int) 1 == 1) = false := by rw [and1 HZB.out, show z % 2 = 0 by omega]; rfl
            have HZ1 : Hid ((z / 2) = stepN (k + 1) (X ^^^ b)) := Lib.hid (by show _ = step1 (stepN k (X ^^^ b)); rw [← HZ.out, step1, if_neg h1])
            clear h1
            go_wp2_with fail
            go_round
            case rel => exact ⟨k + 1, z / 2, by omega, by go_num, congrArg (Value.int .u32) (by omega), HZ1⟩
            case measure => simp [intOf]; omega
        · obtain rfl : k = 8 := by omega
          go_wp2_with fail
          go_round
          case rel => exact ⟨i + 1, z, by omega, by go_num, rfl, Lib.hid (by rw [HZ.out, HS.out])⟩
          case measure => simp [intOf]; omega
    · obtain rfl : i = l.length := by omega
      go_upto_region 14 with (fail)
      have hxf : bits BinOp.xor IntKind.u32 (if IntKind.u32.signed = true then -1 else IntKind.u32.max) (X : Int) = ((crcF l : Nat) : Int) := by
        rw [show (if IntKind.u32.signed = true then -1 else IntKind.u32.max) = ((4294967295 : Nat) : Int) from rfl, xor32 (by omega) HXB.out, Nat.xor_comm, HX.out]; rfl
      rw [hxf]
      clear hxf
      obtain ⟨x, hx⟩ : ∃ x, crcF l = x := ⟨_, rfl⟩
      rw [hx]
      have HXE := Lib.hid hx
      clear hx
      go_wp2_with (at_builtin; refine wp_append_f rfl (.tmp 30) (.tmp 42) (by rfl) w.heap.size A l (by rfl) (HM.out.keeps (Keeps.alloc _ _)) H0.out _ 4 4 _ (by rfl) (src_news w #[.int .u8 (IntKind.u8.wrap ((x : Int) / 16777216)), .int .u8 (IntKind.u8.wrap ((x : Int) / 65536)), .int .u8 (IntKind.u8.wrap ((x : Int) / 256)), .int .u8 (IntKind.u8.wrap (x : Int))] _ 1 4 rfl (by simp [Value.oneCell'])) (by omega) (by omega) (by simp) ?_; intro A2 c2 w2 ho hko; have HO2 := Lib.hid ho; have HKO := Lib.hid hko; clear ho hko)
      go_ret
      refine ⟨⟨A2, c2, rfl, ?_⟩, ?_⟩
      · have h := HO2.out
        rw [HXE.out]
        unfold Byt
        rw [Lib.byteCells_append, List.length_append, show (be4 x).length = 4 from rfl]
        have e := congrArg Array.toList (be4_cells x)
        simp only [] at e
        rw [show Lib.byteCells (be4 x) = [.int .u8 (IntKind.u8.wrap ((x : Int) / 16777216)), .int .u8 (IntKind.u8.wrap ((x : Int) / 65536)), .int .u8 (IntKind.u8.wrap ((x : Int) / 256)), .int .u8 (IntKind.u8.wrap (x : Int))] from e]
        exact h
      · exact ((Below.refl _ _).alloc (Nat.le_refl _) _).trans (HKO.out.mono (by simp))
end Go.Proofs.YtbnjbclkmjjkhaaDoor
