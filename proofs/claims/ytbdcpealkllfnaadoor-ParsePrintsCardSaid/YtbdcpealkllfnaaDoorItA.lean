/- The reference's Reader: span, bind, binds, walked. Condition: the text has at most 60000 bytes. -/
import Derived.Test.YtbdcpealkllfnaaDoorItT
namespace Go.Proofs.YtbdcpealkllfnaaDoor
open Go.RowKit Go.Deep

set_option maxRecDepth 100000 in
set_option maxHeartbeats 8000000 in
theorem span_any {s : ByteArray} {b m : Nat} {w : World} (HR : Hid (RdS s b w m)) : Calls Tryd.prog 37 #[.pointer (some ⟨b, 0, none⟩)] w (SpOut s b m w) := by
 have HR0 := HR
 have hlt := HR.out.lt
 have HW : Hid (OnlyB b w w) := Lib.hid (Only.refl _ w)
 go_enter Tryd.func37, Tryd.ntmps37
 go_wp2_with (refine wpl_alloc rfl 61 rfl (some 2) rfl Tryd.zeroValue61 ?_)
 refine ⟨fun w1 b2 HK2 ho1 ha2 hb2 => ?_⟩
 have hs1 := ho1.out.size
 replace HW : Hid (OnlyB b w w1) := Lib.hid (HW.out.then_ ho1.out (fun _ _ h => h.elim))
 replace HR := Lib.hid (HR.out.only ho1.out (fun h => h))
 clear ho1
 go_wp2_with fail
 refine (accept_any HR.out _).mono ?_
 rintro e w2 ⟨ok, m2, rfl, hr, ho, hy, hn⟩
 replace HR := Lib.hid hr
 have HOx := Lib.hid ho
 have hs2 := HOx.out.size
 clear hr ho
 replace HW : Hid (OnlyB b w w2) := Lib.hid (HW.out.then_ HOx.out (fun _ _ h => h))
 replace HK2 := Lib.hid (HOx.out.heap HK2.out (by omega))
 clear HOx
 cases ok with
 | false =>
  have HME := Lib.hid (hn rfl)
  clear hy hn
  go_wp2_with (refine wpl_store rfl 61 (.tmp 2) (.tmp 9) rfl b2 rfl (cells := #[.bool false, .int .i64 0, .int .i64 0, .int .i64 0, .int .i64 0, .int .u64 0, .string ⟨#[]⟩, .slice none 0 0, .int .i64 0, .int .i64 0, .int .i64 0, .int .i64 0, .int .u64 0, .string ⟨#[]⟩, .slice none 0 0]) rfl HK2.out stR rfl rfl (ones rfl) ?_)
  clear HK2
  refine ⟨fun w3 HK2 ho3 => ?_⟩
  have hs3 := ho3.out.size
  replace HW : Hid (OnlyB b w w3) := Lib.hid (HW.out.then_ ho3.out (fun i hi (h : i = b2) => by omega))
  replace HR := Lib.hid (HR.out.only ho3.out (by omega))
  clear ho3
  go_wp2_with fail
  exact bodyPost_ret (ret_box rfl _ rfl HK2.out stR rfl) rfl (SpOut.mk HR.out HW.out (trr_zero) (.inr ⟨by have := HME.out; omega, by have := HME.out; show ([] : LB).length + _ ≤ _; simp only [List.length_nil]; omega, by have := HME.out; simp only [List.length_cons, List.length_nil]; omega⟩) rfl)
 | true =>
  obtain ⟨hp2, hl2⟩ := hy rfl
  clear hy hn
  go_wp2_with (refine wpl_box rfl rfl 61 rfl 4 rfl (.tmp 10) rfl rfl Tryd.zeroValue61 (cells := #[.bool true, .int .i64 0, .int .i64 0, .int .i64 0, .int .i64 0, .int .u64 0, .string ⟨#[]⟩, .slice none 0 0, .int .i64 0, .int .i64 0, .int .i64 0, .int .i64 0, .int .u64 0, .string ⟨#[]⟩, .slice none 0 0]) (fun _ => rfl) (fun _ => rfl) stR rfl rfl (ones rfl) ?_)
  refine ⟨fun w3 b4 HK4 ho3 ha4 hb4 => ?_⟩
  have hs3 := ho3.out.size
  replace HW : Hid (OnlyB b w w3) := Lib.hid (HW.out.then_ ho3.out (fun _ _ h => h.elim))
  replace HR := Lib.hid (HR.out.only ho3.out (fun h => h))
  replace HK2 := Lib.hid (ho3.out.heap HK2.out (fun h => h))
  clear ho3
  go_wp2_with fail
  refine (expr_any HR.out).mono ?_
  rintro e w4 ⟨c1, t1, kd4, m4, rfl, hr, ho, ht, hm⟩
  have hle4 : m4 ≤ m2 := by omega
  have HM4 := Lib.hid hm
  have HTc1 := Lib.hid ht
  clear hm ht
  replace HR := Lib.hid hr
  have HOx := Lib.hid ho
  have hs4 := HOx.out.size
  clear hr ho
  replace HW : Hid (OnlyB b w w4) := Lib.hid (HW.out.then_ HOx.out (fun _ _ h => h))
  replace HK2 := Lib.hid (HOx.out.heap HK2.out (by omega))
  replace HK4 := Lib.hid (HOx.out.heap HK4.out (by omega))
  clear HOx
  go_wp2_with (refine wpl_seg rfl 56 (.tmp 13) (.tmp 12) rfl b4 1 rfl (c := c1) rfl HK4.out [.bool true] zEL zEL rfl rfl stE HTc1.out.len rfl HTc1.out.one (.bool true :: (c1 ++ zEL)) rfl ?_)
  clear HK4
  refine ⟨fun w5 HK4 ho5 => ?_⟩
  have hs5 := ho5.out.size
  replace HW : Hid (OnlyB b w w5) := Lib.hid (HW.out.then_ ho5.out (fun i hi (h : i = b4) => by omega))
  replace HR := Lib.hid (HR.out.only ho5.out (by omega))
  replace HK2 := Lib.hid (ho5.out.heap HK2.out (by omega))
  replace HTc1 := Lib.hid (HTc1.out.only ho5.out (fun i (h : i = b4) => by omega))
  clear ho5
  go_wp2_with fail
  refine (must_any HR.out _).mono ?_
  rintro e w6 ⟨rfl, m6, hr, ho, hm⟩
  have hle6 : m6 ≤ m4 := by omega
  have HM6 := Lib.hid hm
  clear hm
  replace HR := Lib.hid hr
  have HOx := Lib.hid ho
  have hs6 := HOx.out.size
  clear hr ho
  replace HW : Hid (OnlyB b w w6) := Lib.hid (HW.out.then_ HOx.out (fun _ _ h => h))
  replace HK2 := Lib.hid (HOx.out.heap HK2.out (by omega))
  replace HK4 := Lib.hid (HOx.out.heap HK4.out (by omega))
  replace HTc1 := Lib.hid (HTc1.out.only HOx.out (fun i (h : i = b) => by omega))
  clear HOx
  go_wp2_with fail
  refine (expr_any HR.out).mono ?_
  rintro e w7 ⟨c2, t2, kd7, m7, rfl, hr, ho, ht, hm⟩
  have hle7 : m7 ≤ m6 := by omega
  have HM7 := Lib.hid hm
  have HTc2 := Lib.hid ht
  clear hm ht
  replace HR := Lib.hid hr
  have HOx := Lib.hid ho
  have hs7 := HOx.out.size
  clear hr ho
  replace HW : Hid (OnlyB b w w7) := Lib.hid (HW.out.then_ HOx.out (fun _ _ h => h))
  replace HK2 := Lib.hid (HOx.out.heap HK2.out (by omega))
  replace HK4 := Lib.hid (HOx.out.heap HK4.out (by omega))
  replace HTc1 := Lib.hid (HTc1.out.only HOx.out (fun i (h : i = b) => by omega))
  clear HOx
  go_wp2_with (refine wpl_seg rfl 56 (.tmp 18) (.tmp 17) rfl b4 8 rfl (c := c2) rfl HK4.out (.bool true :: c1) zEL [] rfl (by simp [HTc1.out.len]) stE HTc2.out.len rfl HTc2.out.one (.bool true :: (c1 ++ c2)) (by simp) ?_)
  clear HK4
  refine ⟨fun w8 HK4 ho8 => ?_⟩
  have hs8 := ho8.out.size
  replace HW : Hid (OnlyB b w w8) := Lib.hid (HW.out.then_ ho8.out (fun i hi (h : i = b4) => by omega))
  replace HR := Lib.hid (HR.out.only ho8.out (by omega))
  replace HK2 := Lib.hid (ho8.out.heap HK2.out (by omega))
  replace HTc1 := Lib.hid (HTc1.out.only ho8.out (fun i (h : i = b4) => by omega))
  replace HTc2 := Lib.hid (HTc2.out.only ho8.out (fun i (h : i = b4) => by omega))
  clear ho8
  go_wp2_with fail
  refine (must_any HR.out _).mono ?_
  rintro e w9 ⟨rfl, m9, hr, ho, hm⟩
  have hle9 : m9 ≤ m7 := by omega
  have HM9 := Lib.hid hm
  clear hm
  replace HR := Lib.hid hr
  have HOx := Lib.hid ho
  have hs9 := HOx.out.size
  clear hr ho
  replace HW : Hid (OnlyB b w w9) := Lib.hid (HW.out.then_ HOx.out (fun _ _ h => h))
  replace HK2 := Lib.hid (HOx.out.heap HK2.out (by omega))
  replace HK4 := Lib.hid (HOx.out.heap HK4.out (by omega))
  replace HTc1 := Lib.hid (HTc1.out.only HOx.out (fun i (h : i = b) => by omega))
  replace HTc2 := Lib.hid (HTc2.out.only HOx.out (fun i (h : i = b) => by omega))
  clear HOx
  have HTR : Hid (Tr FR w1.heap.size w9.heap.size w9 (.bool true :: (c1 ++ c2)) (true, t1, t2)) := Lib.hid (trr_mk (on := true) (tH := (t1, kd4)) (tL := (t2, kd7)) (HTc1.out.wide (by omega) (by omega)) (HTc2.out.wide (by omega) (by omega)))
  generalize (.bool true :: (c1 ++ c2) : List Value) = cR at HK4 HTR
  go_wp2_with (first | (refine wpl_load rfl 61 (.tmp 4) rfl b4 rfl HK4.out stR (by simp [lenR HTR.out]) ?_) | (refine wpl_store rfl 61 (.tmp 2) (.tmp 21) rfl b2 rfl (cells := cR.toArray) rfl HK2.out stR (by simp [lenR HTR.out]) rfl (by simpa using oneR HTR.out) ?_))
  clear HK2
  refine ⟨fun w10 HK2 ho10 => ?_⟩
  have hs10 := ho10.out.size
  replace HW : Hid (OnlyB b w w10) := Lib.hid (HW.out.then_ ho10.out (fun i hi (h : i = b2) => by omega))
  replace HR := Lib.hid (HR.out.only ho10.out (by omega))
  replace HK4 := Lib.hid (ho10.out.heap HK4.out (by omega))
  replace HTc1 := Lib.hid (HTc1.out.only ho10.out (fun i (h : i = b2) => by omega))
  replace HTc2 := Lib.hid (HTc2.out.only ho10.out (fun i (h : i = b2) => by omega))
  replace HTR := Lib.hid (HTR.out.only ho10.out (fun i (h : i = b2) => by omega))
  clear ho10
  go_wp2_with fail
  exact bodyPost_ret (ret_box rfl _ rfl HK2.out stR (by simp [lenR HTR.out])) rfl (SpOut.mk HR.out HW.out (HTR.out.wide (by omega) (by omega)) (by have := HM4.out; have := HM6.out; have := HM7.out; have := HM9.out; rw [show spanT (true, t1, t2) = [91] ++ t1 ++ [58] ++ t2 ++ [93, 32] from rfl]; simp only [List.length_append, List.length_cons, List.length_nil]; omega) rfl)
set_option maxRecDepth 100000 in
set_option maxHeartbeats 8000000 in
theorem bind_any {s : ByteArray} {b m : Nat} {w : World} (x : Bool) (HR : Hid (RdS s b w m)) : Calls Tryd.prog 80 #[.pointer (some ⟨b, 0, none⟩), .bool x] w (BiOut s b m w) := by
 have HR0 := HR
 have hlt := HR.out.lt
 have HW : Hid (OnlyB b w w) := Lib.hid (Only.refl _ w)
 go_enter Tryd.func80, Tryd.ntmps80
 go_wp2_with (refine wpl_alloc rfl 58 rfl (some 4) rfl Tryd.zeroValue58 ?_)
 refine ⟨fun w1 b4 HK4 ho1 ha4 hb4 => ?_⟩
 have hs1 := ho1.out.size
 replace HW : Hid (OnlyB b w w1) := Lib.hid (HW.out.then_ ho1.out (fun _ _ h => h.elim))
 replace HR := Lib.hid (HR.out.only ho1.out (fun h => h))
 clear ho1
 obtain ⟨kd, at_, wd, T, num, q, code, fat, hrf⟩ := HR.out
 have HF := Lib.hid hrf
 clear hrf
 obtain ⟨y2, z2⟩ := HF.out.c2
 go_wp2_with (refine wpl_box rfl rfl 58 rfl 5 rfl (.tmp 12) rfl rfl Tryd.zeroValue58 (cells := #[.string ⟨#[]⟩, .int .i64 (at_ : Int), .bool false, .int .i64 0, .int .i64 0, .int .i64 0, .int .i64 0, .int .u64 0, .string ⟨#[]⟩, .slice none 0 0]) (fun _ => rfl) (fun _ => rfl) stB rfl rfl (ones rfl) ?_)
 refine ⟨fun w2 b5 HK5 ho2 ha5 hb5 => ?_⟩
 have hs2 := ho2.out.size
 replace HW : Hid (OnlyB b w w2) := Lib.hid (HW.out.then_ ho2.out (fun _ _ h => h.elim))
 replace HR := Lib.hid (HR.out.only ho2.out (fun h => h))
 replace HK4 := Lib.hid (ho2.out.heap HK4.out (fun h => h))
 clear ho2
 clear y2 z2 HF
 go_wp2_with fail
 refine (must_any HR.out _).mono ?_
 rintro e w3 ⟨rfl, m3, hr, ho, hm⟩
 have hle3 : m3 ≤ m := by omega
 have HM3 := Lib.hid hm
 clear hm
 replace HR := Lib.hid hr
 have HOx := Lib.hid ho
 have hs3 := HOx.out.size
 clear hr ho
 replace HW : Hid (OnlyB b w w3) := Lib.hid (HW.out.then_ HOx.out (fun _ _ h => h))
 replace HK4 := Lib.hid (HOx.out.heap HK4.out (by omega))
 replace HK5 := Lib.hid (HOx.out.heap HK5.out (by omega))
 clear HOx
 go_wp2_with fail
 refine (name_any HR.out).mono ?_
 rintro e w4 ⟨nm, m4, rfl, hnm, hr, ho, hm⟩
 have hle4 : m4 ≤ m3 := by omega
 have HM4 := Lib.hid hm
 clear hm
 replace HR := Lib.hid hr
 have HOx := Lib.hid ho
 have hs4 := HOx.out.size
 clear hr ho
 replace HW : Hid (OnlyB b w w4) := Lib.hid (HW.out.then_ HOx.out (fun _ _ h => h))
 replace HK4 := Lib.hid (HOx.out.heap HK4.out (by omega))
 replace HK5 := Lib.hid (HOx.out.heap HK5.out (by omega))
 clear HOx
 go_wp2_with (refine wpl_set rfl 9 (.tmp 17) (.tmp 16) rfl b5 0 rfl (v := .string (bstr nm)) rfl Tryd.sizeOf9 rfl rfl HK5.out (by simp) ?_)
 clear HK5
 refine ⟨fun w5 HK5 ho5 => ?_⟩
 have hs5 := ho5.out.size
 replace HK5 : Hid (w5.heap[b5]? = some (.cells #[.string (bstr nm), .int .i64 (at_ : Int), .bool false, .int .i64 0, .int .i64 0, .int .i64 0, .int .i64 0, .int .u64 0, .string ⟨#[]⟩, .slice none 0 0] _)) := HK5
 replace HW : Hid (OnlyB b w w5) := Lib.hid (HW.out.then_ ho5.out (fun i hi (h : i = b5) => by omega))
 replace HR := Lib.hid (HR.out.only ho5.out (by omega))
 replace HK4 := Lib.hid (ho5.out.heap HK4.out (by omega))
 clear ho5
 go_wp2_with fail
 refine (must_any HR.out _).mono ?_
 rintro e w6 ⟨rfl, m6, hr, ho, hm⟩
 have hle6 : m6 ≤ m4 := by omega
 have HM6 := Lib.hid hm
 clear hm
 replace HR := Lib.hid hr
 have HOx := Lib.hid ho
 have hs6 := HOx.out.size
 clear hr ho
 replace HW : Hid (OnlyB b w w6) := Lib.hid (HW.out.then_ HOx.out (fun _ _ h => h))
 replace HK4 := Lib.hid (HOx.out.heap HK4.out (by omega))
 replace HK5 := Lib.hid (HOx.out.heap HK5.out (by omega))
 clear HOx
 go_wp2_with fail
 refine (is_any HR.out _).mono ?_
 rintro e w7 ⟨ok, rfl, hwe, hik⟩
 obtain rfl := hwe.symm
 clear hik
 cases x with
 | true =>
  cases ok with
  | true =>
   go_wp2_with (refine wpl_set rfl 4 (.tmp 27) (.const (.bool true)) rfl b5 2 rfl (v := .bool true) rfl Tryd.sizeOf4 rfl rfl HK5.out (by simp) ?_)
   clear HK5
   refine ⟨fun w8 HK5 ho8 => ?_⟩
   have hs8 := ho8.out.size
   replace HK5 : Hid (w8.heap[b5]? = some (.cells #[.string (bstr nm), .int .i64 (at_ : Int), .bool true, .int .i64 0, .int .i64 0, .int .i64 0, .int .i64 0, .int .u64 0, .string ⟨#[]⟩, .slice none 0 0] _)) := HK5
   replace HW : Hid (OnlyB b w w8) := Lib.hid (HW.out.then_ ho8.out (fun i hi (h : i = b5) => by omega))
   replace HR := Lib.hid (HR.out.only ho8.out (by omega))
   replace HK4 := Lib.hid (ho8.out.heap HK4.out (by omega))
   clear ho8
   go_wp2_with fail
   refine (expr_any HR.out).mono ?_
   rintro e w9 ⟨c1, t1, kd9, m9, rfl, hr, ho, ht, hm⟩
   have hle9 : m9 ≤ m6 := by omega
   have HM9 := Lib.hid hm
   have HTc1 := Lib.hid ht
   clear hm ht
   replace HR := Lib.hid hr
   have HOx := Lib.hid ho
   have hs9 := HOx.out.size
   clear hr ho
   replace HW : Hid (OnlyB b w w9) := Lib.hid (HW.out.then_ HOx.out (fun _ _ h => h))
   replace HK4 := Lib.hid (HOx.out.heap HK4.out (by omega))
   replace HK5 := Lib.hid (HOx.out.heap HK5.out (by omega))
   clear HOx
   go_wp2_with (refine wpl_seg rfl 56 (.tmp 30) (.tmp 29) rfl b5 3 rfl (c := c1) rfl HK5.out [.string (bstr nm), .int .i64 (at_ : Int), .bool true] zEL [] rfl rfl stE HTc1.out.len rfl HTc1.out.one (.string (bstr nm) :: .int .i64 (at_ : Int) :: .bool true :: c1) (by simp) ?_)
   clear HK5
   refine ⟨fun w10 HK5 ho10 => ?_⟩
   have hs10 := ho10.out.size
   replace HW : Hid (OnlyB b w w10) := Lib.hid (HW.out.then_ ho10.out (fun i hi (h : i = b5) => by omega))
   replace HR := Lib.hid (HR.out.only ho10.out (by omega))
   replace HK4 := Lib.hid (ho10.out.heap HK4.out (by omega))
   replace HTc1 := Lib.hid (HTc1.out.only ho10.out (fun i (h : i = b5) => by omega))
   clear ho10
   go_wp2_with fail
   refine (must_any HR.out _).mono ?_
   rintro e w11 ⟨rfl, m11, hr, ho, hm⟩
   have hle11 : m11 ≤ m9 := by omega
   have HM11 := Lib.hid hm
   clear hm
   replace HR := Lib.hid hr
   have HOx := Lib.hid ho
   have hs11 := HOx.out.size
   clear hr ho
   replace HW : Hid (OnlyB b w w11) := Lib.hid (HW.out.then_ HOx.out (fun _ _ h => h))
   replace HK4 := Lib.hid (HOx.out.heap HK4.out (by omega))
   replace HK5 := Lib.hid (HOx.out.heap HK5.out (by omega))
   replace HTc1 := Lib.hid (HTc1.out.only HOx.out (fun i (h : i = b) => by omega))
   clear HOx
   have HTB : Hid (Tr FB w1.heap.size w11.heap.size w11 (.string (bstr nm) :: .int .i64 (at_ : Int) :: .bool true :: c1) (nm, true, t1)) := Lib.hid (trb_mk (given := true) (t := (t1, kd9)) (by omega) (HTc1.out.wide (by omega) (by omega)))
   generalize (.string (bstr nm) :: .int .i64 (at_ : Int) :: .bool true :: c1 : List Value) = cB at HK5 HTB
   go_wp2_with (first | (refine wpl_load rfl 58 (.tmp 5) rfl b5 rfl HK5.out stB (by simp [lenB HTB.out]) ?_) | (refine wpl_store rfl 58 (.tmp 4) (.tmp 33) rfl b4 rfl (cells := cB.toArray) rfl HK4.out stB (by simp [lenB HTB.out]) rfl (by simpa using oneB HTB.out) ?_))
   clear HK4
   refine ⟨fun w12 HK4 ho12 => ?_⟩
   have hs12 := ho12.out.size
   replace HW : Hid (OnlyB b w w12) := Lib.hid (HW.out.then_ ho12.out (fun i hi (h : i = b4) => by omega))
   replace HR := Lib.hid (HR.out.only ho12.out (by omega))
   replace HK5 := Lib.hid (ho12.out.heap HK5.out (by omega))
   replace HTc1 := Lib.hid (HTc1.out.only ho12.out (fun i (h : i = b4) => by omega))
   replace HTB := Lib.hid (HTB.out.only ho12.out (fun i (h : i = b4) => by omega))
   clear ho12
   go_wp2_with fail
   exact bodyPost_ret (ret_box rfl _ rfl HK4.out stB (by simp [lenB HTB.out])) rfl (BiOut.mk HR.out HW.out (HTB.out.wide (by omega) (by omega)) (by have := HM3.out; have := HM4.out; have := HM6.out; have := HM9.out; have := HM11.out; rw [show bindT (nm, true, t1) = [46] ++ nm ++ [40] ++ t1 ++ [41] from rfl]; simp only [List.length_append, List.length_cons, List.length_nil]; omega) rfl)
  | false =>
   go_wp2_with (refine wpl_set rfl 4 (.tmp 27) (.const (.bool true)) rfl b5 2 rfl (v := .bool true) rfl Tryd.sizeOf4 rfl rfl HK5.out (by simp) ?_)
   clear HK5
   refine ⟨fun w8 HK5 ho8 => ?_⟩
   have hs8 := ho8.out.size
   replace HK5 : Hid (w8.heap[b5]? = some (.cells #[.string (bstr nm), .int .i64 (at_ : Int), .bool true, .int .i64 0, .int .i64 0, .int .i64 0, .int .i64 0, .int .u64 0, .string ⟨#[]⟩, .slice none 0 0] _)) := HK5
   replace HW : Hid (OnlyB b w w8) := Lib.hid (HW.out.then_ ho8.out (fun i hi (h : i = b5) => by omega))
   replace HR := Lib.hid (HR.out.only ho8.out (by omega))
   replace HK4 := Lib.hid (ho8.out.heap HK4.out (by omega))
   clear ho8
   go_wp2_with fail
   refine (expr_any HR.out).mono ?_
   rintro e w9 ⟨c1, t1, kd9, m9, rfl, hr, ho, ht, hm⟩
   have hle9 : m9 ≤ m6 := by omega
   have HM9 := Lib.hid hm
   have HTc1 := Lib.hid ht
   clear hm ht
   replace HR := Lib.hid hr
   have HOx := Lib.hid ho
   have hs9 := HOx.out.size
   clear hr ho
   replace HW : Hid (OnlyB b w w9) := Lib.hid (HW.out.then_ HOx.out (fun _ _ h => h))
   replace HK4 := Lib.hid (HOx.out.heap HK4.out (by omega))
   replace HK5 := Lib.hid (HOx.out.heap HK5.out (by omega))
   clear HOx
   go_wp2_with (refine wpl_seg rfl 56 (.tmp 30) (.tmp 29) rfl b5 3 rfl (c := c1) rfl HK5.out [.string (bstr nm), .int .i64 (at_ : Int), .bool true] zEL [] rfl rfl stE HTc1.out.len rfl HTc1.out.one (.string (bstr nm) :: .int .i64 (at_ : Int) :: .bool true :: c1) (by simp) ?_)
   clear HK5
   refine ⟨fun w10 HK5 ho10 => ?_⟩
   have hs10 := ho10.out.size
   replace HW : Hid (OnlyB b w w10) := Lib.hid (HW.out.then_ ho10.out (fun i hi (h : i = b5) => by omega))
   replace HR := Lib.hid (HR.out.only ho10.out (by omega))
   replace HK4 := Lib.hid (ho10.out.heap HK4.out (by omega))
   replace HTc1 := Lib.hid (HTc1.out.only ho10.out (fun i (h : i = b5) => by omega))
   clear ho10
   go_wp2_with fail
   refine (must_any HR.out _).mono ?_
   rintro e w11 ⟨rfl, m11, hr, ho, hm⟩
   have hle11 : m11 ≤ m9 := by omega
   have HM11 := Lib.hid hm
   clear hm
   replace HR := Lib.hid hr
   have HOx := Lib.hid ho
   have hs11 := HOx.out.size
   clear hr ho
   replace HW : Hid (OnlyB b w w11) := Lib.hid (HW.out.then_ HOx.out (fun _ _ h => h))
   replace HK4 := Lib.hid (HOx.out.heap HK4.out (by omega))
   replace HK5 := Lib.hid (HOx.out.heap HK5.out (by omega))
   replace HTc1 := Lib.hid (HTc1.out.only HOx.out (fun i (h : i = b) => by omega))
   clear HOx
   have HTB : Hid (Tr FB w1.heap.size w11.heap.size w11 (.string (bstr nm) :: .int .i64 (at_ : Int) :: .bool true :: c1) (nm, true, t1)) := Lib.hid (trb_mk (given := true) (t := (t1, kd9)) (by omega) (HTc1.out.wide (by omega) (by omega)))
   generalize (.string (bstr nm) :: .int .i64 (at_ : Int) :: .bool true :: c1 : List Value) = cB at HK5 HTB
   go_wp2_with (first | (refine wpl_load rfl 58 (.tmp 5) rfl b5 rfl HK5.out stB (by simp [lenB HTB.out]) ?_) | (refine wpl_store rfl 58 (.tmp 4) (.tmp 33) rfl b4 rfl (cells := cB.toArray) rfl HK4.out stB (by simp [lenB HTB.out]) rfl (by simpa using oneB HTB.out) ?_))
   clear HK4
   refine ⟨fun w12 HK4 ho12 => ?_⟩
   have hs12 := ho12.out.size
   replace HW : Hid (OnlyB b w w12) := Lib.hid (HW.out.then_ ho12.out (fun i hi (h : i = b4) => by omega))
   replace HR := Lib.hid (HR.out.only ho12.out (by omega))
   replace HK5 := Lib.hid (ho12.out.heap HK5.out (by omega))
   replace HTc1 := Lib.hid (HTc1.out.only ho12.out (fun i (h : i = b4) => by omega))
   replace HTB := Lib.hid (HTB.out.only ho12.out (fun i (h : i = b4) => by omega))
   clear ho12
   go_wp2_with fail
   exact bodyPost_ret (ret_box rfl _ rfl HK4.out stB (by simp [lenB HTB.out])) rfl (BiOut.mk HR.out HW.out (HTB.out.wide (by omega) (by omega)) (by have := HM3.out; have := HM4.out; have := HM6.out; have := HM9.out; have := HM11.out; rw [show bindT (nm, true, t1) = [46] ++ nm ++ [40] ++ t1 ++ [41] from rfl]; simp only [List.length_append, List.length_cons, List.length_nil]; omega) rfl)
 | false =>
  cases ok with
  | true =>
   go_wp2_with fail
   refine (must_any HR.out _).mono ?_
   rintro e w8 ⟨rfl, m8, hr, ho, hm⟩
   have hle8 : m8 ≤ m6 := by omega
   have HM8 := Lib.hid hm
   clear hm
   replace HR := Lib.hid hr
   have HOx := Lib.hid ho
   have hs8 := HOx.out.size
   clear hr ho
   replace HW : Hid (OnlyB b w w8) := Lib.hid (HW.out.then_ HOx.out (fun _ _ h => h))
   replace HK4 := Lib.hid (HOx.out.heap HK4.out (by omega))
   replace HK5 := Lib.hid (HOx.out.heap HK5.out (by omega))
   clear HOx
   go_wp2_with (first | (refine wpl_load rfl 58 (.tmp 5) rfl b5 rfl HK5.out stB rfl ?_) | (refine wpl_store rfl 58 (.tmp 4) (.tmp 33) rfl b4 rfl (cells := #[.string (bstr nm), .int .i64 (at_ : Int), .bool false, .int .i64 0, .int .i64 0, .int .i64 0, .int .i64 0, .int .u64 0, .string ⟨#[]⟩, .slice none 0 0]) rfl HK4.out stB rfl rfl (ones rfl) ?_))
   clear HK4
   refine ⟨fun w9 HK4 ho9 => ?_⟩
   have hs9 := ho9.out.size
   replace HW : Hid (OnlyB b w w9) := Lib.hid (HW.out.then_ ho9.out (fun i hi (h : i = b4) => by omega))
   replace HR := Lib.hid (HR.out.only ho9.out (by omega))
   replace HK5 := Lib.hid (ho9.out.heap HK5.out (by omega))
   clear ho9
   go_wp2_with fail
   exact bodyPost_ret (ret_box rfl _ rfl HK4.out stB rfl) rfl (BiOut.mk HR.out HW.out (trb_mk (given := false) (t := ([123, 125], 0)) (by omega) tre_zero) (by have := HM3.out; have := HM4.out; have := HM6.out; have := HM8.out; rw [show bindT (nm, false, [123, 125]) = [46] ++ nm ++ [40] ++ [] ++ [41] from rfl]; simp only [List.length_append, List.length_cons, List.length_nil]; omega) rfl)
  | false =>
   go_wp2_with (refine wpl_set rfl 4 (.tmp 27) (.const (.bool true)) rfl b5 2 rfl (v := .bool true) rfl Tryd.sizeOf4 rfl rfl HK5.out (by simp) ?_)
   clear HK5
   refine ⟨fun w8 HK5 ho8 => ?_⟩
   have hs8 := ho8.out.size
   replace HK5 : Hid (w8.heap[b5]? = some (.cells #[.string (bstr nm), .int .i64 (at_ : Int), .bool true, .int .i64 0, .int .i64 0, .int .i64 0, .int .i64 0, .int .u64 0, .string ⟨#[]⟩, .slice none 0 0] _)) := HK5
   replace HW : Hid (OnlyB b w w8) := Lib.hid (HW.out.then_ ho8.out (fun i hi (h : i = b5) => by omega))
   replace HR := Lib.hid (HR.out.only ho8.out (by omega))
   replace HK4 := Lib.hid (ho8.out.heap HK4.out (by omega))
   clear ho8
   go_wp2_with fail
   refine (expr_any HR.out).mono ?_
   rintro e w9 ⟨c1, t1, kd9, m9, rfl, hr, ho, ht, hm⟩
   have hle9 : m9 ≤ m6 := by omega
   have HM9 := Lib.hid hm
   have HTc1 := Lib.hid ht
   clear hm ht
   replace HR := Lib.hid hr
   have HOx := Lib.hid ho
   have hs9 := HOx.out.size
   clear hr ho
   replace HW : Hid (OnlyB b w w9) := Lib.hid (HW.out.then_ HOx.out (fun _ _ h => h))
   replace HK4 := Lib.hid (HOx.out.heap HK4.out (by omega))
   replace HK5 := Lib.hid (HOx.out.heap HK5.out (by omega))
   clear HOx
   go_wp2_with (refine wpl_seg rfl 56 (.tmp 30) (.tmp 29) rfl b5 3 rfl (c := c1) rfl HK5.out [.string (bstr nm), .int .i64 (at_ : Int), .bool true] zEL [] rfl rfl stE HTc1.out.len rfl HTc1.out.one (.string (bstr nm) :: .int .i64 (at_ : Int) :: .bool true :: c1) (by simp) ?_)
   clear HK5
   refine ⟨fun w10 HK5 ho10 => ?_⟩
   have hs10 := ho10.out.size
   replace HW : Hid (OnlyB b w w10) := Lib.hid (HW.out.then_ ho10.out (fun i hi (h : i = b5) => by omega))
   replace HR := Lib.hid (HR.out.only ho10.out (by omega))
   replace HK4 := Lib.hid (ho10.out.heap HK4.out (by omega))
   replace HTc1 := Lib.hid (HTc1.out.only ho10.out (fun i (h : i = b5) => by omega))
   clear ho10
   go_wp2_with fail
   refine (must_any HR.out _).mono ?_
   rintro e w11 ⟨rfl, m11, hr, ho, hm⟩
   have hle11 : m11 ≤ m9 := by omega
   have HM11 := Lib.hid hm
   clear hm
   replace HR := Lib.hid hr
   have HOx := Lib.hid ho
   have hs11 := HOx.out.size
   clear hr ho
   replace HW : Hid (OnlyB b w w11) := Lib.hid (HW.out.then_ HOx.out (fun _ _ h => h))
   replace HK4 := Lib.hid (HOx.out.heap HK4.out (by omega))
   replace HK5 := Lib.hid (HOx.out.heap HK5.out (by omega))
   replace HTc1 := Lib.hid (HTc1.out.only HOx.out (fun i (h : i = b) => by omega))
   clear HOx
   have HTB : Hid (Tr FB w1.heap.size w11.heap.size w11 (.string (bstr nm) :: .int .i64 (at_ : Int) :: .bool true :: c1) (nm, true, t1)) := Lib.hid (trb_mk (given := true) (t := (t1, kd9)) (by omega) (HTc1.out.wide (by omega) (by omega)))
   generalize (.string (bstr nm) :: .int .i64 (at_ : Int) :: .bool true :: c1 : List Value) = cB at HK5 HTB
   go_wp2_with (first | (refine wpl_load rfl 58 (.tmp 5) rfl b5 rfl HK5.out stB (by simp [lenB HTB.out]) ?_) | (refine wpl_store rfl 58 (.tmp 4) (.tmp 33) rfl b4 rfl (cells := cB.toArray) rfl HK4.out stB (by simp [lenB HTB.out]) rfl (by simpa using oneB HTB.out) ?_))
   clear HK4
   refine ⟨fun w12 HK4 ho12 => ?_⟩
   have hs12 := ho12.out.size
   replace HW : Hid (OnlyB b w w12) := Lib.hid (HW.out.then_ ho12.out (fun i hi (h : i = b4) => by omega))
   replace HR := Lib.hid (HR.out.only ho12.out (by omega))
   replace HK5 := Lib.hid (ho12.out.heap HK5.out (by omega))
   replace HTc1 := Lib.hid (HTc1.out.only ho12.out (fun i (h : i = b4) => by omega))
   replace HTB := Lib.hid (HTB.out.only ho12.out (fun i (h : i = b4) => by omega))
   clear ho12
   go_wp2_with fail
   exact bodyPost_ret (ret_box rfl _ rfl HK4.out stB (by simp [lenB HTB.out])) rfl (BiOut.mk HR.out HW.out (HTB.out.wide (by omega) (by omega)) (by have := HM3.out; have := HM4.out; have := HM6.out; have := HM9.out; have := HM11.out; rw [show bindT (nm, true, t1) = [46] ++ nm ++ [40] ++ t1 ++ [41] from rfl]; simp only [List.length_append, List.length_cons, List.length_nil]; omega) rfl)
theorem comB_snoc {T : Nat → BiT} {n : Nat} {t : BiT} : comL (fun i => bindT (snocF T n t i)) (n + 1) = comL (fun i => bindT (T i)) n ++ (if n = 0 then [] else [44, 32]) ++ bindT t := by
 simp only [comL]
 rw [comL_congr (T' := fun i => bindT (T i)) n (fun i hi => by rw [snocF_lt _ _ hi]), snocF_at]
theorem comB_snoc_len {T : Nat → BiT} {n : Nat} {t : BiT} : (comL (fun i => bindT (snocF T n t i)) (n + 1)).length ≤ (comL (fun i => bindT (T i)) n).length + 2 + (bindT t).length := by
 rw [comB_snoc]
 split <;> simp only [List.length_append, List.length_cons, List.length_nil] <;> omega
theorem comB_one_len {T : Nat → BiT} {t : BiT} : (comL (fun i => bindT (snocF T 0 t i)) 1).length = (bindT t).length := by
 rw [show (1 : Nat) = 0 + 1 from rfl, comB_snoc]
 simp [comL]
structure BsI (s : ByteArray) (b m : Nat) (w : World) (Z b7 : Nat) (g : Nat) (wr : World) (A : Option Addr) (n c : Nat) (T : Nat → BiT) (c0 : List Value) : Prop where
 rd : RdS s b wr g
 ol : OnlyB b w wr
 k7 : wr.heap[b7]? = some (.cells c0.toArray 58)
 l0 : c0.length = 10
 ls : Ls FB 58 10 Z b7 wr A n c T
 nn : n + g ≤ m + 1
 tx : g = 0 ∨ (g < m ∧ (comL (fun i => bindT (T i)) n).length + 60 * g + 60 ≤ 60 * m)
 sz : Z ≤ wr.heap.size ∧ b7 < wr.heap.size
set_option maxRecDepth 100000 in
set_option maxHeartbeats 8000000 in
theorem binds_any {s : ByteArray} {b m : Nat} {w : World} (x : Bool) (HR : Hid (RdS s b w m)) : Calls Tryd.prog 72 #[.pointer (some ⟨b, 0, none⟩), .bool x] w (BsOut s b m w) := by
 have HR0 := HR
 have hlt := HR.out.lt
 have HW : Hid (OnlyB b w w) := Lib.hid (Only.refl _ w)
 go_enter Tryd.func72, Tryd.ntmps72
 go_wp2_with fail
 refine (must_any HR.out _).mono ?_
 rintro e w1 ⟨rfl, m1, hr, ho, hm⟩
 have hle1 : m1 ≤ m := by omega
 have HM1 := Lib.hid hm
 clear hm
 replace HR := Lib.hid hr
 have HOx := Lib.hid ho
 have hs1 := HOx.out.size
 clear hr ho
 replace HW : Hid (OnlyB b w w1) := Lib.hid (HW.out.then_ HOx.out (fun _ _ h => h))
 clear HOx
 go_wp2_with fail
 refine (is_any HR.out _).mono ?_
 rintro e w2 ⟨ok, rfl, hwe, hik⟩
 obtain rfl := hwe.symm
 clear hik
 cases x with
 | true =>
  cases ok with
  | true =>
   go_wp2_with fail
   refine (bind_any true HR.out).mono ?_
   rintro e w3 ⟨c1, t1, m3, rfl, hr, ho, ht, hm⟩
   have hle3 : m3 ≤ m1 := by omega
   have HM3 := Lib.hid hm
   have HTc1 := Lib.hid ht
   clear hm ht
   replace HR := Lib.hid hr
   have HOx := Lib.hid ho
   have hs3 := HOx.out.size
   clear hr ho
   replace HW : Hid (OnlyB b w w3) := Lib.hid (HW.out.then_ HOx.out (fun _ _ h => h))
   clear HOx
   go_wp2_with (refine wpl_box rfl rfl 58 rfl 7 rfl (.tmp 19) rfl rfl Tryd.zeroValue58 (cells := c1.toArray) (fun _ => rfl) (fun _ => rfl) stB (by simp [lenB HTc1.out]) rfl (by simpa using oneB HTc1.out) ?_)
   refine ⟨fun w4 b7 HK7 ho4 ha7 hb7 => ?_⟩
   have hs4 := ho4.out.size
   replace HW : Hid (OnlyB b w w4) := Lib.hid (HW.out.then_ ho4.out (fun _ _ h => h.elim))
   replace HR := Lib.hid (HR.out.only ho4.out (fun h => h))
   replace HTc1 := Lib.hid (HTc1.out.only ho4.out (fun _ h => h.elim))
   clear ho4
   have HL : Hid (Ls FB 58 10 w1.heap.size b7 w4 none 0 0 (fun _ => (([], false, []) : BiT))) := Lib.hid Ls.nil
   have HLLT : Hid (∀ k, blockOf none k → k < w1.heap.size) := Lib.hid (fun k hk => by obtain ⟨_, h, _⟩ := hk; cases h)
   have HL0 := Lib.hid (lenB HTc1.out)
   go_wp2_with (first | (refine wpl_load rfl 58 (.tmp 7) rfl b7 rfl HK7.out stB (by simp [HL0.out]) ?_) | (refine wpl_slice rfl 36 58 1 _ rfl (some 22) rfl Tryd.underlying36 c1.toArray (built10 (lenB HTc1.out)) ?_))
   refine ⟨fun w5 b22 HK22 ho5 ha22 hb22 => ?_⟩
   have hs5 := ho5.out.size
   replace HW : Hid (OnlyB b w w5) := Lib.hid (HW.out.then_ ho5.out (fun _ _ h => h.elim))
   replace HR := Lib.hid (HR.out.only ho5.out (fun h => h))
   replace HTc1 := Lib.hid (HTc1.out.only ho5.out (fun _ h => h.elim))
   replace HK7 := Lib.hid (ho5.out.heap HK7.out (fun h => h))
   replace HL := Lib.hid (HL.out.only ho5.out (fun _ _ h => h.elim))
   clear ho5
   go_wp2_with (refine wpl_pushX rfl (.tmp 20) (.tmp 22) 36 rfl elB rfl HL.out rfl HK22.out (lenB HTc1.out) (oneB HTc1.out) HTc1.out (by omega) (by omega) (fun k hk => by have := HLLT.out k hk; omega) (by omega) (by omega) (by omega) ?_)
   refine ⟨fun A1 n1c w6 HLn ho6 => ?_⟩
   have hs6 := ho6.out.size
   clear HL HTc1
   clear HK22
   replace HW : Hid (OnlyB b w w6) := Lib.hid (HW.out.then_ ho6.out (fun i hi (h : w1.heap.size ≤ i ∧ i ≠ b7) => by omega))
   replace HR := Lib.hid (HR.out.only ho6.out (by omega))
   replace HK7 := Lib.hid (ho6.out.heap HK7.out (by omega))
   clear ho6
   have HL := HLn
   clear HLn
   replace HL : Hid (Ls FB 58 10 w1.heap.size b7 w6 A1 1 n1c (snocF (fun _ => (([], false, []) : BiT)) 0 t1)) := HL
   go_wp2_with fail
   have H0 : Hid (BsI s b m w w1.heap.size b7 m3 w6 A1 1 n1c (snocF (fun _ => (([], false, []) : BiT)) 0 t1) c1) := Lib.hid ⟨HR.out, HW.out, HK7.out, HL0.out, HL.out, by omega, by have := HM1.out; have := HM3.out; have h9 := @comB_one_len (fun _ => (([], false, []) : BiT)) t1; omega, by omega, by omega⟩
   clear HR HW HK7 HL HL0 HLLT
   go_loopg [5] m3 (fun g v5 wr => ∃ A n c T c0, v5 = .slice A n c ∧ Hid (BsI s b m w w1.heap.size b7 g wr A n c T c0))
   case atStart => exact ⟨_, _, _, _, _, rfl, H0⟩
   case round =>
    clear H0
    obtain ⟨A, n, c, T, c0, rfl, HB⟩ := hrel
    have HR := Lib.hid HB.out.rd
    have HW := Lib.hid HB.out.ol
    have HK7 := Lib.hid HB.out.k7
    have HL0 := Lib.hid HB.out.l0
    have HL := Lib.hid HB.out.ls
    have hnn := HB.out.nn
    have HTX := Lib.hid HB.out.tx
    obtain ⟨hsr, hsr7⟩ := HB.out.sz
    clear HB
    have hmm := HR0.out.le
    go_wp2_with fail
    refine (accept_any HR.out _).mono ?_
    rintro e w7 ⟨oa, m7, rfl, hr, ho, hy, hn⟩
    replace HR := Lib.hid hr
    have HOx := Lib.hid ho
    have hs7 := HOx.out.size
    clear hr ho
    replace HW : Hid (OnlyB b w w7) := Lib.hid (HW.out.then_ HOx.out (fun _ _ h => h))
    replace HK7 := Lib.hid (HOx.out.heap HK7.out (by omega))
    replace HL := Lib.hid (HL.out.only HOx.out (fun i hi (h : i = b) => by omega))
    clear HOx
    cases oa with
    | false =>
     obtain rfl : m7 = gk := hn rfl
     clear hy hn
     go_wp2_with fail
     refine (must_any HR.out _).mono ?_
     rintro e w8 ⟨rfl, m8, hr, ho, hm⟩
     have hle8 : m8 ≤ m7 := by omega
     have HM8 := Lib.hid hm
     clear hm
     replace HR := Lib.hid hr
     have HOx := Lib.hid ho
     have hs8 := HOx.out.size
     clear hr ho
     replace HW : Hid (OnlyB b w w8) := Lib.hid (HW.out.then_ HOx.out (fun _ _ h => h))
     replace HK7 := Lib.hid (HOx.out.heap HK7.out (by omega))
     replace HL := Lib.hid (HL.out.only HOx.out (fun i hi (h : i = b) => by omega))
     clear HOx
     go_wp2_with fail
     go_ret
     exact ⟨A, n, c, T, m8, rfl, HR.out, HW.out, (HL.out.done.wide (by omega) (by omega)), by omega, by have := HTX.out; have := HM8.out; simp only [bindsL, List.length_append, List.length_cons, List.length_nil]; omega⟩
    | true =>
     obtain ⟨hp7, hl7⟩ := hy rfl
     clear hy hn
     have HLLT := Lib.hid HL.out.lt
     go_wp2_with fail
     refine (bind_any true HR.out).mono ?_
     rintro e w8 ⟨c2, t2, m8, rfl, hr, ho, ht, hm⟩
     have hle8 : m8 ≤ m7 := by omega
     have HM8 := Lib.hid hm
     have HTc2 := Lib.hid ht
     clear hm ht
     replace HR := Lib.hid hr
     have HOx := Lib.hid ho
     have hs8 := HOx.out.size
     clear hr ho
     replace HW : Hid (OnlyB b w w8) := Lib.hid (HW.out.then_ HOx.out (fun _ _ h => h))
     replace HK7 := Lib.hid (HOx.out.heap HK7.out (by omega))
     replace HL := Lib.hid (HL.out.only HOx.out (fun i hi (h : i = b) => by omega))
     clear HOx
     go_wp2_with (refine wpl_store rfl 58 (.tmp 7) (.tmp 28) rfl b7 rfl (cells := c2.toArray) rfl HK7.out stB (by simp [lenB HTc2.out]) (by simp [HL0.out]) (by simpa using oneB HTc2.out) ?_)
     clear HK7
     refine ⟨fun w9 HK7 ho9 => ?_⟩
     have hs9 := ho9.out.size
     replace HW : Hid (OnlyB b w w9) := Lib.hid (HW.out.then_ ho9.out (fun i hi (h : i = b7) => by omega))
     replace HR := Lib.hid (HR.out.only ho9.out (by omega))
     replace HL := Lib.hid (HL.out.only ho9.out (fun i hi (h : i = b7) => by omega))
     replace HTc2 := Lib.hid (HTc2.out.only ho9.out (fun i (h : i = b7) => by omega))
     clear ho9
     replace HL0 := Lib.hid (lenB HTc2.out)
     go_wp2_with (first | (refine wpl_load rfl 58 (.tmp 7) rfl b7 rfl HK7.out stB (by simp [HL0.out]) ?_) | (refine wpl_slice rfl 36 58 1 _ rfl (some 31) rfl Tryd.underlying36 c2.toArray (built10 (lenB HTc2.out)) ?_))
     refine ⟨fun w10 b31 HK31 ho10 ha31 hb31 => ?_⟩
     have hs10 := ho10.out.size
     replace HW : Hid (OnlyB b w w10) := Lib.hid (HW.out.then_ ho10.out (fun _ _ h => h.elim))
     replace HR := Lib.hid (HR.out.only ho10.out (fun h => h))
     replace HK7 := Lib.hid (ho10.out.heap HK7.out (fun h => h))
     replace HL := Lib.hid (HL.out.only ho10.out (fun _ _ h => h.elim))
     replace HTc2 := Lib.hid (HTc2.out.only ho10.out (fun _ h => h.elim))
     clear ho10
     go_wp2_with (refine wpl_pushX rfl (.tmp 29) (.tmp 31) 36 rfl elB rfl HL.out rfl HK31.out (lenB HTc2.out) (oneB HTc2.out) HTc2.out (by omega) (by omega) (fun k hk => by have := HLLT.out k hk; omega) (by omega) (by omega) (by omega) ?_)
     refine ⟨fun A2 n2c w11 HLn ho11 => ?_⟩
     have hs11 := ho11.out.size
     clear HL HTc2
     clear HK31
     replace HW : Hid (OnlyB b w w11) := Lib.hid (HW.out.then_ ho11.out (fun i hi (h : w1.heap.size ≤ i ∧ i ≠ b7) => by omega))
     replace HR := Lib.hid (HR.out.only ho11.out (by omega))
     replace HK7 := Lib.hid (ho11.out.heap HK7.out (by omega))
     clear ho11
     have HL := HLn
     clear HLn
     go_wp2_with fail
     go_roundg m8
     case measure => omega
     case rel => exact ⟨A2, n + 1, n2c, _, _, rfl, Lib.hid ⟨HR.out, HW.out, HK7.out, HL0.out, HL.out, by omega, by have := HTX.out; have := HM8.out; have := @comB_snoc_len T n t2; omega, by omega, by omega⟩⟩
  | false =>
   go_wp2_with fail
   refine (bind_any true HR.out).mono ?_
   rintro e w3 ⟨c1, t1, m3, rfl, hr, ho, ht, hm⟩
   have hle3 : m3 ≤ m1 := by omega
   have HM3 := Lib.hid hm
   have HTc1 := Lib.hid ht
   clear hm ht
   replace HR := Lib.hid hr
   have HOx := Lib.hid ho
   have hs3 := HOx.out.size
   clear hr ho
   replace HW : Hid (OnlyB b w w3) := Lib.hid (HW.out.then_ HOx.out (fun _ _ h => h))
   clear HOx
   go_wp2_with (refine wpl_box rfl rfl 58 rfl 7 rfl (.tmp 19) rfl rfl Tryd.zeroValue58 (cells := c1.toArray) (fun _ => rfl) (fun _ => rfl) stB (by simp [lenB HTc1.out]) rfl (by simpa using oneB HTc1.out) ?_)
   refine ⟨fun w4 b7 HK7 ho4 ha7 hb7 => ?_⟩
   have hs4 := ho4.out.size
   replace HW : Hid (OnlyB b w w4) := Lib.hid (HW.out.then_ ho4.out (fun _ _ h => h.elim))
   replace HR := Lib.hid (HR.out.only ho4.out (fun h => h))
   replace HTc1 := Lib.hid (HTc1.out.only ho4.out (fun _ h => h.elim))
   clear ho4
   have HL : Hid (Ls FB 58 10 w1.heap.size b7 w4 none 0 0 (fun _ => (([], false, []) : BiT))) := Lib.hid Ls.nil
   have HLLT : Hid (∀ k, blockOf none k → k < w1.heap.size) := Lib.hid (fun k hk => by obtain ⟨_, h, _⟩ := hk; cases h)
   have HL0 := Lib.hid (lenB HTc1.out)
   go_wp2_with (first | (refine wpl_load rfl 58 (.tmp 7) rfl b7 rfl HK7.out stB (by simp [HL0.out]) ?_) | (refine wpl_slice rfl 36 58 1 _ rfl (some 22) rfl Tryd.underlying36 c1.toArray (built10 (lenB HTc1.out)) ?_))
   refine ⟨fun w5 b22 HK22 ho5 ha22 hb22 => ?_⟩
   have hs5 := ho5.out.size
   replace HW : Hid (OnlyB b w w5) := Lib.hid (HW.out.then_ ho5.out (fun _ _ h => h.elim))
   replace HR := Lib.hid (HR.out.only ho5.out (fun h => h))
   replace HTc1 := Lib.hid (HTc1.out.only ho5.out (fun _ h => h.elim))
   replace HK7 := Lib.hid (ho5.out.heap HK7.out (fun h => h))
   replace HL := Lib.hid (HL.out.only ho5.out (fun _ _ h => h.elim))
   clear ho5
   go_wp2_with (refine wpl_pushX rfl (.tmp 20) (.tmp 22) 36 rfl elB rfl HL.out rfl HK22.out (lenB HTc1.out) (oneB HTc1.out) HTc1.out (by omega) (by omega) (fun k hk => by have := HLLT.out k hk; omega) (by omega) (by omega) (by omega) ?_)
   refine ⟨fun A1 n1c w6 HLn ho6 => ?_⟩
   have hs6 := ho6.out.size
   clear HL HTc1
   clear HK22
   replace HW : Hid (OnlyB b w w6) := Lib.hid (HW.out.then_ ho6.out (fun i hi (h : w1.heap.size ≤ i ∧ i ≠ b7) => by omega))
   replace HR := Lib.hid (HR.out.only ho6.out (by omega))
   replace HK7 := Lib.hid (ho6.out.heap HK7.out (by omega))
   clear ho6
   have HL := HLn
   clear HLn
   replace HL : Hid (Ls FB 58 10 w1.heap.size b7 w6 A1 1 n1c (snocF (fun _ => (([], false, []) : BiT)) 0 t1)) := HL
   go_wp2_with fail
   have H0 : Hid (BsI s b m w w1.heap.size b7 m3 w6 A1 1 n1c (snocF (fun _ => (([], false, []) : BiT)) 0 t1) c1) := Lib.hid ⟨HR.out, HW.out, HK7.out, HL0.out, HL.out, by omega, by have := HM1.out; have := HM3.out; have h9 := @comB_one_len (fun _ => (([], false, []) : BiT)) t1; omega, by omega, by omega⟩
   clear HR HW HK7 HL HL0 HLLT
   go_loopg [5] m3 (fun g v5 wr => ∃ A n c T c0, v5 = .slice A n c ∧ Hid (BsI s b m w w1.heap.size b7 g wr A n c T c0))
   case atStart => exact ⟨_, _, _, _, _, rfl, H0⟩
   case round =>
    clear H0
    obtain ⟨A, n, c, T, c0, rfl, HB⟩ := hrel
    have HR := Lib.hid HB.out.rd
    have HW := Lib.hid HB.out.ol
    have HK7 := Lib.hid HB.out.k7
    have HL0 := Lib.hid HB.out.l0
    have HL := Lib.hid HB.out.ls
    have hnn := HB.out.nn
    have HTX := Lib.hid HB.out.tx
    obtain ⟨hsr, hsr7⟩ := HB.out.sz
    clear HB
    have hmm := HR0.out.le
    go_wp2_with fail
    refine (accept_any HR.out _).mono ?_
    rintro e w7 ⟨oa, m7, rfl, hr, ho, hy, hn⟩
    replace HR := Lib.hid hr
    have HOx := Lib.hid ho
    have hs7 := HOx.out.size
    clear hr ho
    replace HW : Hid (OnlyB b w w7) := Lib.hid (HW.out.then_ HOx.out (fun _ _ h => h))
    replace HK7 := Lib.hid (HOx.out.heap HK7.out (by omega))
    replace HL := Lib.hid (HL.out.only HOx.out (fun i hi (h : i = b) => by omega))
    clear HOx
    cases oa with
    | false =>
     obtain rfl : m7 = gk := hn rfl
     clear hy hn
     go_wp2_with fail
     refine (must_any HR.out _).mono ?_
     rintro e w8 ⟨rfl, m8, hr, ho, hm⟩
     have hle8 : m8 ≤ m7 := by omega
     have HM8 := Lib.hid hm
     clear hm
     replace HR := Lib.hid hr
     have HOx := Lib.hid ho
     have hs8 := HOx.out.size
     clear hr ho
     replace HW : Hid (OnlyB b w w8) := Lib.hid (HW.out.then_ HOx.out (fun _ _ h => h))
     replace HK7 := Lib.hid (HOx.out.heap HK7.out (by omega))
     replace HL := Lib.hid (HL.out.only HOx.out (fun i hi (h : i = b) => by omega))
     clear HOx
     go_wp2_with fail
     go_ret
     exact ⟨A, n, c, T, m8, rfl, HR.out, HW.out, (HL.out.done.wide (by omega) (by omega)), by omega, by have := HTX.out; have := HM8.out; simp only [bindsL, List.length_append, List.length_cons, List.length_nil]; omega⟩
    | true =>
     obtain ⟨hp7, hl7⟩ := hy rfl
     clear hy hn
     have HLLT := Lib.hid HL.out.lt
     go_wp2_with fail
     refine (bind_any true HR.out).mono ?_
     rintro e w8 ⟨c2, t2, m8, rfl, hr, ho, ht, hm⟩
     have hle8 : m8 ≤ m7 := by omega
     have HM8 := Lib.hid hm
     have HTc2 := Lib.hid ht
     clear hm ht
     replace HR := Lib.hid hr
     have HOx := Lib.hid ho
     have hs8 := HOx.out.size
     clear hr ho
     replace HW : Hid (OnlyB b w w8) := Lib.hid (HW.out.then_ HOx.out (fun _ _ h => h))
     replace HK7 := Lib.hid (HOx.out.heap HK7.out (by omega))
     replace HL := Lib.hid (HL.out.only HOx.out (fun i hi (h : i = b) => by omega))
     clear HOx
     go_wp2_with (refine wpl_store rfl 58 (.tmp 7) (.tmp 28) rfl b7 rfl (cells := c2.toArray) rfl HK7.out stB (by simp [lenB HTc2.out]) (by simp [HL0.out]) (by simpa using oneB HTc2.out) ?_)
     clear HK7
     refine ⟨fun w9 HK7 ho9 => ?_⟩
     have hs9 := ho9.out.size
     replace HW : Hid (OnlyB b w w9) := Lib.hid (HW.out.then_ ho9.out (fun i hi (h : i = b7) => by omega))
     replace HR := Lib.hid (HR.out.only ho9.out (by omega))
     replace HL := Lib.hid (HL.out.only ho9.out (fun i hi (h : i = b7) => by omega))
     replace HTc2 := Lib.hid (HTc2.out.only ho9.out (fun i (h : i = b7) => by omega))
     clear ho9
     replace HL0 := Lib.hid (lenB HTc2.out)
     go_wp2_with (first | (refine wpl_load rfl 58 (.tmp 7) rfl b7 rfl HK7.out stB (by simp [HL0.out]) ?_) | (refine wpl_slice rfl 36 58 1 _ rfl (some 31) rfl Tryd.underlying36 c2.toArray (built10 (lenB HTc2.out)) ?_))
     refine ⟨fun w10 b31 HK31 ho10 ha31 hb31 => ?_⟩
     have hs10 := ho10.out.size
     replace HW : Hid (OnlyB b w w10) := Lib.hid (HW.out.then_ ho10.out (fun _ _ h => h.elim))
     replace HR := Lib.hid (HR.out.only ho10.out (fun h => h))
     replace HK7 := Lib.hid (ho10.out.heap HK7.out (fun h => h))
     replace HL := Lib.hid (HL.out.only ho10.out (fun _ _ h => h.elim))
     replace HTc2 := Lib.hid (HTc2.out.only ho10.out (fun _ h => h.elim))
     clear ho10
     go_wp2_with (refine wpl_pushX rfl (.tmp 29) (.tmp 31) 36 rfl elB rfl HL.out rfl HK31.out (lenB HTc2.out) (oneB HTc2.out) HTc2.out (by omega) (by omega) (fun k hk => by have := HLLT.out k hk; omega) (by omega) (by omega) (by omega) ?_)
     refine ⟨fun A2 n2c w11 HLn ho11 => ?_⟩
     have hs11 := ho11.out.size
     clear HL HTc2
     clear HK31
     replace HW : Hid (OnlyB b w w11) := Lib.hid (HW.out.then_ ho11.out (fun i hi (h : w1.heap.size ≤ i ∧ i ≠ b7) => by omega))
     replace HR := Lib.hid (HR.out.only ho11.out (by omega))
     replace HK7 := Lib.hid (ho11.out.heap HK7.out (by omega))
     clear ho11
     have HL := HLn
     clear HLn
     go_wp2_with fail
     go_roundg m8
     case measure => omega
     case rel => exact ⟨A2, n + 1, n2c, _, _, rfl, Lib.hid ⟨HR.out, HW.out, HK7.out, HL0.out, HL.out, by omega, by have := HTX.out; have := HM8.out; have := @comB_snoc_len T n t2; omega, by omega, by omega⟩⟩
 | false =>
  cases ok with
  | true =>
   go_wp2_with fail
   refine (must_any HR.out _).mono ?_
   rintro e w3 ⟨rfl, m3, hr, ho, hm⟩
   have hle3 : m3 ≤ m1 := by omega
   have HM3 := Lib.hid hm
   clear hm
   replace HR := Lib.hid hr
   have HOx := Lib.hid ho
   have hs3 := HOx.out.size
   clear hr ho
   replace HW : Hid (OnlyB b w w3) := Lib.hid (HW.out.then_ HOx.out (fun _ _ h => h))
   clear HOx
   go_wp2_with fail
   go_ret
   exact ⟨none, 0, 0, (fun _ => (([], false, []) : BiT)), m3, rfl, HR.out, HW.out, LfP.nil, by omega, by have := HM1.out; have := HM3.out; rw [show bindsL (fun i => bindT ((fun _ => (([], false, []) : BiT)) i)) 0 = [40, 41] from rfl]; simp only [List.length_cons, List.length_nil]; omega⟩
  | false =>
   go_wp2_with fail
   refine (bind_any false HR.out).mono ?_
   rintro e w3 ⟨c1, t1, m3, rfl, hr, ho, ht, hm⟩
   have hle3 : m3 ≤ m1 := by omega
   have HM3 := Lib.hid hm
   have HTc1 := Lib.hid ht
   clear hm ht
   replace HR := Lib.hid hr
   have HOx := Lib.hid ho
   have hs3 := HOx.out.size
   clear hr ho
   replace HW : Hid (OnlyB b w w3) := Lib.hid (HW.out.then_ HOx.out (fun _ _ h => h))
   clear HOx
   go_wp2_with (refine wpl_box rfl rfl 58 rfl 7 rfl (.tmp 19) rfl rfl Tryd.zeroValue58 (cells := c1.toArray) (fun _ => rfl) (fun _ => rfl) stB (by simp [lenB HTc1.out]) rfl (by simpa using oneB HTc1.out) ?_)
   refine ⟨fun w4 b7 HK7 ho4 ha7 hb7 => ?_⟩
   have hs4 := ho4.out.size
   replace HW : Hid (OnlyB b w w4) := Lib.hid (HW.out.then_ ho4.out (fun _ _ h => h.elim))
   replace HR := Lib.hid (HR.out.only ho4.out (fun h => h))
   replace HTc1 := Lib.hid (HTc1.out.only ho4.out (fun _ h => h.elim))
   clear ho4
   have HL : Hid (Ls FB 58 10 w1.heap.size b7 w4 none 0 0 (fun _ => (([], false, []) : BiT))) := Lib.hid Ls.nil
   have HLLT : Hid (∀ k, blockOf none k → k < w1.heap.size) := Lib.hid (fun k hk => by obtain ⟨_, h, _⟩ := hk; cases h)
   have HL0 := Lib.hid (lenB HTc1.out)
   go_wp2_with (first | (refine wpl_load rfl 58 (.tmp 7) rfl b7 rfl HK7.out stB (by simp [HL0.out]) ?_) | (refine wpl_slice rfl 36 58 1 _ rfl (some 22) rfl Tryd.underlying36 c1.toArray (built10 (lenB HTc1.out)) ?_))
   refine ⟨fun w5 b22 HK22 ho5 ha22 hb22 => ?_⟩
   have hs5 := ho5.out.size
   replace HW : Hid (OnlyB b w w5) := Lib.hid (HW.out.then_ ho5.out (fun _ _ h => h.elim))
   replace HR := Lib.hid (HR.out.only ho5.out (fun h => h))
   replace HTc1 := Lib.hid (HTc1.out.only ho5.out (fun _ h => h.elim))
   replace HK7 := Lib.hid (ho5.out.heap HK7.out (fun h => h))
   replace HL := Lib.hid (HL.out.only ho5.out (fun _ _ h => h.elim))
   clear ho5
   go_wp2_with (refine wpl_pushX rfl (.tmp 20) (.tmp 22) 36 rfl elB rfl HL.out rfl HK22.out (lenB HTc1.out) (oneB HTc1.out) HTc1.out (by omega) (by omega) (fun k hk => by have := HLLT.out k hk; omega) (by omega) (by omega) (by omega) ?_)
   refine ⟨fun A1 n1c w6 HLn ho6 => ?_⟩
   have hs6 := ho6.out.size
   clear HL HTc1
   clear HK22
   replace HW : Hid (OnlyB b w w6) := Lib.hid (HW.out.then_ ho6.out (fun i hi (h : w1.heap.size ≤ i ∧ i ≠ b7) => by omega))
   replace HR := Lib.hid (HR.out.only ho6.out (by omega))
   replace HK7 := Lib.hid (ho6.out.heap HK7.out (by omega))
   clear ho6
   have HL := HLn
   clear HLn
   replace HL : Hid (Ls FB 58 10 w1.heap.size b7 w6 A1 1 n1c (snocF (fun _ => (([], false, []) : BiT)) 0 t1)) := HL
   go_wp2_with fail
   have H0 : Hid (BsI s b m w w1.heap.size b7 m3 w6 A1 1 n1c (snocF (fun _ => (([], false, []) : BiT)) 0 t1) c1) := Lib.hid ⟨HR.out, HW.out, HK7.out, HL0.out, HL.out, by omega, by have := HM1.out; have := HM3.out; have h9 := @comB_one_len (fun _ => (([], false, []) : BiT)) t1; omega, by omega, by omega⟩
   clear HR HW HK7 HL HL0 HLLT
   go_loopg [5] m3 (fun g v5 wr => ∃ A n c T c0, v5 = .slice A n c ∧ Hid (BsI s b m w w1.heap.size b7 g wr A n c T c0))
   case atStart => exact ⟨_, _, _, _, _, rfl, H0⟩
   case round =>
    clear H0
    obtain ⟨A, n, c, T, c0, rfl, HB⟩ := hrel
    have HR := Lib.hid HB.out.rd
    have HW := Lib.hid HB.out.ol
    have HK7 := Lib.hid HB.out.k7
    have HL0 := Lib.hid HB.out.l0
    have HL := Lib.hid HB.out.ls
    have hnn := HB.out.nn
    have HTX := Lib.hid HB.out.tx
    obtain ⟨hsr, hsr7⟩ := HB.out.sz
    clear HB
    have hmm := HR0.out.le
    go_wp2_with fail
    refine (accept_any HR.out _).mono ?_
    rintro e w7 ⟨oa, m7, rfl, hr, ho, hy, hn⟩
    replace HR := Lib.hid hr
    have HOx := Lib.hid ho
    have hs7 := HOx.out.size
    clear hr ho
    replace HW : Hid (OnlyB b w w7) := Lib.hid (HW.out.then_ HOx.out (fun _ _ h => h))
    replace HK7 := Lib.hid (HOx.out.heap HK7.out (by omega))
    replace HL := Lib.hid (HL.out.only HOx.out (fun i hi (h : i = b) => by omega))
    clear HOx
    cases oa with
    | false =>
     obtain rfl : m7 = gk := hn rfl
     clear hy hn
     go_wp2_with fail
     refine (must_any HR.out _).mono ?_
     rintro e w8 ⟨rfl, m8, hr, ho, hm⟩
     have hle8 : m8 ≤ m7 := by omega
     have HM8 := Lib.hid hm
     clear hm
     replace HR := Lib.hid hr
     have HOx := Lib.hid ho
     have hs8 := HOx.out.size
     clear hr ho
     replace HW : Hid (OnlyB b w w8) := Lib.hid (HW.out.then_ HOx.out (fun _ _ h => h))
     replace HK7 := Lib.hid (HOx.out.heap HK7.out (by omega))
     replace HL := Lib.hid (HL.out.only HOx.out (fun i hi (h : i = b) => by omega))
     clear HOx
     go_wp2_with fail
     go_ret
     exact ⟨A, n, c, T, m8, rfl, HR.out, HW.out, (HL.out.done.wide (by omega) (by omega)), by omega, by have := HTX.out; have := HM8.out; simp only [bindsL, List.length_append, List.length_cons, List.length_nil]; omega⟩
    | true =>
     obtain ⟨hp7, hl7⟩ := hy rfl
     clear hy hn
     have HLLT := Lib.hid HL.out.lt
     go_wp2_with fail
     refine (bind_any false HR.out).mono ?_
     rintro e w8 ⟨c2, t2, m8, rfl, hr, ho, ht, hm⟩
     have hle8 : m8 ≤ m7 := by omega
     have HM8 := Lib.hid hm
     have HTc2 := Lib.hid ht
     clear hm ht
     replace HR := Lib.hid hr
     have HOx := Lib.hid ho
     have hs8 := HOx.out.size
     clear hr ho
     replace HW : Hid (OnlyB b w w8) := Lib.hid (HW.out.then_ HOx.out (fun _ _ h => h))
     replace HK7 := Lib.hid (HOx.out.heap HK7.out (by omega))
     replace HL := Lib.hid (HL.out.only HOx.out (fun i hi (h : i = b) => by omega))
     clear HOx
     go_wp2_with (refine wpl_store rfl 58 (.tmp 7) (.tmp 28) rfl b7 rfl (cells := c2.toArray) rfl HK7.out stB (by simp [lenB HTc2.out]) (by simp [HL0.out]) (by simpa using oneB HTc2.out) ?_)
     clear HK7
     refine ⟨fun w9 HK7 ho9 => ?_⟩
     have hs9 := ho9.out.size
     replace HW : Hid (OnlyB b w w9) := Lib.hid (HW.out.then_ ho9.out (fun i hi (h : i = b7) => by omega))
     replace HR := Lib.hid (HR.out.only ho9.out (by omega))
     replace HL := Lib.hid (HL.out.only ho9.out (fun i hi (h : i = b7) => by omega))
     replace HTc2 := Lib.hid (HTc2.out.only ho9.out (fun i (h : i = b7) => by omega))
     clear ho9
     replace HL0 := Lib.hid (lenB HTc2.out)
     go_wp2_with (first | (refine wpl_load rfl 58 (.tmp 7) rfl b7 rfl HK7.out stB (by simp [HL0.out]) ?_) | (refine wpl_slice rfl 36 58 1 _ rfl (some 31) rfl Tryd.underlying36 c2.toArray (built10 (lenB HTc2.out)) ?_))
     refine ⟨fun w10 b31 HK31 ho10 ha31 hb31 => ?_⟩
     have hs10 := ho10.out.size
     replace HW : Hid (OnlyB b w w10) := Lib.hid (HW.out.then_ ho10.out (fun _ _ h => h.elim))
     replace HR := Lib.hid (HR.out.only ho10.out (fun h => h))
     replace HK7 := Lib.hid (ho10.out.heap HK7.out (fun h => h))
     replace HL := Lib.hid (HL.out.only ho10.out (fun _ _ h => h.elim))
     replace HTc2 := Lib.hid (HTc2.out.only ho10.out (fun _ h => h.elim))
     clear ho10
     go_wp2_with (refine wpl_pushX rfl (.tmp 29) (.tmp 31) 36 rfl elB rfl HL.out rfl HK31.out (lenB HTc2.out) (oneB HTc2.out) HTc2.out (by omega) (by omega) (fun k hk => by have := HLLT.out k hk; omega) (by omega) (by omega) (by omega) ?_)
     refine ⟨fun A2 n2c w11 HLn ho11 => ?_⟩
     have hs11 := ho11.out.size
     clear HL HTc2
     clear HK31
     replace HW : Hid (OnlyB b w w11) := Lib.hid (HW.out.then_ ho11.out (fun i hi (h : w1.heap.size ≤ i ∧ i ≠ b7) => by omega))
     replace HR := Lib.hid (HR.out.only ho11.out (by omega))
     replace HK7 := Lib.hid (ho11.out.heap HK7.out (by omega))
     clear ho11
     have HL := HLn
     clear HLn
     go_wp2_with fail
     go_roundg m8
     case measure => omega
     case rel => exact ⟨A2, n + 1, n2c, _, _, rfl, Lib.hid ⟨HR.out, HW.out, HK7.out, HL0.out, HL.out, by omega, by have := HTX.out; have := HM8.out; have := @comB_snoc_len T n t2; omega, by omega, by omega⟩⟩
end Go.Proofs.YtbdcpealkllfnaaDoor
