/- The reference's Reader: place, braces, walked. Condition: what is known of expr for less text. -/
import Derived.Test.YtbdcpealkllfnaaDoorExS
namespace Go.Proofs.YtbdcpealkllfnaaDoor
open Go.RowKit Go.Deep

set_option maxRecDepth 100000 in
set_option maxHeartbeats 8000000 in
theorem place_any {s : ByteArray} {b m : Nat} {w : World} (HI : Hid (ExI s b m)) (HR : Hid (RdS s b w m)) : Calls Tryd.prog 70 #[.pointer (some ⟨b, 0, none⟩)] w (ExOut s b m w) := by
 have hlt := HR.out.lt
 have HW : Hid (OnlyB b w w) := Lib.hid (Only.refl _ w)
 go_enter Tryd.func70, Tryd.ntmps70
 go_wp2_with (refine wpl_alloc rfl 56 rfl (some 2) rfl Tryd.zeroValue56 ?_)
 refine ⟨fun w1 b2 HK2 ho1 ha2 hb2 => ?_⟩
 have hs1 := ho1.out.size
 replace HW : Hid (OnlyB b w w1) := Lib.hid (HW.out.then_ ho1.out (fun _ _ h => h.elim))
 replace HR := Lib.hid (HR.out.only ho1.out (fun h => h))
 clear ho1
 obtain ⟨kd, at_, wd, T, num, q, code, fat, hrf⟩ := HR.out
 have HF := Lib.hid hrf
 clear hrf
 obtain ⟨y2, z2⟩ := HF.out.c2
 go_wp2_with (refine wpl_box rfl rfl 56 rfl 3 rfl (.tmp 13) rfl rfl Tryd.zeroValue56 (cells := #[.int .i64 2, .int .i64 (at_ : Int), .int .i64 0, .int .i64 0, .int .u64 0, .string ⟨#[]⟩, .slice none 0 0]) (fun _ => rfl) (fun _ => rfl) stE rfl rfl (ones rfl) ?_)
 refine ⟨fun w2 b3 HK3 ho2 ha3 hb3 => ?_⟩
 have hs2 := ho2.out.size
 replace HW : Hid (OnlyB b w w2) := Lib.hid (HW.out.then_ ho2.out (fun _ _ h => h.elim))
 replace HR := Lib.hid (HR.out.only ho2.out (fun h => h))
 replace HK2 := Lib.hid (ho2.out.heap HK2.out (fun h => h))
 clear ho2
 clear y2 z2 HF
 go_wp2_with fail
 refine (name_any HR.out).mono ?_
 rintro e w3 ⟨nm, m3, rfl, hnm, hr, ho, hm⟩
 have hle3 : m3 ≤ m := by omega
 have HM3 := Lib.hid hm
 clear hm
 replace HR := Lib.hid hr
 have HOx := Lib.hid ho
 have hs3 := HOx.out.size
 clear hr ho
 replace HW : Hid (OnlyB b w w3) := Lib.hid (HW.out.then_ HOx.out (fun _ _ h => h))
 replace HK2 := Lib.hid (HOx.out.heap HK2.out (by omega))
 replace HK3 := Lib.hid (HOx.out.heap HK3.out (by omega))
 clear HOx
 go_wp2_with (refine wpl_set rfl 9 (.tmp 16) (.tmp 15) rfl b3 5 rfl (v := .string (bstr nm)) rfl Tryd.sizeOf9 rfl rfl HK3.out (by simp) ?_)
 clear HK3
 refine ⟨fun w4 HK3 ho4 => ?_⟩
 have hs4 := ho4.out.size
 replace HK3 : Hid (w4.heap[b3]? = some (.cells #[.int .i64 2, .int .i64 (at_ : Int), .int .i64 0, .int .i64 0, .int .u64 0, .string (bstr nm), .slice none 0 0] _)) := HK3
 replace HW : Hid (OnlyB b w w4) := Lib.hid (HW.out.then_ ho4.out (fun i hi (h : i = b3) => by omega))
 replace HR := Lib.hid (HR.out.only ho4.out (by omega))
 replace HK2 := Lib.hid (ho4.out.heap HK2.out (by omega))
 clear ho4
 go_wp2_with fail
 refine (accept_any HR.out _).mono ?_
 rintro e w5 ⟨ok, m5, rfl, hr, ho, hy, hn⟩
 replace HR := Lib.hid hr
 have HOx := Lib.hid ho
 have hs5 := HOx.out.size
 clear hr ho
 replace HW : Hid (OnlyB b w w5) := Lib.hid (HW.out.then_ HOx.out (fun _ _ h => h))
 replace HK2 := Lib.hid (HOx.out.heap HK2.out (by omega))
 replace HK3 := Lib.hid (HOx.out.heap HK3.out (by omega))
 clear HOx
 cases ok with
 | false =>
  obtain rfl : m5 = m3 := hn rfl
  clear hy hn
  go_wp2_with (first | (refine wpl_load rfl 56 (.tmp 3) rfl b3 rfl HK3.out stE rfl ?_) | (refine wpl_store rfl 56 (.tmp 2) (.tmp 21) rfl b2 rfl (cells := #[.int .i64 2, .int .i64 (at_ : Int), .int .i64 0, .int .i64 0, .int .u64 0, .string (bstr nm), .slice none 0 0]) rfl HK2.out stE rfl rfl (ones rfl) ?_))
  clear HK2
  refine ⟨fun w6 HK2 ho6 => ?_⟩
  have hs6 := ho6.out.size
  replace HW : Hid (OnlyB b w w6) := Lib.hid (HW.out.then_ ho6.out (fun i hi (h : i = b2) => by omega))
  replace HR := Lib.hid (HR.out.only ho6.out (by omega))
  replace HK3 := Lib.hid (ho6.out.heap HK3.out (by omega))
  clear ho6
  go_wp2_with fail
  exact bodyPost_ret (ret_box rfl _ rfl HK2.out stE rfl) rfl (ExOut.mk HR.out HW.out (tre_name (by omega)) (by have := HM3.out; omega) rfl)
 | true =>
  obtain ⟨hp5, hl5⟩ := hy rfl
  clear hy hn
  have HL : Hid (Ls FE 56 7 w5.heap.size b w5 none 0 0 (fun _ => ([], 0))) := Lib.hid Ls.nil
  have HLLT := Lib.hid HL.out.lt
  go_wp2_with fail
  refine (HI.out.expr _ _ (by omega) HR.out).mono ?_
  rintro e w6 ⟨c1, t1, kd6, m6, rfl, hr, ho, ht, hm⟩
  have hle6 : m6 ≤ m5 := by omega
  have HM6 := Lib.hid hm
  have HTc1 := Lib.hid ht
  clear hm ht
  replace HR := Lib.hid hr
  have HOx := Lib.hid ho
  have hs6 := HOx.out.size
  clear hr ho
  replace HW : Hid (OnlyB b w w6) := Lib.hid (HW.out.then_ HOx.out (fun _ _ h => h))
  replace HK2 := Lib.hid (HOx.out.heap HK2.out (by omega))
  replace HK3 := Lib.hid (HOx.out.heap HK3.out (by omega))
  replace HL := Lib.hid (HL.out.only HOx.out (fun i hi (h : i = b) => by omega))
  clear HOx
  go_wp2_with (refine wpl_box rfl rfl 56 rfl 5 rfl (.tmp 23) rfl rfl Tryd.zeroValue56 (cells := c1.toArray) (fun _ => rfl) (fun _ => rfl) stE HTc1.out.size rfl HTc1.out.ones ?_)
  refine ⟨fun w7 b5 HK5 ho7 ha5 hb5 => ?_⟩
  have hs7 := ho7.out.size
  replace HW : Hid (OnlyB b w w7) := Lib.hid (HW.out.then_ ho7.out (fun _ _ h => h.elim))
  replace HR := Lib.hid (HR.out.only ho7.out (fun h => h))
  replace HK2 := Lib.hid (ho7.out.heap HK2.out (fun h => h))
  replace HK3 := Lib.hid (ho7.out.heap HK3.out (fun h => h))
  replace HL := Lib.hid (HL.out.only ho7.out (fun _ _ h => h.elim))
  replace HTc1 := Lib.hid (HTc1.out.only ho7.out (fun _ h => h.elim))
  clear ho7
  obtain ⟨y6, z6⟩ : w7.cell? ⟨b3, 6, none⟩ = some (.slice none 0 0) ∧ w7.frozen? ⟨b3, 6, none⟩ = false := cell_at HK3.out rfl
  go_wp2_with (first | (refine wpl_load rfl 56 (.tmp 5) rfl b5 rfl HK5.out stE HTc1.out.size ?_) | (refine wpl_slice rfl 54 56 1 _ rfl (some 27) rfl Tryd.underlying54 c1.toArray (builtE1 HTc1.out.len) ?_))
  refine ⟨fun w8 b27 HK27 ho8 ha27 hb27 => ?_⟩
  have hs8 := ho8.out.size
  replace HW : Hid (OnlyB b w w8) := Lib.hid (HW.out.then_ ho8.out (fun _ _ h => h.elim))
  replace HR := Lib.hid (HR.out.only ho8.out (fun h => h))
  replace HK2 := Lib.hid (ho8.out.heap HK2.out (fun h => h))
  replace HK3 := Lib.hid (ho8.out.heap HK3.out (fun h => h))
  replace HL := Lib.hid (HL.out.only ho8.out (fun _ _ h => h.elim))
  replace HTc1 := Lib.hid (HTc1.out.only ho8.out (fun _ h => h.elim))
  replace HK5 := Lib.hid (ho8.out.heap HK5.out (fun h => h))
  clear ho8
  clear y6 z6
  go_wp2_with (refine wpl_push rfl (.tmp 25) (.tmp 27) 54 rfl elE rfl HL.out rfl HK27.out HTc1.out.len HTc1.out.one HTc1.out (by omega) (by omega) (fun k hk => by have := HLLT.out k hk; omega) (by omega) (by omega) (by omega) ?_)
  refine ⟨fun A1 n1c w9 HLn ho9 => ?_⟩
  have hs9 := ho9.out.size
  clear HL HTc1
  clear HK5
  clear HK27
  replace HW : Hid (OnlyB b w w9) := Lib.hid (HW.out.then_ ho9.out (fun i hi (h : w5.heap.size ≤ i) => by omega))
  replace HR := Lib.hid (HR.out.only ho9.out (by omega))
  replace HK2 := Lib.hid (ho9.out.heap HK2.out (by omega))
  replace HK3 := Lib.hid (ho9.out.heap HK3.out (by omega))
  clear ho9
  have HL := HLn
  clear HLn
  replace HL : Hid (Ls FE 56 7 w5.heap.size b w9 A1 1 n1c _) := HL
  go_wp2_with (refine wpl_set rfl 54 (.tmp 29) (.tmp 28) rfl b3 6 rfl (v := .slice A1 1 n1c) rfl Tryd.sizeOf54 rfl rfl HK3.out (by simp) ?_)
  clear HK3
  refine ⟨fun w10 HK3 ho10 => ?_⟩
  have hs10 := ho10.out.size
  replace HK3 : Hid (w10.heap[b3]? = some (.cells #[.int .i64 2, .int .i64 (at_ : Int), .int .i64 0, .int .i64 0, .int .u64 0, .string (bstr nm), .slice A1 1 n1c] _)) := HK3
  replace HW : Hid (OnlyB b w w10) := Lib.hid (HW.out.then_ ho10.out (fun i hi (h : i = b3) => by omega))
  replace HR := Lib.hid (HR.out.only ho10.out (by omega))
  replace HK2 := Lib.hid (ho10.out.heap HK2.out (by omega))
  replace HL := Lib.hid (HL.out.only ho10.out (fun i hi (h : i = b3) => by omega))
  clear ho10
  go_wp2_with (refine wpl_set rfl 3 (.tmp 30) (.const (.int .i64 3)) rfl b3 0 rfl (v := .int .i64 3) rfl Tryd.sizeOf3 rfl rfl HK3.out (by simp) ?_)
  clear HK3
  refine ⟨fun w11 HK3 ho11 => ?_⟩
  have hs11 := ho11.out.size
  replace HK3 : Hid (w11.heap[b3]? = some (.cells #[.int .i64 3, .int .i64 (at_ : Int), .int .i64 0, .int .i64 0, .int .u64 0, .string (bstr nm), .slice A1 1 n1c] _)) := HK3
  replace HW : Hid (OnlyB b w w11) := Lib.hid (HW.out.then_ ho11.out (fun i hi (h : i = b3) => by omega))
  replace HR := Lib.hid (HR.out.only ho11.out (by omega))
  replace HK2 := Lib.hid (ho11.out.heap HK2.out (by omega))
  replace HL := Lib.hid (HL.out.only ho11.out (fun i hi (h : i = b3) => by omega))
  clear ho11
  go_wp2_with fail
  refine (accept_any HR.out _).mono ?_
  rintro e w12 ⟨ok, m12, rfl, hr, ho, hy, hn⟩
  replace HR := Lib.hid hr
  have HOx := Lib.hid ho
  have hs12 := HOx.out.size
  clear hr ho
  replace HW : Hid (OnlyB b w w12) := Lib.hid (HW.out.then_ HOx.out (fun _ _ h => h))
  replace HK2 := Lib.hid (HOx.out.heap HK2.out (by omega))
  replace HK3 := Lib.hid (HOx.out.heap HK3.out (by omega))
  replace HL := Lib.hid (HL.out.only HOx.out (fun i hi (h : i = b) => by omega))
  clear HOx
  cases ok with
  | false =>
   obtain rfl : m12 = m6 := hn rfl
   clear hy hn
   go_wp2_with fail
   refine (must_any HR.out _).mono ?_
   rintro e w13 ⟨rfl, m13, hr, ho, hm⟩
   have hle13 : m13 ≤ m12 := by omega
   have HM13 := Lib.hid hm
   clear hm
   replace HR := Lib.hid hr
   have HOx := Lib.hid ho
   have hs13 := HOx.out.size
   clear hr ho
   replace HW : Hid (OnlyB b w w13) := Lib.hid (HW.out.then_ HOx.out (fun _ _ h => h))
   replace HK2 := Lib.hid (HOx.out.heap HK2.out (by omega))
   replace HK3 := Lib.hid (HOx.out.heap HK3.out (by omega))
   replace HL := Lib.hid (HL.out.only HOx.out (fun i hi (h : i = b) => by omega))
   clear HOx
   go_wp2_with (first | (refine wpl_load rfl 56 (.tmp 3) rfl b3 rfl HK3.out stE rfl ?_) | (refine wpl_store rfl 56 (.tmp 2) (.tmp 45) rfl b2 rfl (cells := #[.int .i64 3, .int .i64 (at_ : Int), .int .i64 0, .int .i64 0, .int .u64 0, .string (bstr nm), .slice A1 1 n1c]) rfl HK2.out stE rfl rfl (ones rfl) ?_))
   clear HK2
   refine ⟨fun w14 HK2 ho14 => ?_⟩
   have hs14 := ho14.out.size
   replace HW : Hid (OnlyB b w w14) := Lib.hid (HW.out.then_ ho14.out (fun i hi (h : i = b2) => by omega))
   replace HR := Lib.hid (HR.out.only ho14.out (by omega))
   replace HK3 := Lib.hid (ho14.out.heap HK3.out (by omega))
   replace HL := Lib.hid (HL.out.only ho14.out (fun i hi (h : i = b2) => by omega))
   clear ho14
   go_wp2_with fail
   exact bodyPost_ret (ret_box rfl _ rfl HK2.out stE rfl) rfl (ExOut.mk HR.out HW.out (tre_idx (by omega) (HL.out.done.wide (by omega) (by omega)) (snocF_at _ _ _)) (by have := HM3.out; have := HM6.out; have := HM13.out; simp only [List.length_append, List.length_cons, List.length_nil]; omega) rfl)
  | true =>
   obtain ⟨hp12, hl12⟩ := hy rfl
   clear hy hn
   replace HLLT := Lib.hid HL.out.lt
   go_wp2_with fail
   refine (HI.out.expr _ _ (by omega) HR.out).mono ?_
   rintro e w13 ⟨c2, t2, kd13, m13, rfl, hr, ho, ht, hm⟩
   have hle13 : m13 ≤ m12 := by omega
   have HM13 := Lib.hid hm
   have HTc2 := Lib.hid ht
   clear hm ht
   replace HR := Lib.hid hr
   have HOx := Lib.hid ho
   have hs13 := HOx.out.size
   clear hr ho
   replace HW : Hid (OnlyB b w w13) := Lib.hid (HW.out.then_ HOx.out (fun _ _ h => h))
   replace HK2 := Lib.hid (HOx.out.heap HK2.out (by omega))
   replace HK3 := Lib.hid (HOx.out.heap HK3.out (by omega))
   replace HL := Lib.hid (HL.out.only HOx.out (fun i hi (h : i = b) => by omega))
   clear HOx
   go_wp2_with (refine wpl_box rfl rfl 56 rfl 7 rfl (.tmp 35) rfl rfl Tryd.zeroValue56 (cells := c2.toArray) (fun _ => rfl) (fun _ => rfl) stE HTc2.out.size rfl HTc2.out.ones ?_)
   refine ⟨fun w14 b7 HK7 ho14 ha7 hb7 => ?_⟩
   have hs14 := ho14.out.size
   replace HW : Hid (OnlyB b w w14) := Lib.hid (HW.out.then_ ho14.out (fun _ _ h => h.elim))
   replace HR := Lib.hid (HR.out.only ho14.out (fun h => h))
   replace HK2 := Lib.hid (ho14.out.heap HK2.out (fun h => h))
   replace HK3 := Lib.hid (ho14.out.heap HK3.out (fun h => h))
   replace HL := Lib.hid (HL.out.only ho14.out (fun _ _ h => h.elim))
   replace HTc2 := Lib.hid (HTc2.out.only ho14.out (fun _ h => h.elim))
   clear ho14
   obtain ⟨y6, z6⟩ : w14.cell? ⟨b3, 6, none⟩ = some (.slice A1 1 n1c) ∧ w14.frozen? ⟨b3, 6, none⟩ = false := cell_at HK3.out rfl
   go_wp2_with (first | (refine wpl_load rfl 56 (.tmp 7) rfl b7 rfl HK7.out stE HTc2.out.size ?_) | (refine wpl_slice rfl 54 56 1 _ rfl (some 39) rfl Tryd.underlying54 c2.toArray (builtE1 HTc2.out.len) ?_))
   refine ⟨fun w15 b39 HK39 ho15 ha39 hb39 => ?_⟩
   have hs15 := ho15.out.size
   replace HW : Hid (OnlyB b w w15) := Lib.hid (HW.out.then_ ho15.out (fun _ _ h => h.elim))
   replace HR := Lib.hid (HR.out.only ho15.out (fun h => h))
   replace HK2 := Lib.hid (ho15.out.heap HK2.out (fun h => h))
   replace HK3 := Lib.hid (ho15.out.heap HK3.out (fun h => h))
   replace HL := Lib.hid (HL.out.only ho15.out (fun _ _ h => h.elim))
   replace HTc2 := Lib.hid (HTc2.out.only ho15.out (fun _ h => h.elim))
   replace HK7 := Lib.hid (ho15.out.heap HK7.out (fun h => h))
   clear ho15
   clear y6 z6
   go_wp2_with (refine wpl_push rfl (.tmp 37) (.tmp 39) 54 rfl elE rfl HL.out rfl HK39.out HTc2.out.len HTc2.out.one HTc2.out (by omega) (by omega) (fun k hk => by have := HLLT.out k hk; omega) (by omega) (by omega) (by omega) ?_)
   refine ⟨fun A2 n2c w16 HLn ho16 => ?_⟩
   have hs16 := ho16.out.size
   clear HL HTc2
   clear HK7
   clear HK39
   replace HW : Hid (OnlyB b w w16) := Lib.hid (HW.out.then_ ho16.out (fun i hi (h : w5.heap.size ≤ i) => by omega))
   replace HR := Lib.hid (HR.out.only ho16.out (by omega))
   replace HK2 := Lib.hid (ho16.out.heap HK2.out (by omega))
   replace HK3 := Lib.hid (ho16.out.heap HK3.out (by omega))
   clear ho16
   have HL := HLn
   clear HLn
   replace HL : Hid (Ls FE 56 7 w5.heap.size b w16 A2 2 n2c _) := HL
   go_wp2_with (refine wpl_set rfl 54 (.tmp 41) (.tmp 40) rfl b3 6 rfl (v := .slice A2 2 n2c) rfl Tryd.sizeOf54 rfl rfl HK3.out (by simp) ?_)
   clear HK3
   refine ⟨fun w17 HK3 ho17 => ?_⟩
   have hs17 := ho17.out.size
   replace HK3 : Hid (w17.heap[b3]? = some (.cells #[.int .i64 3, .int .i64 (at_ : Int), .int .i64 0, .int .i64 0, .int .u64 0, .string (bstr nm), .slice A2 2 n2c] _)) := HK3
   replace HW : Hid (OnlyB b w w17) := Lib.hid (HW.out.then_ ho17.out (fun i hi (h : i = b3) => by omega))
   replace HR := Lib.hid (HR.out.only ho17.out (by omega))
   replace HK2 := Lib.hid (ho17.out.heap HK2.out (by omega))
   replace HL := Lib.hid (HL.out.only ho17.out (fun i hi (h : i = b3) => by omega))
   clear ho17
   go_wp2_with (refine wpl_set rfl 3 (.tmp 42) (.const (.int .i64 4)) rfl b3 0 rfl (v := .int .i64 4) rfl Tryd.sizeOf3 rfl rfl HK3.out (by simp) ?_)
   clear HK3
   refine ⟨fun w18 HK3 ho18 => ?_⟩
   have hs18 := ho18.out.size
   replace HK3 : Hid (w18.heap[b3]? = some (.cells #[.int .i64 4, .int .i64 (at_ : Int), .int .i64 0, .int .i64 0, .int .u64 0, .string (bstr nm), .slice A2 2 n2c] _)) := HK3
   replace HW : Hid (OnlyB b w w18) := Lib.hid (HW.out.then_ ho18.out (fun i hi (h : i = b3) => by omega))
   replace HR := Lib.hid (HR.out.only ho18.out (by omega))
   replace HK2 := Lib.hid (ho18.out.heap HK2.out (by omega))
   replace HL := Lib.hid (HL.out.only ho18.out (fun i hi (h : i = b3) => by omega))
   clear ho18
   go_wp2_with fail
   refine (must_any HR.out _).mono ?_
   rintro e w19 ⟨rfl, m19, hr, ho, hm⟩
   have hle19 : m19 ≤ m13 := by omega
   have HM19 := Lib.hid hm
   clear hm
   replace HR := Lib.hid hr
   have HOx := Lib.hid ho
   have hs19 := HOx.out.size
   clear hr ho
   replace HW : Hid (OnlyB b w w19) := Lib.hid (HW.out.then_ HOx.out (fun _ _ h => h))
   replace HK2 := Lib.hid (HOx.out.heap HK2.out (by omega))
   replace HK3 := Lib.hid (HOx.out.heap HK3.out (by omega))
   replace HL := Lib.hid (HL.out.only HOx.out (fun i hi (h : i = b) => by omega))
   clear HOx
   go_wp2_with (first | (refine wpl_load rfl 56 (.tmp 3) rfl b3 rfl HK3.out stE rfl ?_) | (refine wpl_store rfl 56 (.tmp 2) (.tmp 45) rfl b2 rfl (cells := #[.int .i64 4, .int .i64 (at_ : Int), .int .i64 0, .int .i64 0, .int .u64 0, .string (bstr nm), .slice A2 2 n2c]) rfl HK2.out stE rfl rfl (ones rfl) ?_))
   clear HK2
   refine ⟨fun w20 HK2 ho20 => ?_⟩
   have hs20 := ho20.out.size
   replace HW : Hid (OnlyB b w w20) := Lib.hid (HW.out.then_ ho20.out (fun i hi (h : i = b2) => by omega))
   replace HR := Lib.hid (HR.out.only ho20.out (by omega))
   replace HK3 := Lib.hid (ho20.out.heap HK3.out (by omega))
   replace HL := Lib.hid (HL.out.only ho20.out (fun i hi (h : i = b2) => by omega))
   clear ho20
   go_wp2_with fail
   exact bodyPost_ret (ret_box rfl _ rfl HK2.out stE rfl) rfl (ExOut.mk HR.out HW.out (tre_part (by omega) (HL.out.done.wide (by omega) (by omega)) (by rw [snocF_lt _ _ (by omega), snocF_at]) (snocF_at _ _ _)) (by have := HM3.out; have := HM6.out; have := HM13.out; have := HM19.out; simp only [List.length_append, List.length_cons, List.length_nil]; omega) rfl)
set_option maxRecDepth 100000 in
set_option maxHeartbeats 8000000 in
theorem braces_any {s : ByteArray} {b m : Nat} {w : World} (HI : Hid (ExI s b m)) (hpos0 : 0 < m) (x : Bool) (HR : Hid (RdS s b w m)) : Calls Tryd.prog 79 #[.pointer (some ⟨b, 0, none⟩), .bool x] w (ExOut s b m w) := by
 have HR0 := HR
 cases x with
 | false =>
  have hlt := HR.out.lt
  have HW : Hid (OnlyB b w w) := Lib.hid (Only.refl _ w)
  go_enter Tryd.func79, Tryd.ntmps79
  go_wp2_with (refine wpl_alloc rfl 56 rfl (some 4) rfl Tryd.zeroValue56 ?_)
  refine ⟨fun w1 b4 HK4 ho1 ha4 hb4 => ?_⟩
  have hs1 := ho1.out.size
  replace HW : Hid (OnlyB b w w1) := Lib.hid (HW.out.then_ ho1.out (fun _ _ h => h.elim))
  replace HR := Lib.hid (HR.out.only ho1.out (fun h => h))
  clear ho1
  obtain ⟨kd, at_, wd, T, num, q, code, fat, hrf⟩ := HR.out
  have HF := Lib.hid hrf
  clear hrf
  obtain ⟨y2, z2⟩ := HF.out.c2
  go_wp2_with (refine wpl_box rfl rfl 56 rfl 5 rfl (.tmp 15) rfl rfl Tryd.zeroValue56 (cells := #[.int .i64 8, .int .i64 (at_ : Int), .int .i64 0, .int .i64 0, .int .u64 0, .string ⟨#[]⟩, .slice none 0 0]) (fun _ => rfl) (fun _ => rfl) stE rfl rfl (ones rfl) ?_)
  refine ⟨fun w2 b5 HK5 ho2 ha5 hb5 => ?_⟩
  have hs2 := ho2.out.size
  replace HW : Hid (OnlyB b w w2) := Lib.hid (HW.out.then_ ho2.out (fun _ _ h => h.elim))
  replace HR := Lib.hid (HR.out.only ho2.out (fun h => h))
  replace HK4 := Lib.hid (ho2.out.heap HK4.out (fun h => h))
  clear ho2
  clear y2 z2 HF
  go_wp2_with fail
  refine (must_any HR.out _).mono ?_
  rintro e w3 ⟨rfl, m3, hr, ho, hm⟩
  have hle3 : m3 ≤ m := by omega
  have HM3 := Lib.hid hm
  clear hm
  replace HR := Lib.hid hr
  have HOx := Lib.hid ho
  have hs3 := HOx.out.size
  clear hr ho
  replace HW : Hid (OnlyB b w w3) := Lib.hid (HW.out.then_ HOx.out (fun _ _ h => h))
  replace HK4 := Lib.hid (HOx.out.heap HK4.out (by omega))
  replace HK5 := Lib.hid (HOx.out.heap HK5.out (by omega))
  clear HOx
  have hlm : m3 < m := by have := HM3.out; omega
  have HL : Hid (Ls FE 56 7 w3.heap.size b w3 none 0 0 (fun _ => ([], 0))) := Lib.hid Ls.nil
  have HLLT := Lib.hid HL.out.lt
  go_wp2_with fail
  refine (HI.out.expr _ _ hlm HR.out).mono ?_
  rintro e w4 ⟨c1, t1, kd4, m4, rfl, hr, ho, ht, hm⟩
  have hle4 : m4 ≤ m3 := by omega
  have HM4 := Lib.hid hm
  have HTc1 := Lib.hid ht
  clear hm ht
  replace HR := Lib.hid hr
  have HOx := Lib.hid ho
  have hs4 := HOx.out.size
  clear hr ho
  replace HW : Hid (OnlyB b w w4) := Lib.hid (HW.out.then_ HOx.out (fun _ _ h => h))
  replace HK4 := Lib.hid (HOx.out.heap HK4.out (by omega))
  replace HK5 := Lib.hid (HOx.out.heap HK5.out (by omega))
  replace HL := Lib.hid (HL.out.only HOx.out (fun i hi (h : i = b) => by omega))
  clear HOx
  go_wp2_with (refine wpl_box rfl rfl 56 rfl 6 rfl (.tmp 19) rfl rfl Tryd.zeroValue56 (cells := c1.toArray) (fun _ => rfl) (fun _ => rfl) stE HTc1.out.size rfl HTc1.out.ones ?_)
  refine ⟨fun w5 b6 HK6 ho5 ha6 hb6 => ?_⟩
  have hs5 := ho5.out.size
  replace HW : Hid (OnlyB b w w5) := Lib.hid (HW.out.then_ ho5.out (fun _ _ h => h.elim))
  replace HR := Lib.hid (HR.out.only ho5.out (fun h => h))
  replace HK4 := Lib.hid (ho5.out.heap HK4.out (fun h => h))
  replace HK5 := Lib.hid (ho5.out.heap HK5.out (fun h => h))
  replace HL := Lib.hid (HL.out.only ho5.out (fun _ _ h => h.elim))
  replace HTc1 := Lib.hid (HTc1.out.only ho5.out (fun _ h => h.elim))
  clear ho5
  obtain ⟨y6, z6⟩ : w5.cell? ⟨b5, 6, none⟩ = some (.slice none 0 0) ∧ w5.frozen? ⟨b5, 6, none⟩ = false := cell_at HK5.out rfl
  go_wp2_with (first | (refine wpl_load rfl 56 (.tmp 6) rfl b6 rfl HK6.out stE HTc1.out.size ?_) | (refine wpl_slice rfl 54 56 1 _ rfl (some 23) rfl Tryd.underlying54 c1.toArray (builtE1 HTc1.out.len) ?_))
  refine ⟨fun w6 b23 HK23 ho6 ha23 hb23 => ?_⟩
  have hs6 := ho6.out.size
  replace HW : Hid (OnlyB b w w6) := Lib.hid (HW.out.then_ ho6.out (fun _ _ h => h.elim))
  replace HR := Lib.hid (HR.out.only ho6.out (fun h => h))
  replace HK4 := Lib.hid (ho6.out.heap HK4.out (fun h => h))
  replace HK5 := Lib.hid (ho6.out.heap HK5.out (fun h => h))
  replace HL := Lib.hid (HL.out.only ho6.out (fun _ _ h => h.elim))
  replace HTc1 := Lib.hid (HTc1.out.only ho6.out (fun _ h => h.elim))
  replace HK6 := Lib.hid (ho6.out.heap HK6.out (fun h => h))
  clear ho6
  clear y6 z6
  go_wp2_with (refine wpl_push rfl (.tmp 21) (.tmp 23) 54 rfl elE rfl HL.out rfl HK23.out HTc1.out.len HTc1.out.one HTc1.out (by omega) (by omega) (fun k hk => by have := HLLT.out k hk; omega) (by omega) (by omega) (by omega) ?_)
  refine ⟨fun A1 n1c w7 HLn ho7 => ?_⟩
  have hs7 := ho7.out.size
  clear HL HTc1
  clear HK6
  clear HK23
  replace HW : Hid (OnlyB b w w7) := Lib.hid (HW.out.then_ ho7.out (fun i hi (h : w3.heap.size ≤ i) => by omega))
  replace HR := Lib.hid (HR.out.only ho7.out (by omega))
  replace HK4 := Lib.hid (ho7.out.heap HK4.out (by omega))
  replace HK5 := Lib.hid (ho7.out.heap HK5.out (by omega))
  clear ho7
  have HL := HLn
  clear HLn
  replace HL : Hid (Ls FE 56 7 w3.heap.size b w7 A1 1 n1c (snocF (fun _ => ([], 0)) 0 (t1, kd4))) := HL
  go_wp2_with (refine wpl_set rfl 54 (.tmp 25) (.tmp 24) rfl b5 6 rfl (v := .slice A1 1 n1c) rfl Tryd.sizeOf54 rfl rfl HK5.out (by simp) ?_)
  clear HK5
  refine ⟨fun w8 HK5 ho8 => ?_⟩
  have hs8 := ho8.out.size
  replace HK5 : Hid (w8.heap[b5]? = some (.cells #[.int .i64 8, .int .i64 (at_ : Int), .int .i64 0, .int .i64 0, .int .u64 0, .string ⟨#[]⟩, .slice A1 1 n1c] _)) := HK5
  replace HW : Hid (OnlyB b w w8) := Lib.hid (HW.out.then_ ho8.out (fun i hi (h : i = b5) => by omega))
  replace HR := Lib.hid (HR.out.only ho8.out (by omega))
  replace HK4 := Lib.hid (ho8.out.heap HK4.out (by omega))
  replace HL := Lib.hid (HL.out.only ho8.out (fun i hi (h : i = b5) => by omega))
  clear ho8
  go_wp2_with fail
  refine (is_any HR.out _).mono ?_
  rintro e w9 ⟨ok, rfl, hwe, hik⟩
  obtain rfl := hwe.symm
  cases ok with
  | false =>
   clear hik
   go_wp2_with fail
   have H0 : Hid (BrI s b m w w3.heap.size b4 b5 at_ m4 w8 A1 1 n1c (snocF (fun _ => ([], 0)) 0 (t1, kd4))) := Lib.hid ⟨HR.out, HW.out, HK4.out, HK5.out, HL.out, by omega, by have := HM4.out; have := HM3.out; have h9 := comL_one_len (T := (fun _ => ([], 0))) (t := t1) (k := kd4); omega, by omega⟩
   clear HR HW HK4 HK5 HL
   go_loopg [9] m4 (fun g _ wr => ∃ A n c T, Hid (BrI s b m w w3.heap.size b4 b5 at_ g wr A n c T))
   case atStart => exact ⟨_, _, _, _, H0⟩
   case round =>
    clear H0 HLLT
    obtain ⟨A, n, c, T, HB⟩ := hrel
    have HR := Lib.hid HB.out.rd
    have HW := Lib.hid HB.out.ol
    have HK4 := Lib.hid HB.out.k4
    have HK5 := Lib.hid HB.out.k5
    have HL := Lib.hid HB.out.ls
    have hnn := HB.out.nn
    have HTX := Lib.hid HB.out.tx
    have hsr := HB.out.sz
    clear HB
    go_wp2_with fail
    refine (accept_any HR.out _).mono ?_
    rintro e w10 ⟨ok, m10, rfl, hr, ho, hy, hn⟩
    replace HR := Lib.hid hr
    have HOx := Lib.hid ho
    have hs10 := HOx.out.size
    clear hr ho
    replace HW : Hid (OnlyB b w w10) := Lib.hid (HW.out.then_ HOx.out (fun _ _ h => h))
    replace HK4 := Lib.hid (HOx.out.heap HK4.out (by omega))
    replace HK5 := Lib.hid (HOx.out.heap HK5.out (by omega))
    replace HL := Lib.hid (HL.out.only HOx.out (fun i hi (h : i = b) => by omega))
    clear HOx
    cases ok with
    | false =>
     obtain rfl : m10 = gk := hn rfl
     clear hy hn
     go_wp2_with fail
     refine (must_any HR.out _).mono ?_
     rintro e w11 ⟨rfl, m11, hr, ho, hm⟩
     have hle11 : m11 ≤ m10 := by omega
     have HM11 := Lib.hid hm
     clear hm
     replace HR := Lib.hid hr
     have HOx := Lib.hid ho
     have hs11 := HOx.out.size
     clear hr ho
     replace HW : Hid (OnlyB b w w11) := Lib.hid (HW.out.then_ HOx.out (fun _ _ h => h))
     replace HK4 := Lib.hid (HOx.out.heap HK4.out (by omega))
     replace HK5 := Lib.hid (HOx.out.heap HK5.out (by omega))
     replace HL := Lib.hid (HL.out.only HOx.out (fun i hi (h : i = b) => by omega))
     clear HOx
     go_wp2_with (first | (refine wpl_load rfl 56 (.tmp 5) rfl b5 rfl HK5.out stE rfl ?_) | (refine wpl_store rfl 56 (.tmp 4) (.tmp 57) rfl b4 rfl (cells := #[.int .i64 8, .int .i64 (at_ : Int), .int .i64 0, .int .i64 0, .int .u64 0, .string ⟨#[]⟩, .slice A n c]) rfl HK4.out stE rfl rfl (ones rfl) ?_))
     clear HK4
     refine ⟨fun w12 HK4 ho12 => ?_⟩
     have hs12 := ho12.out.size
     replace HW : Hid (OnlyB b w w12) := Lib.hid (HW.out.then_ ho12.out (fun i hi (h : i = b4) => by omega))
     replace HR := Lib.hid (HR.out.only ho12.out (by omega))
     replace HK5 := Lib.hid (ho12.out.heap HK5.out (by omega))
     replace HL := Lib.hid (HL.out.only ho12.out (fun i hi (h : i = b4) => by omega))
     clear ho12
     have hmm := HR0.out.le
     go_wp2_with fail
     exact bodyPost_ret (ret_box rfl _ rfl HK4.out stE rfl) rfl (ExOut.mk HR.out HW.out (tre_cat (by omega) (HL.out.done.wide (by omega) (by omega))) (by have := HTX.out; have := HM11.out; simp only [List.length_append, List.length_cons, List.length_nil]; omega) rfl)
    | true =>
     obtain ⟨hp10, hl10⟩ := hy rfl
     clear hy hn
     have HLLT := Lib.hid HL.out.lt
     have hmm := HR0.out.le
     have hgm : m10 < m := by have := HTX.out; omega
     go_wp2_with fail
     refine (HI.out.expr _ _ hgm HR.out).mono ?_
     rintro e w11 ⟨c2, t2, kd11, m11, rfl, hr, ho, ht, hm⟩
     have hle11 : m11 ≤ m10 := by omega
     have HM11 := Lib.hid hm
     have HTc2 := Lib.hid ht
     clear hm ht
     replace HR := Lib.hid hr
     have HOx := Lib.hid ho
     have hs11 := HOx.out.size
     clear hr ho
     replace HW : Hid (OnlyB b w w11) := Lib.hid (HW.out.then_ HOx.out (fun _ _ h => h))
     replace HK4 := Lib.hid (HOx.out.heap HK4.out (by omega))
     replace HK5 := Lib.hid (HOx.out.heap HK5.out (by omega))
     replace HL := Lib.hid (HL.out.only HOx.out (fun i hi (h : i = b) => by omega))
     clear HOx
     go_wp2_with (refine wpl_box rfl rfl 56 rfl 9 rfl (.tmp 48) rfl rfl Tryd.zeroValue56 (cells := c2.toArray) (fun _ => rfl) (fun _ => rfl) stE HTc2.out.size rfl HTc2.out.ones ?_)
     refine ⟨fun w12 b9 HK9 ho12 ha9 hb9 => ?_⟩
     have hs12 := ho12.out.size
     replace HW : Hid (OnlyB b w w12) := Lib.hid (HW.out.then_ ho12.out (fun _ _ h => h.elim))
     replace HR := Lib.hid (HR.out.only ho12.out (fun h => h))
     replace HK4 := Lib.hid (ho12.out.heap HK4.out (fun h => h))
     replace HK5 := Lib.hid (ho12.out.heap HK5.out (fun h => h))
     replace HL := Lib.hid (HL.out.only ho12.out (fun _ _ h => h.elim))
     replace HTc2 := Lib.hid (HTc2.out.only ho12.out (fun _ h => h.elim))
     clear ho12
     obtain ⟨y6, z6⟩ : w12.cell? ⟨b5, 6, none⟩ = some (.slice A n c) ∧ w12.frozen? ⟨b5, 6, none⟩ = false := cell_at HK5.out rfl
     go_wp2_with (first | (refine wpl_load rfl 56 (.tmp 9) rfl b9 rfl HK9.out stE HTc2.out.size ?_) | (refine wpl_slice rfl 54 56 1 _ rfl (some 52) rfl Tryd.underlying54 c2.toArray (builtE1 HTc2.out.len) ?_))
     refine ⟨fun w13 b52 HK52 ho13 ha52 hb52 => ?_⟩
     have hs13 := ho13.out.size
     replace HW : Hid (OnlyB b w w13) := Lib.hid (HW.out.then_ ho13.out (fun _ _ h => h.elim))
     replace HR := Lib.hid (HR.out.only ho13.out (fun h => h))
     replace HK4 := Lib.hid (ho13.out.heap HK4.out (fun h => h))
     replace HK5 := Lib.hid (ho13.out.heap HK5.out (fun h => h))
     replace HL := Lib.hid (HL.out.only ho13.out (fun _ _ h => h.elim))
     replace HTc2 := Lib.hid (HTc2.out.only ho13.out (fun _ h => h.elim))
     replace HK9 := Lib.hid (ho13.out.heap HK9.out (fun h => h))
     clear ho13
     clear y6 z6
     go_wp2_with (refine wpl_push rfl (.tmp 50) (.tmp 52) 54 rfl elE rfl HL.out rfl HK52.out HTc2.out.len HTc2.out.one HTc2.out (by omega) (by omega) (fun k hk => by have := HLLT.out k hk; omega) (by omega) (by omega) (by omega) ?_)
     refine ⟨fun A2 n2c w14 HLn ho14 => ?_⟩
     have hs14 := ho14.out.size
     clear HL HTc2
     clear HK9
     clear HK52
     replace HW : Hid (OnlyB b w w14) := Lib.hid (HW.out.then_ ho14.out (fun i hi (h : w3.heap.size ≤ i) => by omega))
     replace HR := Lib.hid (HR.out.only ho14.out (by omega))
     replace HK4 := Lib.hid (ho14.out.heap HK4.out (by omega))
     replace HK5 := Lib.hid (ho14.out.heap HK5.out (by omega))
     clear ho14
     have HL := HLn
     clear HLn
     go_wp2_with (refine wpl_set rfl 54 (.tmp 54) (.tmp 53) rfl b5 6 rfl (v := .slice A2 (n + 1) n2c) rfl Tryd.sizeOf54 rfl rfl HK5.out (by simp) ?_)
     clear HK5
     refine ⟨fun w15 HK5 ho15 => ?_⟩
     have hs15 := ho15.out.size
     replace HK5 : Hid (w15.heap[b5]? = some (.cells #[.int .i64 8, .int .i64 (at_ : Int), .int .i64 0, .int .i64 0, .int .u64 0, .string ⟨#[]⟩, .slice A2 (n + 1) n2c] _)) := HK5
     replace HW : Hid (OnlyB b w w15) := Lib.hid (HW.out.then_ ho15.out (fun i hi (h : i = b5) => by omega))
     replace HR := Lib.hid (HR.out.only ho15.out (by omega))
     replace HK4 := Lib.hid (ho15.out.heap HK4.out (by omega))
     replace HL := Lib.hid (HL.out.only ho15.out (fun i hi (h : i = b5) => by omega))
     clear ho15
     go_wp2_with fail
     go_roundg m11
     case measure => omega
     case rel => exact ⟨A2, n + 1, n2c, _, Lib.hid ⟨HR.out, HW.out, HK4.out, HK5.out, HL.out, by omega, by have := HTX.out; have := HM11.out; have := comL_snoc_len (T := T) (n := n) (t := t2) (k := kd11); omega, by omega⟩⟩
  | true =>
   obtain ⟨HRK, hpos⟩ := hik rfl
   clear hik HRK
   replace HLLT := Lib.hid HL.out.lt
   go_wp2_with fail
   refine (HI.out.braces _ _ true (by omega) hpos HR.out).mono ?_
   rintro e w10 ⟨c3, t3, kd10, m10, rfl, hr, ho, ht, hm⟩
   have hle10 : m10 ≤ m4 := by omega
   have HM10 := Lib.hid hm
   have HTc3 := Lib.hid ht
   clear hm ht
   replace HR := Lib.hid hr
   have HOx := Lib.hid ho
   have hs10 := HOx.out.size
   clear hr ho
   replace HW : Hid (OnlyB b w w10) := Lib.hid (HW.out.then_ HOx.out (fun _ _ h => h))
   replace HK4 := Lib.hid (HOx.out.heap HK4.out (by omega))
   replace HK5 := Lib.hid (HOx.out.heap HK5.out (by omega))
   replace HL := Lib.hid (HL.out.only HOx.out (fun i hi (h : i = b) => by omega))
   clear HOx
   go_wp2_with (refine wpl_box rfl rfl 56 rfl 8 rfl (.tmp 34) rfl rfl Tryd.zeroValue56 (cells := c3.toArray) (fun _ => rfl) (fun _ => rfl) stE HTc3.out.size rfl HTc3.out.ones ?_)
   refine ⟨fun w11 b8 HK8 ho11 ha8 hb8 => ?_⟩
   have hs11 := ho11.out.size
   replace HW : Hid (OnlyB b w w11) := Lib.hid (HW.out.then_ ho11.out (fun _ _ h => h.elim))
   replace HR := Lib.hid (HR.out.only ho11.out (fun h => h))
   replace HK4 := Lib.hid (ho11.out.heap HK4.out (fun h => h))
   replace HK5 := Lib.hid (ho11.out.heap HK5.out (fun h => h))
   replace HL := Lib.hid (HL.out.only ho11.out (fun _ _ h => h.elim))
   replace HTc3 := Lib.hid (HTc3.out.only ho11.out (fun _ h => h.elim))
   clear ho11
   obtain ⟨y6, z6⟩ : w11.cell? ⟨b5, 6, none⟩ = some (.slice A1 1 n1c) ∧ w11.frozen? ⟨b5, 6, none⟩ = false := cell_at HK5.out rfl
   go_wp2_with (first | (refine wpl_load rfl 56 (.tmp 8) rfl b8 rfl HK8.out stE HTc3.out.size ?_) | (refine wpl_slice rfl 54 56 1 _ rfl (some 38) rfl Tryd.underlying54 c3.toArray (builtE1 HTc3.out.len) ?_))
   refine ⟨fun w12 b38 HK38 ho12 ha38 hb38 => ?_⟩
   have hs12 := ho12.out.size
   replace HW : Hid (OnlyB b w w12) := Lib.hid (HW.out.then_ ho12.out (fun _ _ h => h.elim))
   replace HR := Lib.hid (HR.out.only ho12.out (fun h => h))
   replace HK4 := Lib.hid (ho12.out.heap HK4.out (fun h => h))
   replace HK5 := Lib.hid (ho12.out.heap HK5.out (fun h => h))
   replace HL := Lib.hid (HL.out.only ho12.out (fun _ _ h => h.elim))
   replace HTc3 := Lib.hid (HTc3.out.only ho12.out (fun _ h => h.elim))
   replace HK8 := Lib.hid (ho12.out.heap HK8.out (fun h => h))
   clear ho12
   clear y6 z6
   go_wp2_with (refine wpl_push rfl (.tmp 36) (.tmp 38) 54 rfl elE rfl HL.out rfl HK38.out HTc3.out.len HTc3.out.one HTc3.out (by omega) (by omega) (fun k hk => by have := HLLT.out k hk; omega) (by omega) (by omega) (by omega) ?_)
   refine ⟨fun A2 n2c w13 HLn ho13 => ?_⟩
   have hs13 := ho13.out.size
   clear HL HTc3
   clear HK8
   clear HK38
   replace HW : Hid (OnlyB b w w13) := Lib.hid (HW.out.then_ ho13.out (fun i hi (h : w3.heap.size ≤ i) => by omega))
   replace HR := Lib.hid (HR.out.only ho13.out (by omega))
   replace HK4 := Lib.hid (ho13.out.heap HK4.out (by omega))
   replace HK5 := Lib.hid (ho13.out.heap HK5.out (by omega))
   clear ho13
   have HL := HLn
   clear HLn
   replace HL : Hid (Ls FE 56 7 w3.heap.size b w13 A2 2 n2c _) := HL
   go_wp2_with (refine wpl_set rfl 54 (.tmp 40) (.tmp 39) rfl b5 6 rfl (v := .slice A2 2 n2c) rfl Tryd.sizeOf54 rfl rfl HK5.out (by simp) ?_)
   clear HK5
   refine ⟨fun w14 HK5 ho14 => ?_⟩
   have hs14 := ho14.out.size
   replace HK5 : Hid (w14.heap[b5]? = some (.cells #[.int .i64 8, .int .i64 (at_ : Int), .int .i64 0, .int .i64 0, .int .u64 0, .string ⟨#[]⟩, .slice A2 2 n2c] _)) := HK5
   replace HW : Hid (OnlyB b w w14) := Lib.hid (HW.out.then_ ho14.out (fun i hi (h : i = b5) => by omega))
   replace HR := Lib.hid (HR.out.only ho14.out (by omega))
   replace HK4 := Lib.hid (ho14.out.heap HK4.out (by omega))
   replace HL := Lib.hid (HL.out.only ho14.out (fun i hi (h : i = b5) => by omega))
   clear ho14
   go_wp2_with (refine wpl_set rfl 3 (.tmp 41) (.const (.int .i64 9)) rfl b5 0 rfl (v := .int .i64 9) rfl Tryd.sizeOf3 rfl rfl HK5.out (by simp) ?_)
   clear HK5
   refine ⟨fun w15 HK5 ho15 => ?_⟩
   have hs15 := ho15.out.size
   replace HK5 : Hid (w15.heap[b5]? = some (.cells #[.int .i64 9, .int .i64 (at_ : Int), .int .i64 0, .int .i64 0, .int .u64 0, .string ⟨#[]⟩, .slice A2 2 n2c] _)) := HK5
   replace HW : Hid (OnlyB b w w15) := Lib.hid (HW.out.then_ ho15.out (fun i hi (h : i = b5) => by omega))
   replace HR := Lib.hid (HR.out.only ho15.out (by omega))
   replace HK4 := Lib.hid (ho15.out.heap HK4.out (by omega))
   replace HL := Lib.hid (HL.out.only ho15.out (fun i hi (h : i = b5) => by omega))
   clear ho15
   go_wp2_with fail
   refine (must_any HR.out _).mono ?_
   rintro e w16 ⟨rfl, m16, hr, ho, hm⟩
   have hle16 : m16 ≤ m10 := by omega
   have HM16 := Lib.hid hm
   clear hm
   replace HR := Lib.hid hr
   have HOx := Lib.hid ho
   have hs16 := HOx.out.size
   clear hr ho
   replace HW : Hid (OnlyB b w w16) := Lib.hid (HW.out.then_ HOx.out (fun _ _ h => h))
   replace HK4 := Lib.hid (HOx.out.heap HK4.out (by omega))
   replace HK5 := Lib.hid (HOx.out.heap HK5.out (by omega))
   replace HL := Lib.hid (HL.out.only HOx.out (fun i hi (h : i = b) => by omega))
   clear HOx
   go_wp2_with (first | (refine wpl_load rfl 56 (.tmp 5) rfl b5 rfl HK5.out stE rfl ?_) | (refine wpl_store rfl 56 (.tmp 4) (.tmp 44) rfl b4 rfl (cells := #[.int .i64 9, .int .i64 (at_ : Int), .int .i64 0, .int .i64 0, .int .u64 0, .string ⟨#[]⟩, .slice A2 2 n2c]) rfl HK4.out stE rfl rfl (ones rfl) ?_))
   clear HK4
   refine ⟨fun w17 HK4 ho17 => ?_⟩
   have hs17 := ho17.out.size
   replace HW : Hid (OnlyB b w w17) := Lib.hid (HW.out.then_ ho17.out (fun i hi (h : i = b4) => by omega))
   replace HR := Lib.hid (HR.out.only ho17.out (by omega))
   replace HK5 := Lib.hid (ho17.out.heap HK5.out (by omega))
   replace HL := Lib.hid (HL.out.only ho17.out (fun i hi (h : i = b4) => by omega))
   clear ho17
   go_wp2_with fail
   exact bodyPost_ret (ret_box rfl _ rfl HK4.out stE rfl) rfl (ExOut.mk HR.out HW.out (tre_rep (HL.out.done.wide (by omega) (by omega)) (by rw [snocF_lt _ _ (by omega), snocF_at]) (snocF_at _ _ _)) (by have := HM3.out; have := HM4.out; have := HM10.out; have := HM16.out; simp only [List.length_append, List.length_cons, List.length_nil]; omega) rfl)
 | true =>
  have hlt := HR.out.lt
  have HW : Hid (OnlyB b w w) := Lib.hid (Only.refl _ w)
  go_enter Tryd.func79, Tryd.ntmps79
  go_wp2_with (refine wpl_alloc rfl 56 rfl (some 4) rfl Tryd.zeroValue56 ?_)
  refine ⟨fun w1 b4 HK4 ho1 ha4 hb4 => ?_⟩
  have hs1 := ho1.out.size
  replace HW : Hid (OnlyB b w w1) := Lib.hid (HW.out.then_ ho1.out (fun _ _ h => h.elim))
  replace HR := Lib.hid (HR.out.only ho1.out (fun h => h))
  clear ho1
  obtain ⟨kd, at_, wd, T, num, q, code, fat, hrf⟩ := HR.out
  have HF := Lib.hid hrf
  clear hrf
  obtain ⟨y2, z2⟩ := HF.out.c2
  go_wp2_with (refine wpl_box rfl rfl 56 rfl 5 rfl (.tmp 15) rfl rfl Tryd.zeroValue56 (cells := #[.int .i64 8, .int .i64 (at_ : Int), .int .i64 0, .int .i64 0, .int .u64 0, .string ⟨#[]⟩, .slice none 0 0]) (fun _ => rfl) (fun _ => rfl) stE rfl rfl (ones rfl) ?_)
  refine ⟨fun w2 b5 HK5 ho2 ha5 hb5 => ?_⟩
  have hs2 := ho2.out.size
  replace HW : Hid (OnlyB b w w2) := Lib.hid (HW.out.then_ ho2.out (fun _ _ h => h.elim))
  replace HR := Lib.hid (HR.out.only ho2.out (fun h => h))
  replace HK4 := Lib.hid (ho2.out.heap HK4.out (fun h => h))
  clear ho2
  clear y2 z2 HF
  go_wp2_with fail
  refine (must_any HR.out _).mono ?_
  rintro e w3 ⟨rfl, m3, hr, ho, hm⟩
  have hle3 : m3 ≤ m := by omega
  have HM3 := Lib.hid hm
  clear hm
  replace HR := Lib.hid hr
  have HOx := Lib.hid ho
  have hs3 := HOx.out.size
  clear hr ho
  replace HW : Hid (OnlyB b w w3) := Lib.hid (HW.out.then_ HOx.out (fun _ _ h => h))
  replace HK4 := Lib.hid (HOx.out.heap HK4.out (by omega))
  replace HK5 := Lib.hid (HOx.out.heap HK5.out (by omega))
  clear HOx
  have hlm : m3 < m := by have := HM3.out; omega
  have HL : Hid (Ls FE 56 7 w3.heap.size b w3 none 0 0 (fun _ => ([], 0))) := Lib.hid Ls.nil
  have HLLT := Lib.hid HL.out.lt
  go_wp2_with fail
  refine (HI.out.expr _ _ hlm HR.out).mono ?_
  rintro e w4 ⟨c1, t1, kd4, m4, rfl, hr, ho, ht, hm⟩
  have hle4 : m4 ≤ m3 := by omega
  have HM4 := Lib.hid hm
  have HTc1 := Lib.hid ht
  clear hm ht
  replace HR := Lib.hid hr
  have HOx := Lib.hid ho
  have hs4 := HOx.out.size
  clear hr ho
  replace HW : Hid (OnlyB b w w4) := Lib.hid (HW.out.then_ HOx.out (fun _ _ h => h))
  replace HK4 := Lib.hid (HOx.out.heap HK4.out (by omega))
  replace HK5 := Lib.hid (HOx.out.heap HK5.out (by omega))
  replace HL := Lib.hid (HL.out.only HOx.out (fun i hi (h : i = b) => by omega))
  clear HOx
  go_wp2_with (refine wpl_box rfl rfl 56 rfl 6 rfl (.tmp 19) rfl rfl Tryd.zeroValue56 (cells := c1.toArray) (fun _ => rfl) (fun _ => rfl) stE HTc1.out.size rfl HTc1.out.ones ?_)
  refine ⟨fun w5 b6 HK6 ho5 ha6 hb6 => ?_⟩
  have hs5 := ho5.out.size
  replace HW : Hid (OnlyB b w w5) := Lib.hid (HW.out.then_ ho5.out (fun _ _ h => h.elim))
  replace HR := Lib.hid (HR.out.only ho5.out (fun h => h))
  replace HK4 := Lib.hid (ho5.out.heap HK4.out (fun h => h))
  replace HK5 := Lib.hid (ho5.out.heap HK5.out (fun h => h))
  replace HL := Lib.hid (HL.out.only ho5.out (fun _ _ h => h.elim))
  replace HTc1 := Lib.hid (HTc1.out.only ho5.out (fun _ h => h.elim))
  clear ho5
  obtain ⟨y6, z6⟩ : w5.cell? ⟨b5, 6, none⟩ = some (.slice none 0 0) ∧ w5.frozen? ⟨b5, 6, none⟩ = false := cell_at HK5.out rfl
  go_wp2_with (first | (refine wpl_load rfl 56 (.tmp 6) rfl b6 rfl HK6.out stE HTc1.out.size ?_) | (refine wpl_slice rfl 54 56 1 _ rfl (some 23) rfl Tryd.underlying54 c1.toArray (builtE1 HTc1.out.len) ?_))
  refine ⟨fun w6 b23 HK23 ho6 ha23 hb23 => ?_⟩
  have hs6 := ho6.out.size
  replace HW : Hid (OnlyB b w w6) := Lib.hid (HW.out.then_ ho6.out (fun _ _ h => h.elim))
  replace HR := Lib.hid (HR.out.only ho6.out (fun h => h))
  replace HK4 := Lib.hid (ho6.out.heap HK4.out (fun h => h))
  replace HK5 := Lib.hid (ho6.out.heap HK5.out (fun h => h))
  replace HL := Lib.hid (HL.out.only ho6.out (fun _ _ h => h.elim))
  replace HTc1 := Lib.hid (HTc1.out.only ho6.out (fun _ h => h.elim))
  replace HK6 := Lib.hid (ho6.out.heap HK6.out (fun h => h))
  clear ho6
  clear y6 z6
  go_wp2_with (refine wpl_push rfl (.tmp 21) (.tmp 23) 54 rfl elE rfl HL.out rfl HK23.out HTc1.out.len HTc1.out.one HTc1.out (by omega) (by omega) (fun k hk => by have := HLLT.out k hk; omega) (by omega) (by omega) (by omega) ?_)
  refine ⟨fun A1 n1c w7 HLn ho7 => ?_⟩
  have hs7 := ho7.out.size
  clear HL HTc1
  clear HK6
  clear HK23
  replace HW : Hid (OnlyB b w w7) := Lib.hid (HW.out.then_ ho7.out (fun i hi (h : w3.heap.size ≤ i) => by omega))
  replace HR := Lib.hid (HR.out.only ho7.out (by omega))
  replace HK4 := Lib.hid (ho7.out.heap HK4.out (by omega))
  replace HK5 := Lib.hid (ho7.out.heap HK5.out (by omega))
  clear ho7
  have HL := HLn
  clear HLn
  replace HL : Hid (Ls FE 56 7 w3.heap.size b w7 A1 1 n1c (snocF (fun _ => ([], 0)) 0 (t1, kd4))) := HL
  go_wp2_with (refine wpl_set rfl 54 (.tmp 25) (.tmp 24) rfl b5 6 rfl (v := .slice A1 1 n1c) rfl Tryd.sizeOf54 rfl rfl HK5.out (by simp) ?_)
  clear HK5
  refine ⟨fun w8 HK5 ho8 => ?_⟩
  have hs8 := ho8.out.size
  replace HK5 : Hid (w8.heap[b5]? = some (.cells #[.int .i64 8, .int .i64 (at_ : Int), .int .i64 0, .int .i64 0, .int .u64 0, .string ⟨#[]⟩, .slice A1 1 n1c] _)) := HK5
  replace HW : Hid (OnlyB b w w8) := Lib.hid (HW.out.then_ ho8.out (fun i hi (h : i = b5) => by omega))
  replace HR := Lib.hid (HR.out.only ho8.out (by omega))
  replace HK4 := Lib.hid (ho8.out.heap HK4.out (by omega))
  replace HL := Lib.hid (HL.out.only ho8.out (fun i hi (h : i = b5) => by omega))
  clear ho8
  go_wp2_with fail
  refine (is_any HR.out _).mono ?_
  rintro e w9 ⟨ok, rfl, hwe, hik⟩
  obtain rfl := hwe.symm
  cases ok with
  | false =>
   clear hik
   go_wp2_with fail
   have H0 : Hid (BrI s b m w w3.heap.size b4 b5 at_ m4 w8 A1 1 n1c (snocF (fun _ => ([], 0)) 0 (t1, kd4))) := Lib.hid ⟨HR.out, HW.out, HK4.out, HK5.out, HL.out, by omega, by have := HM4.out; have := HM3.out; have h9 := comL_one_len (T := (fun _ => ([], 0))) (t := t1) (k := kd4); omega, by omega⟩
   clear HR HW HK4 HK5 HL
   go_loopg [9] m4 (fun g _ wr => ∃ A n c T, Hid (BrI s b m w w3.heap.size b4 b5 at_ g wr A n c T))
   case atStart => exact ⟨_, _, _, _, H0⟩
   case round =>
    clear H0 HLLT
    obtain ⟨A, n, c, T, HB⟩ := hrel
    have HR := Lib.hid HB.out.rd
    have HW := Lib.hid HB.out.ol
    have HK4 := Lib.hid HB.out.k4
    have HK5 := Lib.hid HB.out.k5
    have HL := Lib.hid HB.out.ls
    have hnn := HB.out.nn
    have HTX := Lib.hid HB.out.tx
    have hsr := HB.out.sz
    clear HB
    go_wp2_with fail
    refine (accept_any HR.out _).mono ?_
    rintro e w10 ⟨ok, m10, rfl, hr, ho, hy, hn⟩
    replace HR := Lib.hid hr
    have HOx := Lib.hid ho
    have hs10 := HOx.out.size
    clear hr ho
    replace HW : Hid (OnlyB b w w10) := Lib.hid (HW.out.then_ HOx.out (fun _ _ h => h))
    replace HK4 := Lib.hid (HOx.out.heap HK4.out (by omega))
    replace HK5 := Lib.hid (HOx.out.heap HK5.out (by omega))
    replace HL := Lib.hid (HL.out.only HOx.out (fun i hi (h : i = b) => by omega))
    clear HOx
    cases ok with
    | false =>
     obtain rfl : m10 = gk := hn rfl
     clear hy hn
     go_wp2_with fail
     refine (must_any HR.out _).mono ?_
     rintro e w11 ⟨rfl, m11, hr, ho, hm⟩
     have hle11 : m11 ≤ m10 := by omega
     have HM11 := Lib.hid hm
     clear hm
     replace HR := Lib.hid hr
     have HOx := Lib.hid ho
     have hs11 := HOx.out.size
     clear hr ho
     replace HW : Hid (OnlyB b w w11) := Lib.hid (HW.out.then_ HOx.out (fun _ _ h => h))
     replace HK4 := Lib.hid (HOx.out.heap HK4.out (by omega))
     replace HK5 := Lib.hid (HOx.out.heap HK5.out (by omega))
     replace HL := Lib.hid (HL.out.only HOx.out (fun i hi (h : i = b) => by omega))
     clear HOx
     go_wp2_with (first | (refine wpl_load rfl 56 (.tmp 5) rfl b5 rfl HK5.out stE rfl ?_) | (refine wpl_store rfl 56 (.tmp 4) (.tmp 57) rfl b4 rfl (cells := #[.int .i64 8, .int .i64 (at_ : Int), .int .i64 0, .int .i64 0, .int .u64 0, .string ⟨#[]⟩, .slice A n c]) rfl HK4.out stE rfl rfl (ones rfl) ?_))
     clear HK4
     refine ⟨fun w12 HK4 ho12 => ?_⟩
     have hs12 := ho12.out.size
     replace HW : Hid (OnlyB b w w12) := Lib.hid (HW.out.then_ ho12.out (fun i hi (h : i = b4) => by omega))
     replace HR := Lib.hid (HR.out.only ho12.out (by omega))
     replace HK5 := Lib.hid (ho12.out.heap HK5.out (by omega))
     replace HL := Lib.hid (HL.out.only ho12.out (fun i hi (h : i = b4) => by omega))
     clear ho12
     have hmm := HR0.out.le
     go_wp2_with fail
     exact bodyPost_ret (ret_box rfl _ rfl HK4.out stE rfl) rfl (ExOut.mk HR.out HW.out (tre_cat (by omega) (HL.out.done.wide (by omega) (by omega))) (by have := HTX.out; have := HM11.out; simp only [List.length_append, List.length_cons, List.length_nil]; omega) rfl)
    | true =>
     obtain ⟨hp10, hl10⟩ := hy rfl
     clear hy hn
     have HLLT := Lib.hid HL.out.lt
     have hmm := HR0.out.le
     have hgm : m10 < m := by have := HTX.out; omega
     go_wp2_with fail
     refine (HI.out.expr _ _ hgm HR.out).mono ?_
     rintro e w11 ⟨c2, t2, kd11, m11, rfl, hr, ho, ht, hm⟩
     have hle11 : m11 ≤ m10 := by omega
     have HM11 := Lib.hid hm
     have HTc2 := Lib.hid ht
     clear hm ht
     replace HR := Lib.hid hr
     have HOx := Lib.hid ho
     have hs11 := HOx.out.size
     clear hr ho
     replace HW : Hid (OnlyB b w w11) := Lib.hid (HW.out.then_ HOx.out (fun _ _ h => h))
     replace HK4 := Lib.hid (HOx.out.heap HK4.out (by omega))
     replace HK5 := Lib.hid (HOx.out.heap HK5.out (by omega))
     replace HL := Lib.hid (HL.out.only HOx.out (fun i hi (h : i = b) => by omega))
     clear HOx
     go_wp2_with (refine wpl_box rfl rfl 56 rfl 9 rfl (.tmp 48) rfl rfl Tryd.zeroValue56 (cells := c2.toArray) (fun _ => rfl) (fun _ => rfl) stE HTc2.out.size rfl HTc2.out.ones ?_)
     refine ⟨fun w12 b9 HK9 ho12 ha9 hb9 => ?_⟩
     have hs12 := ho12.out.size
     replace HW : Hid (OnlyB b w w12) := Lib.hid (HW.out.then_ ho12.out (fun _ _ h => h.elim))
     replace HR := Lib.hid (HR.out.only ho12.out (fun h => h))
     replace HK4 := Lib.hid (ho12.out.heap HK4.out (fun h => h))
     replace HK5 := Lib.hid (ho12.out.heap HK5.out (fun h => h))
     replace HL := Lib.hid (HL.out.only ho12.out (fun _ _ h => h.elim))
     replace HTc2 := Lib.hid (HTc2.out.only ho12.out (fun _ h => h.elim))
     clear ho12
     obtain ⟨y6, z6⟩ : w12.cell? ⟨b5, 6, none⟩ = some (.slice A n c) ∧ w12.frozen? ⟨b5, 6, none⟩ = false := cell_at HK5.out rfl
     go_wp2_with (first | (refine wpl_load rfl 56 (.tmp 9) rfl b9 rfl HK9.out stE HTc2.out.size ?_) | (refine wpl_slice rfl 54 56 1 _ rfl (some 52) rfl Tryd.underlying54 c2.toArray (builtE1 HTc2.out.len) ?_))
     refine ⟨fun w13 b52 HK52 ho13 ha52 hb52 => ?_⟩
     have hs13 := ho13.out.size
     replace HW : Hid (OnlyB b w w13) := Lib.hid (HW.out.then_ ho13.out (fun _ _ h => h.elim))
     replace HR := Lib.hid (HR.out.only ho13.out (fun h => h))
     replace HK4 := Lib.hid (ho13.out.heap HK4.out (fun h => h))
     replace HK5 := Lib.hid (ho13.out.heap HK5.out (fun h => h))
     replace HL := Lib.hid (HL.out.only ho13.out (fun _ _ h => h.elim))
     replace HTc2 := Lib.hid (HTc2.out.only ho13.out (fun _ h => h.elim))
     replace HK9 := Lib.hid (ho13.out.heap HK9.out (fun h => h))
     clear ho13
     clear y6 z6
     go_wp2_with (refine wpl_push rfl (.tmp 50) (.tmp 52) 54 rfl elE rfl HL.out rfl HK52.out HTc2.out.len HTc2.out.one HTc2.out (by omega) (by omega) (fun k hk => by have := HLLT.out k hk; omega) (by omega) (by omega) (by omega) ?_)
     refine ⟨fun A2 n2c w14 HLn ho14 => ?_⟩
     have hs14 := ho14.out.size
     clear HL HTc2
     clear HK9
     clear HK52
     replace HW : Hid (OnlyB b w w14) := Lib.hid (HW.out.then_ ho14.out (fun i hi (h : w3.heap.size ≤ i) => by omega))
     replace HR := Lib.hid (HR.out.only ho14.out (by omega))
     replace HK4 := Lib.hid (ho14.out.heap HK4.out (by omega))
     replace HK5 := Lib.hid (ho14.out.heap HK5.out (by omega))
     clear ho14
     have HL := HLn
     clear HLn
     go_wp2_with (refine wpl_set rfl 54 (.tmp 54) (.tmp 53) rfl b5 6 rfl (v := .slice A2 (n + 1) n2c) rfl Tryd.sizeOf54 rfl rfl HK5.out (by simp) ?_)
     clear HK5
     refine ⟨fun w15 HK5 ho15 => ?_⟩
     have hs15 := ho15.out.size
     replace HK5 : Hid (w15.heap[b5]? = some (.cells #[.int .i64 8, .int .i64 (at_ : Int), .int .i64 0, .int .i64 0, .int .u64 0, .string ⟨#[]⟩, .slice A2 (n + 1) n2c] _)) := HK5
     replace HW : Hid (OnlyB b w w15) := Lib.hid (HW.out.then_ ho15.out (fun i hi (h : i = b5) => by omega))
     replace HR := Lib.hid (HR.out.only ho15.out (by omega))
     replace HK4 := Lib.hid (ho15.out.heap HK4.out (by omega))
     replace HL := Lib.hid (HL.out.only ho15.out (fun i hi (h : i = b5) => by omega))
     clear ho15
     go_wp2_with fail
     go_roundg m11
     case measure => omega
     case rel => exact ⟨A2, n + 1, n2c, _, Lib.hid ⟨HR.out, HW.out, HK4.out, HK5.out, HL.out, by omega, by have := HTX.out; have := HM11.out; have := comL_snoc_len (T := T) (n := n) (t := t2) (k := kd11); omega, by omega⟩⟩
  | true =>
   obtain ⟨HRK, hpos⟩ := hik rfl
   clear hik HRK
   have hik : True := trivial
   clear hpos
   clear hik
   go_wp2_with fail
   have H0 : Hid (BrI s b m w w3.heap.size b4 b5 at_ m4 w8 A1 1 n1c (snocF (fun _ => ([], 0)) 0 (t1, kd4))) := Lib.hid ⟨HR.out, HW.out, HK4.out, HK5.out, HL.out, by omega, by have := HM4.out; have := HM3.out; have h9 := comL_one_len (T := (fun _ => ([], 0))) (t := t1) (k := kd4); omega, by omega⟩
   clear HR HW HK4 HK5 HL
   go_loopg [9] m4 (fun g _ wr => ∃ A n c T, Hid (BrI s b m w w3.heap.size b4 b5 at_ g wr A n c T))
   case atStart => exact ⟨_, _, _, _, H0⟩
   case round =>
    clear H0 HLLT
    obtain ⟨A, n, c, T, HB⟩ := hrel
    have HR := Lib.hid HB.out.rd
    have HW := Lib.hid HB.out.ol
    have HK4 := Lib.hid HB.out.k4
    have HK5 := Lib.hid HB.out.k5
    have HL := Lib.hid HB.out.ls
    have hnn := HB.out.nn
    have HTX := Lib.hid HB.out.tx
    have hsr := HB.out.sz
    clear HB
    go_wp2_with fail
    refine (accept_any HR.out _).mono ?_
    rintro e w10 ⟨ok, m10, rfl, hr, ho, hy, hn⟩
    replace HR := Lib.hid hr
    have HOx := Lib.hid ho
    have hs10 := HOx.out.size
    clear hr ho
    replace HW : Hid (OnlyB b w w10) := Lib.hid (HW.out.then_ HOx.out (fun _ _ h => h))
    replace HK4 := Lib.hid (HOx.out.heap HK4.out (by omega))
    replace HK5 := Lib.hid (HOx.out.heap HK5.out (by omega))
    replace HL := Lib.hid (HL.out.only HOx.out (fun i hi (h : i = b) => by omega))
    clear HOx
    cases ok with
    | false =>
     obtain rfl : m10 = gk := hn rfl
     clear hy hn
     go_wp2_with fail
     refine (must_any HR.out _).mono ?_
     rintro e w11 ⟨rfl, m11, hr, ho, hm⟩
     have hle11 : m11 ≤ m10 := by omega
     have HM11 := Lib.hid hm
     clear hm
     replace HR := Lib.hid hr
     have HOx := Lib.hid ho
     have hs11 := HOx.out.size
     clear hr ho
     replace HW : Hid (OnlyB b w w11) := Lib.hid (HW.out.then_ HOx.out (fun _ _ h => h))
     replace HK4 := Lib.hid (HOx.out.heap HK4.out (by omega))
     replace HK5 := Lib.hid (HOx.out.heap HK5.out (by omega))
     replace HL := Lib.hid (HL.out.only HOx.out (fun i hi (h : i = b) => by omega))
     clear HOx
     go_wp2_with (first | (refine wpl_load rfl 56 (.tmp 5) rfl b5 rfl HK5.out stE rfl ?_) | (refine wpl_store rfl 56 (.tmp 4) (.tmp 57) rfl b4 rfl (cells := #[.int .i64 8, .int .i64 (at_ : Int), .int .i64 0, .int .i64 0, .int .u64 0, .string ⟨#[]⟩, .slice A n c]) rfl HK4.out stE rfl rfl (ones rfl) ?_))
     clear HK4
     refine ⟨fun w12 HK4 ho12 => ?_⟩
     have hs12 := ho12.out.size
     replace HW : Hid (OnlyB b w w12) := Lib.hid (HW.out.then_ ho12.out (fun i hi (h : i = b4) => by omega))
     replace HR := Lib.hid (HR.out.only ho12.out (by omega))
     replace HK5 := Lib.hid (ho12.out.heap HK5.out (by omega))
     replace HL := Lib.hid (HL.out.only ho12.out (fun i hi (h : i = b4) => by omega))
     clear ho12
     have hmm := HR0.out.le
     go_wp2_with fail
     exact bodyPost_ret (ret_box rfl _ rfl HK4.out stE rfl) rfl (ExOut.mk HR.out HW.out (tre_cat (by omega) (HL.out.done.wide (by omega) (by omega))) (by have := HTX.out; have := HM11.out; simp only [List.length_append, List.length_cons, List.length_nil]; omega) rfl)
    | true =>
     obtain ⟨hp10, hl10⟩ := hy rfl
     clear hy hn
     have HLLT := Lib.hid HL.out.lt
     have hmm := HR0.out.le
     have hgm : m10 < m := by have := HTX.out; omega
     go_wp2_with fail
     refine (HI.out.expr _ _ hgm HR.out).mono ?_
     rintro e w11 ⟨c2, t2, kd11, m11, rfl, hr, ho, ht, hm⟩
     have hle11 : m11 ≤ m10 := by omega
     have HM11 := Lib.hid hm
     have HTc2 := Lib.hid ht
     clear hm ht
     replace HR := Lib.hid hr
     have HOx := Lib.hid ho
     have hs11 := HOx.out.size
     clear hr ho
     replace HW : Hid (OnlyB b w w11) := Lib.hid (HW.out.then_ HOx.out (fun _ _ h => h))
     replace HK4 := Lib.hid (HOx.out.heap HK4.out (by omega))
     replace HK5 := Lib.hid (HOx.out.heap HK5.out (by omega))
     replace HL := Lib.hid (HL.out.only HOx.out (fun i hi (h : i = b) => by omega))
     clear HOx
     go_wp2_with (refine wpl_box rfl rfl 56 rfl 9 rfl (.tmp 48) rfl rfl Tryd.zeroValue56 (cells := c2.toArray) (fun _ => rfl) (fun _ => rfl) stE HTc2.out.size rfl HTc2.out.ones ?_)
     refine ⟨fun w12 b9 HK9 ho12 ha9 hb9 => ?_⟩
     have hs12 := ho12.out.size
     replace HW : Hid (OnlyB b w w12) := Lib.hid (HW.out.then_ ho12.out (fun _ _ h => h.elim))
     replace HR := Lib.hid (HR.out.only ho12.out (fun h => h))
     replace HK4 := Lib.hid (ho12.out.heap HK4.out (fun h => h))
     replace HK5 := Lib.hid (ho12.out.heap HK5.out (fun h => h))
     replace HL := Lib.hid (HL.out.only ho12.out (fun _ _ h => h.elim))
     replace HTc2 := Lib.hid (HTc2.out.only ho12.out (fun _ h => h.elim))
     clear ho12
     obtain ⟨y6, z6⟩ : w12.cell? ⟨b5, 6, none⟩ = some (.slice A n c) ∧ w12.frozen? ⟨b5, 6, none⟩ = false := cell_at HK5.out rfl
     go_wp2_with (first | (refine wpl_load rfl 56 (.tmp 9) rfl b9 rfl HK9.out stE HTc2.out.size ?_) | (refine wpl_slice rfl 54 56 1 _ rfl (some 52) rfl Tryd.underlying54 c2.toArray (builtE1 HTc2.out.len) ?_))
     refine ⟨fun w13 b52 HK52 ho13 ha52 hb52 => ?_⟩
     have hs13 := ho13.out.size
     replace HW : Hid (OnlyB b w w13) := Lib.hid (HW.out.then_ ho13.out (fun _ _ h => h.elim))
     replace HR := Lib.hid (HR.out.only ho13.out (fun h => h))
     replace HK4 := Lib.hid (ho13.out.heap HK4.out (fun h => h))
     replace HK5 := Lib.hid (ho13.out.heap HK5.out (fun h => h))
     replace HL := Lib.hid (HL.out.only ho13.out (fun _ _ h => h.elim))
     replace HTc2 := Lib.hid (HTc2.out.only ho13.out (fun _ h => h.elim))
     replace HK9 := Lib.hid (ho13.out.heap HK9.out (fun h => h))
     clear ho13
     clear y6 z6
     go_wp2_with (refine wpl_push rfl (.tmp 50) (.tmp 52) 54 rfl elE rfl HL.out rfl HK52.out HTc2.out.len HTc2.out.one HTc2.out (by omega) (by omega) (fun k hk => by have := HLLT.out k hk; omega) (by omega) (by omega) (by omega) ?_)
     refine ⟨fun A2 n2c w14 HLn ho14 => ?_⟩
     have hs14 := ho14.out.size
     clear HL HTc2
     clear HK9
     clear HK52
     replace HW : Hid (OnlyB b w w14) := Lib.hid (HW.out.then_ ho14.out (fun i hi (h : w3.heap.size ≤ i) => by omega))
     replace HR := Lib.hid (HR.out.only ho14.out (by omega))
     replace HK4 := Lib.hid (ho14.out.heap HK4.out (by omega))
     replace HK5 := Lib.hid (ho14.out.heap HK5.out (by omega))
     clear ho14
     have HL := HLn
     clear HLn
     go_wp2_with (refine wpl_set rfl 54 (.tmp 54) (.tmp 53) rfl b5 6 rfl (v := .slice A2 (n + 1) n2c) rfl Tryd.sizeOf54 rfl rfl HK5.out (by simp) ?_)
     clear HK5
     refine ⟨fun w15 HK5 ho15 => ?_⟩
     have hs15 := ho15.out.size
     replace HK5 : Hid (w15.heap[b5]? = some (.cells #[.int .i64 8, .int .i64 (at_ : Int), .int .i64 0, .int .i64 0, .int .u64 0, .string ⟨#[]⟩, .slice A2 (n + 1) n2c] _)) := HK5
     replace HW : Hid (OnlyB b w w15) := Lib.hid (HW.out.then_ ho15.out (fun i hi (h : i = b5) => by omega))
     replace HR := Lib.hid (HR.out.only ho15.out (by omega))
     replace HK4 := Lib.hid (ho15.out.heap HK4.out (by omega))
     replace HL := Lib.hid (HL.out.only ho15.out (fun i hi (h : i = b5) => by omega))
     clear ho15
     go_wp2_with fail
     go_roundg m11
     case measure => omega
     case rel => exact ⟨A2, n + 1, n2c, _, Lib.hid ⟨HR.out, HW.out, HK4.out, HK5.out, HL.out, by omega, by have := HTX.out; have := HM11.out; have := comL_snoc_len (T := T) (n := n) (t := t2) (k := kd11); omega, by omega⟩⟩
end Go.Proofs.YtbdcpealkllfnaaDoor
