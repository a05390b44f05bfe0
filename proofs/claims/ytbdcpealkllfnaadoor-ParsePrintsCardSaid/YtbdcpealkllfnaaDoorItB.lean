/- The reference's Reader: use, port, walked. Condition: the text has at most 60000 bytes. -/
import Derived.Test.YtbdcpealkllfnaaDoorItA
namespace Go.Proofs.YtbdcpealkllfnaaDoor
open Go.RowKit Go.Deep

theorem built_at (at0 : Int) : Tryd.prog.built 75 [(1, .int .i64 at0)] = some (cellsI (⟨0, at0, [], [], zRL, zRL, false, zEL, zEL, false, zSL, none, 0, 0, none, 0, 0, none, 0, 0, [], none, 0, 0, false, [], none, 0, 0⟩ : ItV)).toArray := by kernel_rfl
theorem built_use (at0 : Int) : Tryd.prog.built 75 [(0, .int .i64 7), (1, .int .i64 at0)] = some (cellsI (⟨7, at0, [], [], zRL, zRL, false, zEL, zEL, false, zSL, none, 0, 0, none, 0, 0, none, 0, 0, [], none, 0, 0, false, [], none, 0, 0⟩ : ItV)).toArray := by kernel_rfl
theorem one_zero (kd at0 : Int) : ∀ v ∈ (cellsI (⟨kd, at0, [], [], zRL, zRL, false, zEL, zEL, false, zSL, none, 0, 0, none, 0, 0, none, 0, 0, [], none, 0, 0, false, [], none, 0, 0⟩ : ItV)).toArray.toList, v.oneCell' = true := fun v hv => List.all_eq_true.1 (show (cellsI (⟨kd, at0, [], [], zRL, zRL, false, zEL, zEL, false, zSL, none, 0, 0, none, 0, 0, none, 0, 0, [], none, 0, 0, false, [], none, 0, 0⟩ : ItV)).toArray.toList.all (·.oneCell') = true from rfl) v hv
theorem if_len (c : Prop) [Decidable c] (a : LB) : (if c then a else []).length ≤ a.length := by split <;> simp
set_option maxRecDepth 100000 in
set_option maxHeartbeats 8000000 in
theorem use_any {s : ByteArray} {b m : Nat} {w : World} (HR : Hid (RdS s b w m)) : Calls Tryd.prog 61 #[.pointer (some ⟨b, 0, none⟩)] w (UseOut s b m w) := by
 have HR0 := HR
 have hlt := HR.out.lt
 have HW : Hid (OnlyB b w w) := Lib.hid (Only.refl _ w)
 go_enter Tryd.func61, Tryd.ntmps61
 go_wp2_with (refine wpl_alloc rfl 75 rfl (some 2) rfl zeroI ?_)
 refine ⟨fun w1 b2 HK2 ho1 ha2 hb2 => ?_⟩
 have hs1 := ho1.out.size
 replace HW : Hid (OnlyB b w w1) := Lib.hid (HW.out.then_ ho1.out (fun _ _ h => h.elim))
 replace HR := Lib.hid (HR.out.only ho1.out (fun h => h))
 clear ho1
 obtain ⟨kd, at_, wd, T, num, q, code, fat, hrf⟩ := HR.out
 have HF := Lib.hid hrf
 clear hrf
 obtain ⟨y2, z2⟩ := HF.out.c2
 go_wp2_with (first | (refine wpl_build rfl 75 [(0, .const (.int .i64 7)), (1, .tmp 9)] rfl (some 10) rfl (cellsI (⟨7, (at_ : Int), [], [], zRL, zRL, false, zEL, zEL, false, zSL, none, 0, 0, none, 0, 0, none, 0, 0, [], none, 0, 0, false, [], none, 0, 0⟩ : ItV)).toArray (built_use (at_ : Int)) ?_) | (refine wpl_box rfl rfl 75 rfl 3 rfl (.tmp 10) rfl rfl zeroI (cells := (cellsI (⟨7, (at_ : Int), [], [], zRL, zRL, false, zEL, zEL, false, zSL, none, 0, 0, none, 0, 0, none, 0, 0, [], none, 0, 0, false, [], none, 0, 0⟩ : ItV)).toArray) (fun _ => rfl) (fun _ => rfl) stI (by simpa using cellsI_len (x := (⟨7, (at_ : Int), [], [], zRL, zRL, false, zEL, zEL, false, zSL, none, 0, 0, none, 0, 0, none, 0, 0, [], none, 0, 0, false, [], none, 0, 0⟩ : ItV)) ⟨rfl, rfl, rfl, rfl, rfl⟩) (by simpa using cellsI_len (x := zI) ⟨rfl, rfl, rfl, rfl, rfl⟩) (one_zero 7 (at_ : Int)) ?_))
 refine ⟨fun w2 b3 HK3 ho2 ha3 hb3 => ?_⟩
 have hs2 := ho2.out.size
 replace HW : Hid (OnlyB b w w2) := Lib.hid (HW.out.then_ ho2.out (fun _ _ h => h.elim))
 replace HR := Lib.hid (HR.out.only ho2.out (fun h => h))
 replace HK2 := Lib.hid (ho2.out.heap HK2.out (fun h => h))
 clear ho2
 clear y2 z2 HF
 go_wp2_with fail
 refine (name_any HR.out).mono ?_
 rintro e w3 ⟨md, m3, rfl, hmd, hr, ho, hm⟩
 have hle3 : m3 ≤ m := by omega
 have HM3 := Lib.hid hm
 clear hm
 replace HR := Lib.hid hr
 have HOx := Lib.hid ho
 have hs3 := HOx.out.size
 clear hr ho
 replace HW : Hid (OnlyB b w w3) := Lib.hid (HW.out.then_ HOx.out (fun _ _ h => h))
 replace HK2 := Lib.hid (HOx.out.heap HK2.out (by omega))
 replace HK3 := Lib.hid (HOx.out.heap HK3.out (by omega))
 clear HOx
 go_wp2_with (refine wpl_cellC rfl 9 (.tmp 13) (.tmp 12) rfl b3 3 rfl (v := .string (bstr md)) rfl Tryd.sizeOf9 rfl rfl HK3.out (new := (cellsI (⟨7, (at_ : Int), [], md, zRL, zRL, false, zEL, zEL, false, zSL, none, 0, 0, none, 0, 0, none, 0, 0, [], none, 0, 0, false, [], none, 0, 0⟩ : ItV))) (cI_md (⟨7, (at_ : Int), [], [], zRL, zRL, false, zEL, zEL, false, zSL, none, 0, 0, none, 0, 0, none, 0, 0, [], none, 0, 0, false, [], none, 0, 0⟩ : ItV) ⟨rfl, rfl, rfl, rfl, rfl⟩ md) ?_)
 clear HK3
 refine ⟨fun w4 HK3 ho4 => ?_⟩
 have hs4 := ho4.out.size
 replace HW : Hid (OnlyB b w w4) := Lib.hid (HW.out.then_ ho4.out (fun i hi (h : i = b3) => by omega))
 replace HR := Lib.hid (HR.out.only ho4.out (by omega))
 replace HK2 := Lib.hid (ho4.out.heap HK2.out (by omega))
 clear ho4
 go_wp2_with fail
 refine (accept_any HR.out _).mono ?_
 rintro e w5 ⟨ok, m5, rfl, hr, ho, hy, hn⟩
 replace HR := Lib.hid hr
 have HOx := Lib.hid ho
 have hs5 := HOx.out.size
 clear hr ho
 replace HW : Hid (OnlyB b w w5) := Lib.hid (HW.out.then_ HOx.out (fun _ _ h => h))
 replace HK2 := Lib.hid (HOx.out.heap HK2.out (by omega))
 replace HK3 := Lib.hid (HOx.out.heap HK3.out (by omega))
 clear HOx
 cases ok with
 | false =>
  obtain rfl : m5 = m3 := hn rfl
  clear hy hn
  go_wp2_with fail
  refine (name_any HR.out).mono ?_
  rintro e w6 ⟨nm, m6, rfl, hnm, hr, ho, hm⟩
  have hle6 : m6 ≤ m5 := by omega
  have HM6 := Lib.hid hm
  clear hm
  replace HR := Lib.hid hr
  have HOx := Lib.hid ho
  have hs6 := HOx.out.size
  clear hr ho
  replace HW : Hid (OnlyB b w w6) := Lib.hid (HW.out.then_ HOx.out (fun _ _ h => h))
  replace HK2 := Lib.hid (HOx.out.heap HK2.out (by omega))
  replace HK3 := Lib.hid (HOx.out.heap HK3.out (by omega))
  clear HOx
  go_wp2_with (refine wpl_cellC rfl 9 (.tmp 22) (.tmp 21) rfl b3 2 rfl (v := .string (bstr nm)) rfl Tryd.sizeOf9 rfl rfl HK3.out (new := (cellsI (⟨7, (at_ : Int), nm, md, zRL, zRL, false, zEL, zEL, false, zSL, none, 0, 0, none, 0, 0, none, 0, 0, [], none, 0, 0, false, [], none, 0, 0⟩ : ItV))) (cI_nm (⟨7, (at_ : Int), [], md, zRL, zRL, false, zEL, zEL, false, zSL, none, 0, 0, none, 0, 0, none, 0, 0, [], none, 0, 0, false, [], none, 0, 0⟩ : ItV) ⟨rfl, rfl, rfl, rfl, rfl⟩ nm) ?_)
  clear HK3
  refine ⟨fun w7 HK3 ho7 => ?_⟩
  have hs7 := ho7.out.size
  replace HW : Hid (OnlyB b w w7) := Lib.hid (HW.out.then_ ho7.out (fun i hi (h : i = b3) => by omega))
  replace HR := Lib.hid (HR.out.only ho7.out (by omega))
  replace HK2 := Lib.hid (ho7.out.heap HK2.out (by omega))
  clear ho7
  go_wp2_with fail
  refine (binds_any false HR.out).mono ?_
  rintro e w8 ⟨AQ, nq, cq, TQ, m8, rfl, hr, ho, ht, hbn8, hm⟩
  have hle8 : m8 ≤ m6 := by omega
  have HM8 := Lib.hid hm
  have HLQ := Lib.hid ht
  clear hm ht
  replace HR := Lib.hid hr
  have HOx := Lib.hid ho
  have hs8 := HOx.out.size
  clear hr ho
  replace HW : Hid (OnlyB b w w8) := Lib.hid (HW.out.then_ HOx.out (fun _ _ h => h))
  replace HK2 := Lib.hid (HOx.out.heap HK2.out (by omega))
  replace HK3 := Lib.hid (HOx.out.heap HK3.out (by omega))
  clear HOx
  go_wp2_with (refine wpl_cellC rfl 36 (.tmp 25) (.tmp 24) rfl b3 58 rfl (v := .slice AQ nq cq) rfl Tryd.sizeOf36 rfl rfl HK3.out (new := (cellsI (⟨7, (at_ : Int), nm, md, zRL, zRL, false, zEL, zEL, false, zSL, none, 0, 0, AQ, nq, cq, none, 0, 0, [], none, 0, 0, false, [], none, 0, 0⟩ : ItV))) (cI_Q (⟨7, (at_ : Int), nm, md, zRL, zRL, false, zEL, zEL, false, zSL, none, 0, 0, none, 0, 0, none, 0, 0, [], none, 0, 0, false, [], none, 0, 0⟩ : ItV) ⟨rfl, rfl, rfl, rfl, rfl⟩ AQ nq cq) ?_)
  clear HK3
  refine ⟨fun w9 HK3 ho9 => ?_⟩
  have hs9 := ho9.out.size
  replace HW : Hid (OnlyB b w w9) := Lib.hid (HW.out.then_ ho9.out (fun i hi (h : i = b3) => by omega))
  replace HR := Lib.hid (HR.out.only ho9.out (by omega))
  replace HK2 := Lib.hid (ho9.out.heap HK2.out (by omega))
  replace HLQ := Lib.hid (HLQ.out.only ho9.out (fun i (h : i = b3) => by omega))
  clear ho9
  go_wp2_with fail
  refine (must_any HR.out _).mono ?_
  rintro e w10 ⟨rfl, m10, hr, ho, hm⟩
  have hle10 : m10 ≤ m8 := by omega
  have HM10 := Lib.hid hm
  clear hm
  replace HR := Lib.hid hr
  have HOx := Lib.hid ho
  have hs10 := HOx.out.size
  clear hr ho
  replace HW : Hid (OnlyB b w w10) := Lib.hid (HW.out.then_ HOx.out (fun _ _ h => h))
  replace HK2 := Lib.hid (HOx.out.heap HK2.out (by omega))
  replace HK3 := Lib.hid (HOx.out.heap HK3.out (by omega))
  replace HLQ := Lib.hid (HLQ.out.only HOx.out (fun i (h : i = b) => by omega))
  clear HOx
  have HTI : Hid (Tr FI w1.heap.size w10.heap.size w10 (cellsI (⟨7, (at_ : Int), nm, md, zRL, zRL, false, zEL, zEL, false, zSL, none, 0, 0, AQ, nq, cq, none, 0, 0, [], none, 0, 0, false, [], none, 0, 0⟩ : ItV)) (md ++ [32] ++ [] ++ nm ++ [32] ++ bindsL (fun i => bindT (TQ i)) nq ++ [59, 10])) := Lib.hid (tri_mk (x := (⟨7, (at_ : Int), nm, md, zRL, zRL, false, zEL, zEL, false, zSL, none, 0, 0, AQ, nq, cq, none, 0, 0, [], none, 0, 0, false, [], none, 0, 0⟩ : ItV)) (r := (false, [123, 125], [123, 125])) (wd := (false, [123, 125], [123, 125])) (tV := ([123, 125], 0)) (tG := ([123, 125], 0)) (tB := []) ⟨(show (1 : Int) ≤ 7 ∧ (7 : Int) ≤ 9 by omega), (show nm.length ≤ 100000 by omega), (show md.length ≤ 100000 by omega), (by simp), (by simp), (fun h => by cases h), (fun h => by have h9 : (7 : Int) = 8 := h; omega), okB_zero⟩ trr_zero trr_zero tre_zero tre_zero (fun h => by have h9 : (7 : Int) = 6 := h; omega) (LfP.nil (T := (fun _ => (([], false, []) : BiT)))) (HLQ.out.wide (by omega) (by omega)) (LfP.nil (T := (fun _ => ([], 0)))) (LfP.nil (T := fun _ => ([] : LB))) (LfP.nil (T := fun _ => ([] : LB))) (show 0 ≤ 3000000 ∧ nq ≤ 3000000 ∧ 0 ≤ 3000000 ∧ 0 ≤ 3000000 ∧ 0 ≤ 3000000 by omega))
  generalize (cellsI (⟨7, (at_ : Int), nm, md, zRL, zRL, false, zEL, zEL, false, zSL, none, 0, 0, AQ, nq, cq, none, 0, 0, [], none, 0, 0, false, [], none, 0, 0⟩ : ItV)) = cI at HK3 HTI
  go_wp2_with (first | (refine wpl_load rfl 75 (.tmp 3) rfl b3 rfl HK3.out stI (sizeI HTI.out) ?_) | (refine wpl_store rfl 75 (.tmp 2) (.tmp 28) rfl b2 rfl (cells := cI.toArray) rfl HK2.out stI (sizeI HTI.out) (by simpa using cellsI_len (x := zI) ⟨rfl, rfl, rfl, rfl, rfl⟩) (onesI HTI.out) ?_))
  clear HK2
  refine ⟨fun w11 HK2 ho11 => ?_⟩
  have hs11 := ho11.out.size
  replace HW : Hid (OnlyB b w w11) := Lib.hid (HW.out.then_ ho11.out (fun i hi (h : i = b2) => by omega))
  replace HR := Lib.hid (HR.out.only ho11.out (by omega))
  replace HK3 := Lib.hid (ho11.out.heap HK3.out (by omega))
  replace HLQ := Lib.hid (HLQ.out.only ho11.out (fun i (h : i = b2) => by omega))
  replace HTI := Lib.hid (HTI.out.only ho11.out (fun i (h : i = b2) => by omega))
  clear ho11
  go_wp2_with fail
  exact bodyPost_ret (ret_box rfl _ rfl HK2.out stI (sizeI HTI.out)) rfl ⟨cI, _, m10, rfl, HR.out, HW.out, HTI.out.wide (by omega) (by omega), by have := HM3.out; have := HM6.out; have := HM8.out; have := HM10.out; simp only [List.length_append, List.length_cons, List.length_nil] at *; omega⟩
 | true =>
  obtain ⟨hp5, hl5⟩ := hy rfl
  clear hy hn
  go_wp2_with fail
  refine (binds_any true HR.out).mono ?_
  rintro e w6 ⟨AP, np, cp, TP, m6, rfl, hr, ho, ht, hbn6, hm⟩
  have hle6 : m6 ≤ m5 := by omega
  have HM6 := Lib.hid hm
  have HLP := Lib.hid ht
  clear hm ht
  replace HR := Lib.hid hr
  have HOx := Lib.hid ho
  have hs6 := HOx.out.size
  clear hr ho
  replace HW : Hid (OnlyB b w w6) := Lib.hid (HW.out.then_ HOx.out (fun _ _ h => h))
  replace HK2 := Lib.hid (HOx.out.heap HK2.out (by omega))
  replace HK3 := Lib.hid (HOx.out.heap HK3.out (by omega))
  clear HOx
  go_wp2_with (refine wpl_cellC rfl 36 (.tmp 19) (.tmp 18) rfl b3 57 rfl (v := .slice AP np cp) rfl Tryd.sizeOf36 rfl rfl HK3.out (new := (cellsI (⟨7, (at_ : Int), [], md, zRL, zRL, false, zEL, zEL, false, zSL, AP, np, cp, none, 0, 0, none, 0, 0, [], none, 0, 0, false, [], none, 0, 0⟩ : ItV))) (cI_P (⟨7, (at_ : Int), [], md, zRL, zRL, false, zEL, zEL, false, zSL, none, 0, 0, none, 0, 0, none, 0, 0, [], none, 0, 0, false, [], none, 0, 0⟩ : ItV) ⟨rfl, rfl, rfl, rfl, rfl⟩ AP np cp) ?_)
  clear HK3
  refine ⟨fun w7 HK3 ho7 => ?_⟩
  have hs7 := ho7.out.size
  replace HW : Hid (OnlyB b w w7) := Lib.hid (HW.out.then_ ho7.out (fun i hi (h : i = b3) => by omega))
  replace HR := Lib.hid (HR.out.only ho7.out (by omega))
  replace HK2 := Lib.hid (ho7.out.heap HK2.out (by omega))
  replace HLP := Lib.hid (HLP.out.only ho7.out (fun i (h : i = b3) => by omega))
  clear ho7
  go_wp2_with fail
  refine (name_any HR.out).mono ?_
  rintro e w8 ⟨nm, m8, rfl, hnm, hr, ho, hm⟩
  have hle8 : m8 ≤ m6 := by omega
  have HM8 := Lib.hid hm
  clear hm
  replace HR := Lib.hid hr
  have HOx := Lib.hid ho
  have hs8 := HOx.out.size
  clear hr ho
  replace HW : Hid (OnlyB b w w8) := Lib.hid (HW.out.then_ HOx.out (fun _ _ h => h))
  replace HK2 := Lib.hid (HOx.out.heap HK2.out (by omega))
  replace HK3 := Lib.hid (HOx.out.heap HK3.out (by omega))
  replace HLP := Lib.hid (HLP.out.only HOx.out (fun i (h : i = b) => by omega))
  clear HOx
  go_wp2_with (refine wpl_cellC rfl 9 (.tmp 22) (.tmp 21) rfl b3 2 rfl (v := .string (bstr nm)) rfl Tryd.sizeOf9 rfl rfl HK3.out (new := (cellsI (⟨7, (at_ : Int), nm, md, zRL, zRL, false, zEL, zEL, false, zSL, AP, np, cp, none, 0, 0, none, 0, 0, [], none, 0, 0, false, [], none, 0, 0⟩ : ItV))) (cI_nm (⟨7, (at_ : Int), [], md, zRL, zRL, false, zEL, zEL, false, zSL, AP, np, cp, none, 0, 0, none, 0, 0, [], none, 0, 0, false, [], none, 0, 0⟩ : ItV) ⟨rfl, rfl, rfl, rfl, rfl⟩ nm) ?_)
  clear HK3
  refine ⟨fun w9 HK3 ho9 => ?_⟩
  have hs9 := ho9.out.size
  replace HW : Hid (OnlyB b w w9) := Lib.hid (HW.out.then_ ho9.out (fun i hi (h : i = b3) => by omega))
  replace HR := Lib.hid (HR.out.only ho9.out (by omega))
  replace HK2 := Lib.hid (ho9.out.heap HK2.out (by omega))
  replace HLP := Lib.hid (HLP.out.only ho9.out (fun i (h : i = b3) => by omega))
  clear ho9
  go_wp2_with fail
  refine (binds_any false HR.out).mono ?_
  rintro e w10 ⟨AQ, nq, cq, TQ, m10, rfl, hr, ho, ht, hbn10, hm⟩
  have hle10 : m10 ≤ m8 := by omega
  have HM10 := Lib.hid hm
  have HLQ := Lib.hid ht
  clear hm ht
  replace HR := Lib.hid hr
  have HOx := Lib.hid ho
  have hs10 := HOx.out.size
  clear hr ho
  replace HW : Hid (OnlyB b w w10) := Lib.hid (HW.out.then_ HOx.out (fun _ _ h => h))
  replace HK2 := Lib.hid (HOx.out.heap HK2.out (by omega))
  replace HK3 := Lib.hid (HOx.out.heap HK3.out (by omega))
  replace HLP := Lib.hid (HLP.out.only HOx.out (fun i (h : i = b) => by omega))
  clear HOx
  go_wp2_with (refine wpl_cellC rfl 36 (.tmp 25) (.tmp 24) rfl b3 58 rfl (v := .slice AQ nq cq) rfl Tryd.sizeOf36 rfl rfl HK3.out (new := (cellsI (⟨7, (at_ : Int), nm, md, zRL, zRL, false, zEL, zEL, false, zSL, AP, np, cp, AQ, nq, cq, none, 0, 0, [], none, 0, 0, false, [], none, 0, 0⟩ : ItV))) (cI_Q (⟨7, (at_ : Int), nm, md, zRL, zRL, false, zEL, zEL, false, zSL, AP, np, cp, none, 0, 0, none, 0, 0, [], none, 0, 0, false, [], none, 0, 0⟩ : ItV) ⟨rfl, rfl, rfl, rfl, rfl⟩ AQ nq cq) ?_)
  clear HK3
  refine ⟨fun w11 HK3 ho11 => ?_⟩
  have hs11 := ho11.out.size
  replace HW : Hid (OnlyB b w w11) := Lib.hid (HW.out.then_ ho11.out (fun i hi (h : i = b3) => by omega))
  replace HR := Lib.hid (HR.out.only ho11.out (by omega))
  replace HK2 := Lib.hid (ho11.out.heap HK2.out (by omega))
  replace HLP := Lib.hid (HLP.out.only ho11.out (fun i (h : i = b3) => by omega))
  replace HLQ := Lib.hid (HLQ.out.only ho11.out (fun i (h : i = b3) => by omega))
  clear ho11
  go_wp2_with fail
  refine (must_any HR.out _).mono ?_
  rintro e w12 ⟨rfl, m12, hr, ho, hm⟩
  have hle12 : m12 ≤ m10 := by omega
  have HM12 := Lib.hid hm
  clear hm
  replace HR := Lib.hid hr
  have HOx := Lib.hid ho
  have hs12 := HOx.out.size
  clear hr ho
  replace HW : Hid (OnlyB b w w12) := Lib.hid (HW.out.then_ HOx.out (fun _ _ h => h))
  replace HK2 := Lib.hid (HOx.out.heap HK2.out (by omega))
  replace HK3 := Lib.hid (HOx.out.heap HK3.out (by omega))
  replace HLP := Lib.hid (HLP.out.only HOx.out (fun i (h : i = b) => by omega))
  replace HLQ := Lib.hid (HLQ.out.only HOx.out (fun i (h : i = b) => by omega))
  clear HOx
  have HTI : Hid (Tr FI w1.heap.size w12.heap.size w12 (cellsI (⟨7, (at_ : Int), nm, md, zRL, zRL, false, zEL, zEL, false, zSL, AP, np, cp, AQ, nq, cq, none, 0, 0, [], none, 0, 0, false, [], none, 0, 0⟩ : ItV)) (md ++ [32] ++ (if 0 < np then [35] ++ bindsL (fun i => bindT (TP i)) np ++ [32] else []) ++ nm ++ [32] ++ bindsL (fun i => bindT (TQ i)) nq ++ [59, 10])) := Lib.hid (tri_mk (x := (⟨7, (at_ : Int), nm, md, zRL, zRL, false, zEL, zEL, false, zSL, AP, np, cp, AQ, nq, cq, none, 0, 0, [], none, 0, 0, false, [], none, 0, 0⟩ : ItV)) (r := (false, [123, 125], [123, 125])) (wd := (false, [123, 125], [123, 125])) (tV := ([123, 125], 0)) (tG := ([123, 125], 0)) (tB := []) ⟨(show (1 : Int) ≤ 7 ∧ (7 : Int) ≤ 9 by omega), (show nm.length ≤ 100000 by omega), (show md.length ≤ 100000 by omega), (by simp), (by simp), (fun h => by cases h), (fun h => by have h9 : (7 : Int) = 8 := h; omega), okB_zero⟩ trr_zero trr_zero tre_zero tre_zero (fun h => by have h9 : (7 : Int) = 6 := h; omega) (HLP.out.wide (by omega) (by omega)) (HLQ.out.wide (by omega) (by omega)) (LfP.nil (T := (fun _ => ([], 0)))) (LfP.nil (T := fun _ => ([] : LB))) (LfP.nil (T := fun _ => ([] : LB))) (show np ≤ 3000000 ∧ nq ≤ 3000000 ∧ 0 ≤ 3000000 ∧ 0 ≤ 3000000 ∧ 0 ≤ 3000000 by omega))
  generalize (cellsI (⟨7, (at_ : Int), nm, md, zRL, zRL, false, zEL, zEL, false, zSL, AP, np, cp, AQ, nq, cq, none, 0, 0, [], none, 0, 0, false, [], none, 0, 0⟩ : ItV)) = cI at HK3 HTI
  go_wp2_with (first | (refine wpl_load rfl 75 (.tmp 3) rfl b3 rfl HK3.out stI (sizeI HTI.out) ?_) | (refine wpl_store rfl 75 (.tmp 2) (.tmp 28) rfl b2 rfl (cells := cI.toArray) rfl HK2.out stI (sizeI HTI.out) (by simpa using cellsI_len (x := zI) ⟨rfl, rfl, rfl, rfl, rfl⟩) (onesI HTI.out) ?_))
  clear HK2
  refine ⟨fun w13 HK2 ho13 => ?_⟩
  have hs13 := ho13.out.size
  replace HW : Hid (OnlyB b w w13) := Lib.hid (HW.out.then_ ho13.out (fun i hi (h : i = b2) => by omega))
  replace HR := Lib.hid (HR.out.only ho13.out (by omega))
  replace HK3 := Lib.hid (ho13.out.heap HK3.out (by omega))
  replace HLP := Lib.hid (HLP.out.only ho13.out (fun i (h : i = b2) => by omega))
  replace HLQ := Lib.hid (HLQ.out.only ho13.out (fun i (h : i = b2) => by omega))
  replace HTI := Lib.hid (HTI.out.only ho13.out (fun i (h : i = b2) => by omega))
  clear ho13
  go_wp2_with fail
  exact bodyPost_ret (ret_box rfl _ rfl HK2.out stI (sizeI HTI.out)) rfl ⟨cI, _, m12, rfl, HR.out, HW.out, HTI.out.wide (by omega) (by omega), by have := HM3.out; have := HM6.out; have := HM8.out; have := HM10.out; have := HM12.out; have := if_len (0 < np) ([35] ++ bindsL (fun i => bindT (TP i)) np ++ [32]); simp only [List.length_append, List.length_cons, List.length_nil] at *; omega⟩
set_option maxRecDepth 100000 in
set_option maxHeartbeats 8000000 in
theorem port_any {s : ByteArray} {b m : Nat} {w : World} (HR : Hid (RdS s b w m)) : Calls Tryd.prog 20 #[.pointer (some ⟨b, 0, none⟩)] w (PoOut s b m w) := by
 have HR0 := HR
 have hlt := HR.out.lt
 have HW : Hid (OnlyB b w w) := Lib.hid (Only.refl _ w)
 go_enter Tryd.func20, Tryd.ntmps20
 go_wp2_with (refine wpl_alloc rfl 63 rfl (some 2) rfl Tryd.zeroValue63 ?_)
 refine ⟨fun w1 b2 HK2 ho1 ha2 hb2 => ?_⟩
 have hs1 := ho1.out.size
 replace HW : Hid (OnlyB b w w1) := Lib.hid (HW.out.then_ ho1.out (fun _ _ h => h.elim))
 replace HR := Lib.hid (HR.out.only ho1.out (fun h => h))
 clear ho1
 go_wp2_with (refine wpl_box rfl rfl 63 rfl 3 rfl (.tmp 4) rfl rfl Tryd.zeroValue63 (cells := #[.string ⟨#[]⟩, .int .i64 0, .bool false, .bool false, .bool false, .int .i64 0, .int .i64 0, .int .i64 0, .int .i64 0, .int .u64 0, .string ⟨#[]⟩, .slice none 0 0, .int .i64 0, .int .i64 0, .int .i64 0, .int .i64 0, .int .u64 0, .string ⟨#[]⟩, .slice none 0 0]) (fun _ => rfl) (fun _ => rfl) stP rfl rfl (ones rfl) ?_)
 refine ⟨fun w2 b3 HK3 ho2 ha3 hb3 => ?_⟩
 have hs2 := ho2.out.size
 replace HW : Hid (OnlyB b w w2) := Lib.hid (HW.out.then_ ho2.out (fun _ _ h => h.elim))
 replace HR := Lib.hid (HR.out.only ho2.out (fun h => h))
 replace HK2 := Lib.hid (ho2.out.heap HK2.out (fun h => h))
 clear ho2
 go_wp2_with fail
 refine (accept_any HR.out _).mono ?_
 rintro e w3 ⟨oo, m3, rfl, hr, ho, hy, hn⟩
 replace HR := Lib.hid hr
 have HOx := Lib.hid ho
 have hs3 := HOx.out.size
 clear hr ho
 replace HW : Hid (OnlyB b w w3) := Lib.hid (HW.out.then_ HOx.out (fun _ _ h => h))
 replace HK2 := Lib.hid (HOx.out.heap HK2.out (by omega))
 replace HK3 := Lib.hid (HOx.out.heap HK3.out (by omega))
 clear HOx
 cases oo with
 | true =>
  obtain ⟨hp3, hl3⟩ := hy rfl
  clear hy hn
  go_wp2_with (refine wpl_set rfl 4 (.tmp 7) (.tmp 6) rfl b3 2 rfl (v := .bool true) rfl Tryd.sizeOf4 rfl rfl HK3.out (by simp) ?_)
  clear HK3
  refine ⟨fun w4 HK3 ho4 => ?_⟩
  have hs4 := ho4.out.size
  replace HK3 : Hid (w4.heap[b3]? = some (.cells #[.string ⟨#[]⟩, .int .i64 0, .bool true, .bool false, .bool false, .int .i64 0, .int .i64 0, .int .i64 0, .int .i64 0, .int .u64 0, .string ⟨#[]⟩, .slice none 0 0, .int .i64 0, .int .i64 0, .int .i64 0, .int .i64 0, .int .u64 0, .string ⟨#[]⟩, .slice none 0 0] _)) := HK3
  replace HW : Hid (OnlyB b w w4) := Lib.hid (HW.out.then_ ho4.out (fun i hi (h : i = b3) => by omega))
  replace HR := Lib.hid (HR.out.only ho4.out (by omega))
  replace HK2 := Lib.hid (ho4.out.heap HK2.out (by omega))
  clear ho4
  obtain ⟨y6, z6⟩ : w4.cell? ⟨b3, 2, none⟩ = some (.bool true) ∧ w4.frozen? ⟨b3, 2, none⟩ = false := cell_at HK3.out rfl
  go_wp2_with fail
  clear y6 z6
  go_wp2_with fail
  refine (accept_any HR.out _).mono ?_
  rintro e w5 ⟨orr, m5, rfl, hr, ho, hy, hn⟩
  replace HR := Lib.hid hr
  have HOx := Lib.hid ho
  have hs5 := HOx.out.size
  clear hr ho
  replace HW : Hid (OnlyB b w w5) := Lib.hid (HW.out.then_ HOx.out (fun _ _ h => h))
  replace HK2 := Lib.hid (HOx.out.heap HK2.out (by omega))
  replace HK3 := Lib.hid (HOx.out.heap HK3.out (by omega))
  clear HOx
  have hac : m5 ≤ m3 := by cases orr with
   | true => exact Nat.le_of_lt (hy rfl).2
   | false => exact Nat.le_of_eq (hn rfl)
  have hap : m5 = 0 ∨ m5 ≤ m3 := .inr hac
  clear hy hn hap
  cases orr with
  | true =>
   go_wp2_with (refine wpl_set rfl 4 (.tmp 12) (.tmp 11) rfl b3 3 rfl (v := .bool true) rfl Tryd.sizeOf4 rfl rfl HK3.out (by simp) ?_)
   clear HK3
   refine ⟨fun w6 HK3 ho6 => ?_⟩
   have hs6 := ho6.out.size
   replace HK3 : Hid (w6.heap[b3]? = some (.cells #[.string ⟨#[]⟩, .int .i64 0, .bool true, .bool true, .bool false, .int .i64 0, .int .i64 0, .int .i64 0, .int .i64 0, .int .u64 0, .string ⟨#[]⟩, .slice none 0 0, .int .i64 0, .int .i64 0, .int .i64 0, .int .i64 0, .int .u64 0, .string ⟨#[]⟩, .slice none 0 0] _)) := HK3
   replace HW : Hid (OnlyB b w w6) := Lib.hid (HW.out.then_ ho6.out (fun i hi (h : i = b3) => by omega))
   replace HR := Lib.hid (HR.out.only ho6.out (by omega))
   replace HK2 := Lib.hid (ho6.out.heap HK2.out (by omega))
   clear ho6
   go_wp2_with fail
   refine (span_any HR.out).mono ?_
   rintro e w7 ⟨cR, r, m7, rfl, hr, ho, ht, hm⟩
   have hle7 : m7 ≤ m5 := by omega
   have HM7 := Lib.hid hm
   have HTcR := Lib.hid ht
   clear hm ht
   replace HR := Lib.hid hr
   have HOx := Lib.hid ho
   have hs7 := HOx.out.size
   clear hr ho
   replace HW : Hid (OnlyB b w w7) := Lib.hid (HW.out.then_ HOx.out (fun _ _ h => h))
   replace HK2 := Lib.hid (HOx.out.heap HK2.out (by omega))
   replace HK3 := Lib.hid (HOx.out.heap HK3.out (by omega))
   clear HOx
   go_wp2_with (refine wpl_seg rfl 61 (.tmp 17) (.tmp 16) rfl b3 4 rfl (c := cR) rfl HK3.out [.string ⟨#[]⟩, .int .i64 0, .bool true, .bool true] zRL [] rfl rfl stR (lenR HTcR.out) rfl (oneR HTcR.out) (.string ⟨#[]⟩ :: .int .i64 0 :: .bool true :: .bool true :: cR) (by simp) ?_)
   clear HK3
   refine ⟨fun w8 HK3 ho8 => ?_⟩
   have hs8 := ho8.out.size
   replace HW : Hid (OnlyB b w w8) := Lib.hid (HW.out.then_ ho8.out (fun i hi (h : i = b3) => by omega))
   replace HR := Lib.hid (HR.out.only ho8.out (by omega))
   replace HK2 := Lib.hid (ho8.out.heap HK2.out (by omega))
   replace HTcR := Lib.hid (HTcR.out.only ho8.out (fun i (h : i = b3) => by omega))
   clear ho8
   obtain ⟨kd, at_, wd, T, num, q, code, fat, hrf⟩ := HR.out
   have HF := Lib.hid hrf
   clear hrf
   obtain ⟨y2, z2⟩ := HF.out.c2
   go_wp2_with (refine wpl_cell rfl 3 (.tmp 23) (.tmp 22) rfl b3 1 rfl (v := .int .i64 (at_ : Int)) rfl Tryd.sizeOf3 rfl rfl HK3.out [.string ⟨#[]⟩] (.int .i64 0) (.bool true :: .bool true :: cR) rfl rfl (.string ⟨#[]⟩ :: .int .i64 (at_ : Int) :: .bool true :: .bool true :: cR) rfl ?_)
   clear HK3
   refine ⟨fun w9 HK3 ho9 => ?_⟩
   have hs9 := ho9.out.size
   replace HW : Hid (OnlyB b w w9) := Lib.hid (HW.out.then_ ho9.out (fun i hi (h : i = b3) => by omega))
   replace HR := Lib.hid (HR.out.only ho9.out (by omega))
   replace HK2 := Lib.hid (ho9.out.heap HK2.out (by omega))
   replace HTcR := Lib.hid (HTcR.out.only ho9.out (fun i (h : i = b3) => by omega))
   clear ho9
   clear y2 z2 HF
   go_wp2_with fail
   refine (name_any HR.out).mono ?_
   rintro e w10 ⟨nm, m10, rfl, hnm, hr, ho, hm⟩
   have hle10 : m10 ≤ m7 := by omega
   have HM10 := Lib.hid hm
   clear hm
   replace HR := Lib.hid hr
   have HOx := Lib.hid ho
   have hs10 := HOx.out.size
   clear hr ho
   replace HW : Hid (OnlyB b w w10) := Lib.hid (HW.out.then_ HOx.out (fun _ _ h => h))
   replace HK2 := Lib.hid (HOx.out.heap HK2.out (by omega))
   replace HK3 := Lib.hid (HOx.out.heap HK3.out (by omega))
   replace HTcR := Lib.hid (HTcR.out.only HOx.out (fun i (h : i = b) => by omega))
   clear HOx
   go_wp2_with (refine wpl_cell rfl 9 (.tmp 26) (.tmp 25) rfl b3 0 rfl (v := .string (bstr nm)) rfl Tryd.sizeOf9 rfl rfl HK3.out [] (.string ⟨#[]⟩) (.int .i64 (at_ : Int) :: .bool true :: .bool true :: cR) rfl rfl (.string (bstr nm) :: .int .i64 (at_ : Int) :: .bool true :: .bool true :: cR) rfl ?_)
   clear HK3
   refine ⟨fun w11 HK3 ho11 => ?_⟩
   have hs11 := ho11.out.size
   replace HW : Hid (OnlyB b w w11) := Lib.hid (HW.out.then_ ho11.out (fun i hi (h : i = b3) => by omega))
   replace HR := Lib.hid (HR.out.only ho11.out (by omega))
   replace HK2 := Lib.hid (ho11.out.heap HK2.out (by omega))
   replace HTcR := Lib.hid (HTcR.out.only ho11.out (fun i (h : i = b3) => by omega))
   clear ho11
   have HTP : Hid (Tr FPo w1.heap.size w11.heap.size w11 (.string (bstr nm) :: .int .i64 (at_ : Int) :: .bool true :: .bool true :: cR) (true, true, r, nm)) := Lib.hid (trp_mk (by omega) (fun h => by first | rfl | cases h) (HTcR.out.wide (by omega) (by omega)))
   generalize (.string (bstr nm) :: .int .i64 (at_ : Int) :: .bool true :: .bool true :: cR : List Value) = cP at HK3 HTP
   go_wp2_with (first | (refine wpl_load rfl 63 (.tmp 3) rfl b3 rfl HK3.out stP (by simp [lenP HTP.out]) ?_) | (refine wpl_store rfl 63 (.tmp 2) (.tmp 27) rfl b2 rfl (cells := cP.toArray) rfl HK2.out stP (by simp [lenP HTP.out]) rfl (by simpa using oneP HTP.out) ?_))
   clear HK2
   refine ⟨fun w12 HK2 ho12 => ?_⟩
   have hs12 := ho12.out.size
   replace HW : Hid (OnlyB b w w12) := Lib.hid (HW.out.then_ ho12.out (fun i hi (h : i = b2) => by omega))
   replace HR := Lib.hid (HR.out.only ho12.out (by omega))
   replace HK3 := Lib.hid (ho12.out.heap HK3.out (by omega))
   replace HTcR := Lib.hid (HTcR.out.only ho12.out (fun i (h : i = b2) => by omega))
   replace HTP := Lib.hid (HTP.out.only ho12.out (fun i (h : i = b2) => by omega))
   clear ho12
   go_wp2_with fail
   exact bodyPost_ret (ret_box rfl _ rfl HK2.out stP (by simp [lenP HTP.out])) rfl ⟨cP, _, m10, rfl, HR.out, HW.out, HTP.out.wide (by omega) (by omega), by have := HM7.out; have := HM10.out; simp only at *; omega⟩
  | false =>
   go_wp2_with (refine wpl_set rfl 4 (.tmp 12) (.tmp 11) rfl b3 3 rfl (v := .bool false) rfl Tryd.sizeOf4 rfl rfl HK3.out (by simp) ?_)
   clear HK3
   refine ⟨fun w6 HK3 ho6 => ?_⟩
   have hs6 := ho6.out.size
   replace HK3 : Hid (w6.heap[b3]? = some (.cells #[.string ⟨#[]⟩, .int .i64 0, .bool true, .bool false, .bool false, .int .i64 0, .int .i64 0, .int .i64 0, .int .i64 0, .int .u64 0, .string ⟨#[]⟩, .slice none 0 0, .int .i64 0, .int .i64 0, .int .i64 0, .int .i64 0, .int .u64 0, .string ⟨#[]⟩, .slice none 0 0] _)) := HK3
   replace HW : Hid (OnlyB b w w6) := Lib.hid (HW.out.then_ ho6.out (fun i hi (h : i = b3) => by omega))
   replace HR := Lib.hid (HR.out.only ho6.out (by omega))
   replace HK2 := Lib.hid (ho6.out.heap HK2.out (by omega))
   clear ho6
   go_wp2_with fail
   refine (span_any HR.out).mono ?_
   rintro e w7 ⟨cR, r, m7, rfl, hr, ho, ht, hm⟩
   have hle7 : m7 ≤ m5 := by omega
   have HM7 := Lib.hid hm
   have HTcR := Lib.hid ht
   clear hm ht
   replace HR := Lib.hid hr
   have HOx := Lib.hid ho
   have hs7 := HOx.out.size
   clear hr ho
   replace HW : Hid (OnlyB b w w7) := Lib.hid (HW.out.then_ HOx.out (fun _ _ h => h))
   replace HK2 := Lib.hid (HOx.out.heap HK2.out (by omega))
   replace HK3 := Lib.hid (HOx.out.heap HK3.out (by omega))
   clear HOx
   go_wp2_with (refine wpl_seg rfl 61 (.tmp 17) (.tmp 16) rfl b3 4 rfl (c := cR) rfl HK3.out [.string ⟨#[]⟩, .int .i64 0, .bool true, .bool false] zRL [] rfl rfl stR (lenR HTcR.out) rfl (oneR HTcR.out) (.string ⟨#[]⟩ :: .int .i64 0 :: .bool true :: .bool false :: cR) (by simp) ?_)
   clear HK3
   refine ⟨fun w8 HK3 ho8 => ?_⟩
   have hs8 := ho8.out.size
   replace HW : Hid (OnlyB b w w8) := Lib.hid (HW.out.then_ ho8.out (fun i hi (h : i = b3) => by omega))
   replace HR := Lib.hid (HR.out.only ho8.out (by omega))
   replace HK2 := Lib.hid (ho8.out.heap HK2.out (by omega))
   replace HTcR := Lib.hid (HTcR.out.only ho8.out (fun i (h : i = b3) => by omega))
   clear ho8
   obtain ⟨kd, at_, wd, T, num, q, code, fat, hrf⟩ := HR.out
   have HF := Lib.hid hrf
   clear hrf
   obtain ⟨y2, z2⟩ := HF.out.c2
   go_wp2_with (refine wpl_cell rfl 3 (.tmp 23) (.tmp 22) rfl b3 1 rfl (v := .int .i64 (at_ : Int)) rfl Tryd.sizeOf3 rfl rfl HK3.out [.string ⟨#[]⟩] (.int .i64 0) (.bool true :: .bool false :: cR) rfl rfl (.string ⟨#[]⟩ :: .int .i64 (at_ : Int) :: .bool true :: .bool false :: cR) rfl ?_)
   clear HK3
   refine ⟨fun w9 HK3 ho9 => ?_⟩
   have hs9 := ho9.out.size
   replace HW : Hid (OnlyB b w w9) := Lib.hid (HW.out.then_ ho9.out (fun i hi (h : i = b3) => by omega))
   replace HR := Lib.hid (HR.out.only ho9.out (by omega))
   replace HK2 := Lib.hid (ho9.out.heap HK2.out (by omega))
   replace HTcR := Lib.hid (HTcR.out.only ho9.out (fun i (h : i = b3) => by omega))
   clear ho9
   clear y2 z2 HF
   go_wp2_with fail
   refine (name_any HR.out).mono ?_
   rintro e w10 ⟨nm, m10, rfl, hnm, hr, ho, hm⟩
   have hle10 : m10 ≤ m7 := by omega
   have HM10 := Lib.hid hm
   clear hm
   replace HR := Lib.hid hr
   have HOx := Lib.hid ho
   have hs10 := HOx.out.size
   clear hr ho
   replace HW : Hid (OnlyB b w w10) := Lib.hid (HW.out.then_ HOx.out (fun _ _ h => h))
   replace HK2 := Lib.hid (HOx.out.heap HK2.out (by omega))
   replace HK3 := Lib.hid (HOx.out.heap HK3.out (by omega))
   replace HTcR := Lib.hid (HTcR.out.only HOx.out (fun i (h : i = b) => by omega))
   clear HOx
   go_wp2_with (refine wpl_cell rfl 9 (.tmp 26) (.tmp 25) rfl b3 0 rfl (v := .string (bstr nm)) rfl Tryd.sizeOf9 rfl rfl HK3.out [] (.string ⟨#[]⟩) (.int .i64 (at_ : Int) :: .bool true :: .bool false :: cR) rfl rfl (.string (bstr nm) :: .int .i64 (at_ : Int) :: .bool true :: .bool false :: cR) rfl ?_)
   clear HK3
   refine ⟨fun w11 HK3 ho11 => ?_⟩
   have hs11 := ho11.out.size
   replace HW : Hid (OnlyB b w w11) := Lib.hid (HW.out.then_ ho11.out (fun i hi (h : i = b3) => by omega))
   replace HR := Lib.hid (HR.out.only ho11.out (by omega))
   replace HK2 := Lib.hid (ho11.out.heap HK2.out (by omega))
   replace HTcR := Lib.hid (HTcR.out.only ho11.out (fun i (h : i = b3) => by omega))
   clear ho11
   have HTP : Hid (Tr FPo w1.heap.size w11.heap.size w11 (.string (bstr nm) :: .int .i64 (at_ : Int) :: .bool true :: .bool false :: cR) (true, false, r, nm)) := Lib.hid (trp_mk (by omega) (fun h => by first | rfl | cases h) (HTcR.out.wide (by omega) (by omega)))
   generalize (.string (bstr nm) :: .int .i64 (at_ : Int) :: .bool true :: .bool false :: cR : List Value) = cP at HK3 HTP
   go_wp2_with (first | (refine wpl_load rfl 63 (.tmp 3) rfl b3 rfl HK3.out stP (by simp [lenP HTP.out]) ?_) | (refine wpl_store rfl 63 (.tmp 2) (.tmp 27) rfl b2 rfl (cells := cP.toArray) rfl HK2.out stP (by simp [lenP HTP.out]) rfl (by simpa using oneP HTP.out) ?_))
   clear HK2
   refine ⟨fun w12 HK2 ho12 => ?_⟩
   have hs12 := ho12.out.size
   replace HW : Hid (OnlyB b w w12) := Lib.hid (HW.out.then_ ho12.out (fun i hi (h : i = b2) => by omega))
   replace HR := Lib.hid (HR.out.only ho12.out (by omega))
   replace HK3 := Lib.hid (ho12.out.heap HK3.out (by omega))
   replace HTcR := Lib.hid (HTcR.out.only ho12.out (fun i (h : i = b2) => by omega))
   replace HTP := Lib.hid (HTP.out.only ho12.out (fun i (h : i = b2) => by omega))
   clear ho12
   go_wp2_with fail
   exact bodyPost_ret (ret_box rfl _ rfl HK2.out stP (by simp [lenP HTP.out])) rfl ⟨cP, _, m10, rfl, HR.out, HW.out, HTP.out.wide (by omega) (by omega), by have := HM7.out; have := HM10.out; simp only at *; omega⟩
 | false =>
  obtain rfl : m3 = m := hn rfl
  clear hy hn
  go_wp2_with (refine wpl_set rfl 4 (.tmp 7) (.tmp 6) rfl b3 2 rfl (v := .bool false) rfl Tryd.sizeOf4 rfl rfl HK3.out (by simp) ?_)
  clear HK3
  refine ⟨fun w4 HK3 ho4 => ?_⟩
  have hs4 := ho4.out.size
  replace HK3 : Hid (w4.heap[b3]? = some (.cells #[.string ⟨#[]⟩, .int .i64 0, .bool false, .bool false, .bool false, .int .i64 0, .int .i64 0, .int .i64 0, .int .i64 0, .int .u64 0, .string ⟨#[]⟩, .slice none 0 0, .int .i64 0, .int .i64 0, .int .i64 0, .int .i64 0, .int .u64 0, .string ⟨#[]⟩, .slice none 0 0] _)) := HK3
  replace HW : Hid (OnlyB b w w4) := Lib.hid (HW.out.then_ ho4.out (fun i hi (h : i = b3) => by omega))
  replace HR := Lib.hid (HR.out.only ho4.out (by omega))
  replace HK2 := Lib.hid (ho4.out.heap HK2.out (by omega))
  clear ho4
  obtain ⟨y6, z6⟩ : w4.cell? ⟨b3, 2, none⟩ = some (.bool false) ∧ w4.frozen? ⟨b3, 2, none⟩ = false := cell_at HK3.out rfl
  go_wp2_with fail
  clear y6 z6
  go_wp2_with fail
  refine (must_any HR.out _).mono ?_
  rintro e w5 ⟨rfl, m5, hr, ho, hm⟩
  have hle5 : m5 ≤ m3 := by omega
  have HM5 := Lib.hid hm
  clear hm
  replace HR := Lib.hid hr
  have HOx := Lib.hid ho
  have hs5 := HOx.out.size
  clear hr ho
  replace HW : Hid (OnlyB b w w5) := Lib.hid (HW.out.then_ HOx.out (fun _ _ h => h))
  replace HK2 := Lib.hid (HOx.out.heap HK2.out (by omega))
  replace HK3 := Lib.hid (HOx.out.heap HK3.out (by omega))
  clear HOx
  go_wp2_with fail
  refine (span_any HR.out).mono ?_
  rintro e w6 ⟨cR, r, m6, rfl, hr, ho, ht, hm⟩
  have hle6 : m6 ≤ m5 := by omega
  have HM6 := Lib.hid hm
  have HTcR := Lib.hid ht
  clear hm ht
  replace HR := Lib.hid hr
  have HOx := Lib.hid ho
  have hs6 := HOx.out.size
  clear hr ho
  replace HW : Hid (OnlyB b w w6) := Lib.hid (HW.out.then_ HOx.out (fun _ _ h => h))
  replace HK2 := Lib.hid (HOx.out.heap HK2.out (by omega))
  replace HK3 := Lib.hid (HOx.out.heap HK3.out (by omega))
  clear HOx
  go_wp2_with (refine wpl_seg rfl 61 (.tmp 17) (.tmp 16) rfl b3 4 rfl (c := cR) rfl HK3.out [.string ⟨#[]⟩, .int .i64 0, .bool false, .bool false] zRL [] rfl rfl stR (lenR HTcR.out) rfl (oneR HTcR.out) (.string ⟨#[]⟩ :: .int .i64 0 :: .bool false :: .bool false :: cR) (by simp) ?_)
  clear HK3
  refine ⟨fun w7 HK3 ho7 => ?_⟩
  have hs7 := ho7.out.size
  replace HW : Hid (OnlyB b w w7) := Lib.hid (HW.out.then_ ho7.out (fun i hi (h : i = b3) => by omega))
  replace HR := Lib.hid (HR.out.only ho7.out (by omega))
  replace HK2 := Lib.hid (ho7.out.heap HK2.out (by omega))
  replace HTcR := Lib.hid (HTcR.out.only ho7.out (fun i (h : i = b3) => by omega))
  clear ho7
  obtain ⟨kd, at_, wd, T, num, q, code, fat, hrf⟩ := HR.out
  have HF := Lib.hid hrf
  clear hrf
  obtain ⟨y2, z2⟩ := HF.out.c2
  go_wp2_with (refine wpl_cell rfl 3 (.tmp 23) (.tmp 22) rfl b3 1 rfl (v := .int .i64 (at_ : Int)) rfl Tryd.sizeOf3 rfl rfl HK3.out [.string ⟨#[]⟩] (.int .i64 0) (.bool false :: .bool false :: cR) rfl rfl (.string ⟨#[]⟩ :: .int .i64 (at_ : Int) :: .bool false :: .bool false :: cR) rfl ?_)
  clear HK3
  refine ⟨fun w8 HK3 ho8 => ?_⟩
  have hs8 := ho8.out.size
  replace HW : Hid (OnlyB b w w8) := Lib.hid (HW.out.then_ ho8.out (fun i hi (h : i = b3) => by omega))
  replace HR := Lib.hid (HR.out.only ho8.out (by omega))
  replace HK2 := Lib.hid (ho8.out.heap HK2.out (by omega))
  replace HTcR := Lib.hid (HTcR.out.only ho8.out (fun i (h : i = b3) => by omega))
  clear ho8
  clear y2 z2 HF
  go_wp2_with fail
  refine (name_any HR.out).mono ?_
  rintro e w9 ⟨nm, m9, rfl, hnm, hr, ho, hm⟩
  have hle9 : m9 ≤ m6 := by omega
  have HM9 := Lib.hid hm
  clear hm
  replace HR := Lib.hid hr
  have HOx := Lib.hid ho
  have hs9 := HOx.out.size
  clear hr ho
  replace HW : Hid (OnlyB b w w9) := Lib.hid (HW.out.then_ HOx.out (fun _ _ h => h))
  replace HK2 := Lib.hid (HOx.out.heap HK2.out (by omega))
  replace HK3 := Lib.hid (HOx.out.heap HK3.out (by omega))
  replace HTcR := Lib.hid (HTcR.out.only HOx.out (fun i (h : i = b) => by omega))
  clear HOx
  go_wp2_with (refine wpl_cell rfl 9 (.tmp 26) (.tmp 25) rfl b3 0 rfl (v := .string (bstr nm)) rfl Tryd.sizeOf9 rfl rfl HK3.out [] (.string ⟨#[]⟩) (.int .i64 (at_ : Int) :: .bool false :: .bool false :: cR) rfl rfl (.string (bstr nm) :: .int .i64 (at_ : Int) :: .bool false :: .bool false :: cR) rfl ?_)
  clear HK3
  refine ⟨fun w10 HK3 ho10 => ?_⟩
  have hs10 := ho10.out.size
  replace HW : Hid (OnlyB b w w10) := Lib.hid (HW.out.then_ ho10.out (fun i hi (h : i = b3) => by omega))
  replace HR := Lib.hid (HR.out.only ho10.out (by omega))
  replace HK2 := Lib.hid (ho10.out.heap HK2.out (by omega))
  replace HTcR := Lib.hid (HTcR.out.only ho10.out (fun i (h : i = b3) => by omega))
  clear ho10
  have HTP : Hid (Tr FPo w1.heap.size w10.heap.size w10 (.string (bstr nm) :: .int .i64 (at_ : Int) :: .bool false :: .bool false :: cR) (false, false, r, nm)) := Lib.hid (trp_mk (by omega) (fun h => by first | rfl | cases h) (HTcR.out.wide (by omega) (by omega)))
  generalize (.string (bstr nm) :: .int .i64 (at_ : Int) :: .bool false :: .bool false :: cR : List Value) = cP at HK3 HTP
  go_wp2_with (first | (refine wpl_load rfl 63 (.tmp 3) rfl b3 rfl HK3.out stP (by simp [lenP HTP.out]) ?_) | (refine wpl_store rfl 63 (.tmp 2) (.tmp 27) rfl b2 rfl (cells := cP.toArray) rfl HK2.out stP (by simp [lenP HTP.out]) rfl (by simpa using oneP HTP.out) ?_))
  clear HK2
  refine ⟨fun w11 HK2 ho11 => ?_⟩
  have hs11 := ho11.out.size
  replace HW : Hid (OnlyB b w w11) := Lib.hid (HW.out.then_ ho11.out (fun i hi (h : i = b2) => by omega))
  replace HR := Lib.hid (HR.out.only ho11.out (by omega))
  replace HK3 := Lib.hid (ho11.out.heap HK3.out (by omega))
  replace HTcR := Lib.hid (HTcR.out.only ho11.out (fun i (h : i = b2) => by omega))
  replace HTP := Lib.hid (HTP.out.only ho11.out (fun i (h : i = b2) => by omega))
  clear ho11
  go_wp2_with fail
  exact bodyPost_ret (ret_box rfl _ rfl HK2.out stP (by simp [lenP HTP.out])) rfl ⟨cP, _, m9, rfl, HR.out, HW.out, HTP.out.wide (by omega) (by omega), by have := HM5.out; have := HM6.out; have := HM9.out; simp only at *; omega⟩
end Go.Proofs.YtbdcpealkllfnaaDoor
