/- The reference's Reader: items, part, item, walked. Condition: the text has at most 60000 bytes. -/
import Derived.Test.YtbdcpealkllfnaaDoorNtC
namespace Go.Proofs.YtbdcpealkllfnaaDoor
open Go.RowKit Go.Deep

theorem catL_catF (T T' : Nat → LB) (n : Nat) : ∀ m, catL (catF T n T') (n + m) = catL T n ++ catL T' m
 | 0 => by
  simp only [catL, List.append_nil, Nat.add_zero]
  exact catL_congr n (fun i hi => by simp only [catF, if_pos hi])
 | m + 1 => by
  rw [← Nat.add_assoc]
  simp only [catL]
  rw [catL_catF T T' n m, List.append_assoc]
  congr 2
  simp only [catF]
  rw [if_neg (by omega), Nat.add_sub_cancel_left]
theorem catL_catF_len (T T' : Nat → LB) (n m : Nat) : (catL (catF T n T') (n + m)).length = (catL T n).length + (catL T' m).length := by
 rw [catL_catF, List.length_append]
theorem lfI1 {p : Nat → Prop} {w : World} {D : Nat} {c : List Value} {t : LB} (hh : w.heap[D]? = some (.cells c.toArray 75)) (hD : p D) (h : TrP FI p w c t) : LfP FI 75 65 p w (some ⟨D, 0, none⟩) 1 (fun _ => t) :=
 LfP.mk hh hD (fun _ => c) (by rw [flatF_one (C := fun _ => c) (lenI h).1]) (fun i _ => ⟨(lenI h).1, h⟩)
theorem loopL_len (nm : LB) (u0 u1 u2 : LB) (k0 k1 k2 : Int) : (loopL nm (fun i => (fn3 (u0, k0) (u1, k1) (u2, k2) i).1)).length ≤ 20 + nm.length + nm.length + u0.length + u1.length + u2.length := by
 show ([102, 111, 114, 32, 40] ++ nm ++ [32, 61, 32] ++ u0 ++ [59, 32] ++ u1 ++ [59, 32] ++ nm ++ [32, 61, 32] ++ u2 ++ [41, 32] : LB).length ≤ _
 simp only [List.length_append, List.length_cons, List.length_nil]
 omega
theorem beginL_len (lab x : LB) : (beginL lab x).length = 9 + lab.length + x.length := by
 simp only [beginL, List.length_append, List.length_cons, List.length_nil]
 omega
theorem useB {m m' : Nat} {tx : LB} (h : m' = 0 ∨ (m' < m ∧ tx.length + 60 * m' ≤ 60 * m)) : m' = 0 ∨ (m' < m ∧ (catL (fun _ => tx) 1).length + KK * m' ≤ KK * m) := by
 rcases h with h | ⟨h1, h2⟩
 ·
  exact .inl h
 ·
  refine .inr ⟨h1, ?_⟩
  show ([] ++ tx : LB).length + KK * m' ≤ KK * m
  simp only [KK, List.nil_append]
  omega
structure ItI (s : ByteArray) (b m : Nat) (w : World) (Z : Nat) (g : Nat) (wr : World) (A : Option Addr) (n c : Nat) (T : Nat → LB) : Prop where
 rd : RdS s b wr g
 ol : OnlyB b w wr
 ls : Ls FI 75 65 Z b wr A n c T
 nn : n + 4 * g ≤ 4 * m
 gm : g ≤ m
 tx : g = 0 ∨ (catL T n).length + KK * g ≤ KK * m
 sz : Z ≤ wr.heap.size
set_option maxRecDepth 100000 in
set_option maxHeartbeats 8000000 in
theorem items_step {s : ByteArray} {b m : Nat} {w : World} (t : ByteArray) (HI : Hid (∀ {w : World} {m1 : Nat}, m1 ≤ m → RdS s b w m1 → Calls Tryd.prog 38 #[.pointer (some ⟨b, 0, none⟩)] w (LiOut s b m1 w))) (HR : Hid (RdS s b w m)) : Calls Tryd.prog 21 #[.pointer (some ⟨b, 0, none⟩), .string t] w (LsOut s b m w) := by
 have HR0 := HR
 have hlt := HR.out.lt
 have HW : Hid (OnlyB b w w) := Lib.hid (Only.refl _ w)
 go_enter Tryd.func21, Tryd.ntmps21
 go_wp2_with fail
 have H0 : Hid (ItI s b m w w.heap.size m w none 0 0 (fun _ => ([] : LB))) := Lib.hid ⟨HR.out, HW.out, Ls.nil, by omega, by omega, by simp only [catL, List.length_nil]; omega, by omega⟩
 clear HR HW
 go_loopg [5] m (fun g v5 wr => ∃ A n c T, v5 = .slice A n c ∧ Hid (ItI s b m w w.heap.size g wr A n c T))
 case atStart => exact ⟨_, _, _, _, rfl, H0⟩
 case round =>
  clear H0
  obtain ⟨A, n, c, T, rfl, HB⟩ := hrel
  have HR := Lib.hid HB.out.rd
  have HW := Lib.hid HB.out.ol
  have HL := Lib.hid HB.out.ls
  have hnn := HB.out.nn
  have hgm := HB.out.gm
  have HTX := Lib.hid HB.out.tx
  have hsr := HB.out.sz
  clear HB
  have hmm := HR0.out.le
  obtain ⟨kdx, at_x, wdx, Tx, numx, qx, codex, fatx, hrf⟩ := HR.out
  have HFx := Lib.hid hrf
  clear hrf
  have HF := HFx
  clear HFx
  obtain ⟨y7, z7⟩ := HF.out.c7
  by_cases hc : codex = 0
  ·
   subst hc
   have hg0 : 0 < gk := by rw [HF.out.hm]; exact rdM_pos
   clear HF
   go_wp2_with fail
   clear y7 z7
   go_wp2_with fail
   refine (is_any HR.out _).mono ?_
   rintro e w1 ⟨ok, rfl, hwe, hik⟩
   obtain rfl := hwe.symm
   cases ok with
   | true =>
    clear hik
    go_wp2_with fail
    go_ret
    exact ⟨A, n, c, T, gk, rfl, HR.out, HW.out, HL.out.done.wide (by omega) (by omega), hnn, hgm, HTX.out⟩
   | false =>
    clear hik
    have HLLT := Lib.hid HL.out.lt
    go_wp2_with fail
    refine (HI.out hgm HR.out).mono ?_
    rintro e w2 ⟨A1, n1, c1, T1, m2, rfl, hr, ho, ht, hn1, hm⟩
    have hle2 : m2 ≤ gk := by omega
    have HM2 := Lib.hid hm
    have HLF := Lib.hid ht
    clear hm ht
    replace HR := Lib.hid hr
    have HOx := Lib.hid ho
    have hs2 := HOx.out.size
    clear hr ho
    replace HW : Hid (OnlyB b w w2) := Lib.hid (HW.out.then_ HOx.out (fun _ _ h => h))
    replace HL := Lib.hid (HL.out.only HOx.out (fun i hi (h : i = b) => by omega))
    clear HOx
    go_wp2_with (refine wpl_more rfl (.tmp 21) (.tmp 22) 38 rfl elI rfl HL.out rfl HLF.out (fun cs t d h => (lenI ⟨d, h⟩).2) (by omega) (by omega) HLLT.out (by omega) (by omega) (by omega) ?_)
    refine ⟨fun A2 c2 w3 HLn ho3 => ?_⟩
    have hs3 := ho3.out.size
    clear HL HLF
    replace HW : Hid (OnlyB b w w3) := Lib.hid (HW.out.then_ ho3.out (fun i hi (h : w.heap.size ≤ i) => by omega))
    replace HR := Lib.hid (HR.out.only ho3.out (by omega))
    clear ho3
    go_wp2_with fail
    have hlt9 : m2 < gk := by have := HM2.out; omega
    go_roundg m2
    case measure => omega
    case rel => exact ⟨A2, n + n1, c2, _, rfl, Lib.hid ⟨HR.out, HW.out, HLn.out, by omega, by omega, by have := HTX.out; have := HM2.out; have h9 := catL_catF_len T T1 n n1; simp only [KK] at *; omega, by omega⟩⟩
  ·
   have hci : ((codex : Int) == 0) = false := by rw [beq_eq_false_iff_ne]; omega
   clear hc HF
   go_wp2_with fail
   go_ret
   exact ⟨A, n, c, T, gk, rfl, HR.out, HW.out, HL.out.done.wide (by omega) (by omega), hnn, hgm, HTX.out⟩
set_option maxRecDepth 100000 in
set_option maxHeartbeats 8000000 in
theorem part_step {s : ByteArray} {b m : Nat} {w : World} (HI : Hid (∀ {w : World} {m1 : Nat}, m1 ≤ m → RdS s b w m1 → Calls Tryd.prog 38 #[.pointer (some ⟨b, 0, none⟩)] w (LiOut s b m1 w))) (HR : Hid (RdS s b w m)) : Calls Tryd.prog 60 #[.pointer (some ⟨b, 0, none⟩)] w (PtOut s b m w) := by
 have HR0 := HR
 have hlt := HR.out.lt
 have HW : Hid (OnlyB b w w) := Lib.hid (Only.refl _ w)
 go_enter Tryd.func60, Tryd.ntmps60
 go_wp2_with fail
 refine (must_any HR.out _).mono ?_
 rintro e w1 ⟨rfl, m1, hr, ho, hm⟩
 have hle1 : m1 ≤ m := by omega
 have HM1 := Lib.hid hm
 clear hm
 replace HR := Lib.hid hr
 have HOx := Lib.hid ho
 have hs1 := HOx.out.size
 clear hr ho
 replace HW : Hid (OnlyB b w w1) := Lib.hid (HW.out.then_ HOx.out (fun _ _ h => h))
 clear HOx
 go_wp2_with fail
 refine (must_any HR.out _).mono ?_
 rintro e w2 ⟨rfl, m2, hr, ho, hm⟩
 have hle2 : m2 ≤ m1 := by omega
 have HM2 := Lib.hid hm
 clear hm
 replace HR := Lib.hid hr
 have HOx := Lib.hid ho
 have hs2 := HOx.out.size
 clear hr ho
 replace HW : Hid (OnlyB b w w2) := Lib.hid (HW.out.then_ HOx.out (fun _ _ h => h))
 clear HOx
 go_wp2_with fail
 refine (name_any HR.out).mono ?_
 rintro e w3 ⟨nm, m3, rfl, hnm, hr, ho, hm⟩
 have hle3 : m3 ≤ m2 := by omega
 have HM3 := Lib.hid hm
 clear hm
 replace HR := Lib.hid hr
 have HOx := Lib.hid ho
 have hs3 := HOx.out.size
 clear hr ho
 replace HW : Hid (OnlyB b w w3) := Lib.hid (HW.out.then_ HOx.out (fun _ _ h => h))
 clear HOx
 go_wp2_with fail
 have hpm : m3 ≤ m := by omega
 refine (items_step _ (Lib.hid (fun h hr => HI.out (Nat.le_trans h hpm) hr)) HR).mono ?_
 rintro e w4 ⟨A1, n1, c1, T1, m4, rfl, hr, ho, ht, hn1, hle4, hm⟩
 have HM4 := Lib.hid hm
 have HLF := Lib.hid ht
 clear hm ht
 replace HR := Lib.hid hr
 have HOx := Lib.hid ho
 have hs4 := HOx.out.size
 clear hr ho
 replace HW : Hid (OnlyB b w w4) := Lib.hid (HW.out.then_ HOx.out (fun _ _ h => h))
 clear HOx
 go_wp2_with fail
 refine (must_any HR.out _).mono ?_
 rintro e w5 ⟨rfl, m5, hr, ho, hm⟩
 have hle5 : m5 ≤ m4 := by omega
 have HM5 := Lib.hid hm
 clear hm
 replace HR := Lib.hid hr
 have HOx := Lib.hid ho
 have hs5 := HOx.out.size
 clear hr ho
 replace HW : Hid (OnlyB b w w5) := Lib.hid (HW.out.then_ HOx.out (fun _ _ h => h))
 replace HLF := Lib.hid (HLF.out.only HOx.out (fun i (h : i = b) => by omega))
 clear HOx
 have hmm := HR0.out.le
 go_wp2_with fail
 go_ret2
 exact ⟨nm, A1, n1, c1, T1, m5, rfl, hnm, HR.out, HW.out, HLF.out.wide (by omega) (by omega), by omega, by have := HM1.out; have := HM2.out; have := HM3.out; have := HM4.out; have := HM5.out; simp only [KK] at *; omega⟩
set_option maxRecDepth 100000 in
set_option maxHeartbeats 8000000 in
theorem item_step {s : ByteArray} {b m : Nat} {w : World} (HI : Hid (∀ {w : World} {m1 : Nat}, m1 < m → RdS s b w m1 → Calls Tryd.prog 38 #[.pointer (some ⟨b, 0, none⟩)] w (LiOut s b m1 w))) (HR : Hid (RdS s b w m)) : Calls Tryd.prog 38 #[.pointer (some ⟨b, 0, none⟩)] w (LiOut s b m w) := by
 have HR0 := HR
 have hlt := HR.out.lt
 have HW : Hid (OnlyB b w w) := Lib.hid (Only.refl _ w)
 go_enter Tryd.func38, Tryd.ntmps38
 obtain ⟨kd, at_, wd, T, num, q, code, fat, hrf⟩ := HR.out
 have HF := Lib.hid hrf
 clear hrf
 obtain ⟨y2, z2⟩ := HF.out.c2
 go_wp2_with (first | (refine wpl_build rfl 75 [(1, .tmp 8)] rfl (some 9) rfl (cellsI (⟨0, (at_ : Int), [], [], zRL, zRL, false, zEL, zEL, false, zSL, none, 0, 0, none, 0, 0, none, 0, 0, [], none, 0, 0, false, [], none, 0, 0⟩ : ItV)).toArray (built_at (at_ : Int)) ?_) | (refine wpl_box rfl rfl 75 rfl 3 rfl (.tmp 9) rfl rfl zeroI (cells := (cellsI (⟨0, (at_ : Int), [], [], zRL, zRL, false, zEL, zEL, false, zSL, none, 0, 0, none, 0, 0, none, 0, 0, [], none, 0, 0, false, [], none, 0, 0⟩ : ItV)).toArray) (fun _ => rfl) (fun _ => rfl) stI (by simpa using cellsI_len (x := (⟨0, (at_ : Int), [], [], zRL, zRL, false, zEL, zEL, false, zSL, none, 0, 0, none, 0, 0, none, 0, 0, [], none, 0, 0, false, [], none, 0, 0⟩ : ItV)) ⟨rfl, rfl, rfl, rfl, rfl⟩) (by simpa using cellsI_len (x := zI) ⟨rfl, rfl, rfl, rfl, rfl⟩) (one_zero 0 (at_ : Int)) ?_))
 refine ⟨fun w1 b3 HK3 ho1 ha3 hb3 => ?_⟩
 have hs1 := ho1.out.size
 replace HW : Hid (OnlyB b w w1) := Lib.hid (HW.out.then_ ho1.out (fun _ _ h => h.elim))
 replace HR := Lib.hid (HR.out.only ho1.out (fun h => h))
 clear ho1
 clear y2 z2 HF
 have hmm := HR0.out.le
 go_wp2_with fail
 refine (accept_any HR.out _).mono ?_
 rintro e w2 ⟨ok, m2, rfl, hr, ho, hy, hn⟩
 replace HR := Lib.hid hr
 have HOx := Lib.hid ho
 have hs2 := HOx.out.size
 clear hr ho
 replace HW : Hid (OnlyB b w w2) := Lib.hid (HW.out.then_ HOx.out (fun _ _ h => h))
 replace HK3 := Lib.hid (HOx.out.heap HK3.out (by omega))
 clear HOx
 cases ok with
 | true =>
  obtain ⟨hp2, hl2⟩ := hy rfl
  clear hy hn
  go_wp2_with fail
  refine (nets_false HR).mono ?_
  rintro e w3 ⟨A1, n1, c1, T1, mn, rfl, hr, ho, ht, hn1, hm⟩
  have HM := Lib.hid hm
  have HLF := Lib.hid ht
  clear hm ht
  replace HR := Lib.hid hr
  have HOx := Lib.hid ho
  have hs3 := HOx.out.size
  clear hr ho
  replace HW : Hid (OnlyB b w w3) := Lib.hid (HW.out.then_ HOx.out (fun _ _ h => h))
  replace HK3 := Lib.hid (HOx.out.heap HK3.out (by omega))
  clear HOx
  go_wp2_with fail
  go_ret
  exact ⟨A1, n1, c1, T1, mn, rfl, HR.out, HW.out, HLF.out.wide (by omega) (by omega), by omega, by have := HM.out; simp only [KK] at *; omega⟩
 | false =>
  obtain rfl : m = m2 := (hn rfl).symm
  clear hy hn
  go_wp2_with fail
  refine (accept_any HR.out _).mono ?_
  rintro e w3 ⟨ok, m3, rfl, hr, ho, hy, hn⟩
  replace HR := Lib.hid hr
  have HOx := Lib.hid ho
  have hs3 := HOx.out.size
  clear hr ho
  replace HW : Hid (OnlyB b w w3) := Lib.hid (HW.out.then_ HOx.out (fun _ _ h => h))
  replace HK3 := Lib.hid (HOx.out.heap HK3.out (by omega))
  clear HOx
  cases ok with
  | true =>
   obtain ⟨hp3, hl3⟩ := hy rfl
   clear hy hn
   go_wp2_with fail
   refine (nets_true HR).mono ?_
   rintro e w4 ⟨A1, n1, c1, T1, mn, rfl, hr, ho, ht, hn1, hm⟩
   have HM := Lib.hid hm
   have HLF := Lib.hid ht
   clear hm ht
   replace HR := Lib.hid hr
   have HOx := Lib.hid ho
   have hs4 := HOx.out.size
   clear hr ho
   replace HW : Hid (OnlyB b w w4) := Lib.hid (HW.out.then_ HOx.out (fun _ _ h => h))
   replace HK3 := Lib.hid (HOx.out.heap HK3.out (by omega))
   clear HOx
   go_wp2_with fail
   go_ret
   exact ⟨A1, n1, c1, T1, mn, rfl, HR.out, HW.out, HLF.out.wide (by omega) (by omega), by omega, by have := HM.out; simp only [KK] at *; omega⟩
  | false =>
   obtain rfl : m = m3 := (hn rfl).symm
   clear hy hn
   go_wp2_with fail
   refine (accept_any HR.out _).mono ?_
   rintro e w4 ⟨ok, m4, rfl, hr, ho, hy, hn⟩
   replace HR := Lib.hid hr
   have HOx := Lib.hid ho
   have hs4 := HOx.out.size
   clear hr ho
   replace HW : Hid (OnlyB b w w4) := Lib.hid (HW.out.then_ HOx.out (fun _ _ h => h))
   replace HK3 := Lib.hid (HOx.out.heap HK3.out (by omega))
   clear HOx
   cases ok with
   | true =>
    obtain ⟨hp4, hl4⟩ := hy rfl
    clear hy hn
    go_wp2_with (refine wpl_cellC rfl 3 (.tmp 25) (.const (.int .i64 4)) rfl b3 0 rfl (v := .int .i64 4) rfl Tryd.sizeOf3 rfl rfl HK3.out (new := (cellsI (⟨4, (at_ : Int), [], [], zRL, zRL, false, zEL, zEL, false, zSL, none, 0, 0, none, 0, 0, none, 0, 0, [], none, 0, 0, false, [], none, 0, 0⟩ : ItV))) (cI_kd (⟨0, (at_ : Int), [], [], zRL, zRL, false, zEL, zEL, false, zSL, none, 0, 0, none, 0, 0, none, 0, 0, [], none, 0, 0, false, [], none, 0, 0⟩ : ItV) ⟨rfl, rfl, rfl, rfl, rfl⟩ 4) ?_)
    clear HK3
    refine ⟨fun w5 HK3 ho5 => ?_⟩
    have hs5 := ho5.out.size
    replace HW : Hid (OnlyB b w w5) := Lib.hid (HW.out.then_ ho5.out (fun i hi (h : i = b3) => by omega))
    replace HR := Lib.hid (HR.out.only ho5.out (by omega))
    clear ho5
    go_wp2_with fail
    refine (name_any HR.out).mono ?_
    rintro e w6 ⟨nm, m6, rfl, hnm, hr, ho, hm⟩
    have hle6 : m6 ≤ m4 := by omega
    have HM6 := Lib.hid hm
    clear hm
    replace HR := Lib.hid hr
    have HOx := Lib.hid ho
    have hs6 := HOx.out.size
    clear hr ho
    replace HW : Hid (OnlyB b w w6) := Lib.hid (HW.out.then_ HOx.out (fun _ _ h => h))
    replace HK3 := Lib.hid (HOx.out.heap HK3.out (by omega))
    clear HOx
    go_wp2_with (refine wpl_cellC rfl 9 (.tmp 28) (.tmp 27) rfl b3 2 rfl (v := .string (bstr nm)) rfl Tryd.sizeOf9 rfl rfl HK3.out (new := (cellsI (⟨4, (at_ : Int), nm, [], zRL, zRL, false, zEL, zEL, false, zSL, none, 0, 0, none, 0, 0, none, 0, 0, [], none, 0, 0, false, [], none, 0, 0⟩ : ItV))) (cI_nm (⟨4, (at_ : Int), [], [], zRL, zRL, false, zEL, zEL, false, zSL, none, 0, 0, none, 0, 0, none, 0, 0, [], none, 0, 0, false, [], none, 0, 0⟩ : ItV) ⟨rfl, rfl, rfl, rfl, rfl⟩ nm) ?_)
    clear HK3
    refine ⟨fun w7 HK3 ho7 => ?_⟩
    have hs7 := ho7.out.size
    replace HW : Hid (OnlyB b w w7) := Lib.hid (HW.out.then_ ho7.out (fun i hi (h : i = b3) => by omega))
    replace HR := Lib.hid (HR.out.only ho7.out (by omega))
    clear ho7
    go_wp2_with fail
    refine (must_any HR.out _).mono ?_
    rintro e w8 ⟨rfl, m8, hr, ho, hm⟩
    have hle8 : m8 ≤ m6 := by omega
    have HM8 := Lib.hid hm
    clear hm
    replace HR := Lib.hid hr
    have HOx := Lib.hid ho
    have hs8 := HOx.out.size
    clear hr ho
    replace HW : Hid (OnlyB b w w8) := Lib.hid (HW.out.then_ HOx.out (fun _ _ h => h))
    replace HK3 := Lib.hid (HOx.out.heap HK3.out (by omega))
    clear HOx
    go_wp2_with fail
    refine (expr_any HR.out).mono ?_
    rintro e w9 ⟨c1, t1, kd9, m9, rfl, hr, ho, ht, hm⟩
    have hle9 : m9 ≤ m8 := by omega
    have HM9 := Lib.hid hm
    have HTc1 := Lib.hid ht
    clear hm ht
    replace HR := Lib.hid hr
    have HOx := Lib.hid ho
    have hs9 := HOx.out.size
    clear hr ho
    replace HW : Hid (OnlyB b w w9) := Lib.hid (HW.out.then_ HOx.out (fun _ _ h => h))
    replace HK3 := Lib.hid (HOx.out.heap HK3.out (by omega))
    clear HOx
    go_wp2_with (refine wpl_segC rfl 56 (.tmp 33) (.tmp 32) rfl b3 35 rfl (c := c1) rfl HK3.out stE HTc1.out.len HTc1.out.one (new := (cellsI (⟨4, (at_ : Int), nm, [], zRL, zRL, false, c1, zEL, false, zSL, none, 0, 0, none, 0, 0, none, 0, 0, [], none, 0, 0, false, [], none, 0, 0⟩ : ItV))) (cI_V (⟨4, (at_ : Int), nm, [], zRL, zRL, false, zEL, zEL, false, zSL, none, 0, 0, none, 0, 0, none, 0, 0, [], none, 0, 0, false, [], none, 0, 0⟩ : ItV) ⟨rfl, rfl, rfl, rfl, rfl⟩ c1) ?_)
    clear HK3
    refine ⟨fun w10 HK3 ho10 => ?_⟩
    have hs10 := ho10.out.size
    replace HW : Hid (OnlyB b w w10) := Lib.hid (HW.out.then_ ho10.out (fun i hi (h : i = b3) => by omega))
    replace HR := Lib.hid (HR.out.only ho10.out (by omega))
    replace HTc1 := Lib.hid (HTc1.out.only ho10.out (fun i (h : i = b3) => by omega))
    clear ho10
    go_wp2_with fail
    refine (must_any HR.out _).mono ?_
    rintro e w11 ⟨rfl, m11, hr, ho, hm⟩
    have hle11 : m11 ≤ m9 := by omega
    have HM11 := Lib.hid hm
    clear hm
    replace HR := Lib.hid hr
    have HOx := Lib.hid ho
    have hs11 := HOx.out.size
    clear hr ho
    replace HW : Hid (OnlyB b w w11) := Lib.hid (HW.out.then_ HOx.out (fun _ _ h => h))
    replace HK3 := Lib.hid (HOx.out.heap HK3.out (by omega))
    replace HTc1 := Lib.hid (HTc1.out.only HOx.out (fun i (h : i = b) => by omega))
    clear HOx
    have HTI : Hid (Tr FI w.heap.size w11.heap.size w11 (cellsI (⟨4, (at_ : Int), nm, [], zRL, zRL, false, c1, zEL, false, zSL, none, 0, 0, none, 0, 0, none, 0, 0, [], none, 0, 0, false, [], none, 0, 0⟩ : ItV)) ([108, 111, 99, 97, 108, 112, 97, 114, 97, 109, 32] ++ nm ++ [32, 61, 32] ++ t1 ++ [59, 10])) := Lib.hid (tri_mk (x := (⟨4, (at_ : Int), nm, [], zRL, zRL, false, c1, zEL, false, zSL, none, 0, 0, none, 0, 0, none, 0, 0, [], none, 0, 0, false, [], none, 0, 0⟩ : ItV)) (r := (false, [123, 125], [123, 125])) (wd := (false, [123, 125], [123, 125])) (tV := (t1, kd9)) (tG := ([123, 125], 0)) (tB := []) ⟨(show (1 : Int) ≤ 4 ∧ (4 : Int) ≤ 9 by omega), (show nm.length ≤ 100000 by omega), (by simp), (by simp), (by simp), (fun h => by cases h), (fun h => by have h9 : (4 : Int) = 8 := h; omega), okB_zero⟩ trr_zero trr_zero (HTc1.out.wide (by omega) (by omega)) tre_zero (fun h => by have h9 : (4 : Int) = 6 := h; omega) (LfP.nil (T := (fun _ => (([], false, []) : BiT)))) (LfP.nil (T := (fun _ => (([], false, []) : BiT)))) (LfP.nil (T := (fun _ => ([], 0)))) (LfP.nil (T := fun _ => ([] : LB))) (LfP.nil (T := fun _ => ([] : LB))) (show 0 ≤ 3000000 ∧ 0 ≤ 3000000 ∧ 0 ≤ 3000000 ∧ 0 ≤ 3000000 ∧ 0 ≤ 3000000 by omega))
    obtain ⟨tx, htx⟩ : ∃ t : LB, t = ([108, 111, 99, 97, 108, 112, 97, 114, 97, 109, 32] ++ nm ++ [32, 61, 32] ++ t1 ++ [59, 10]) := ⟨_, rfl⟩
    rw [← htx] at HTI
    have HTL : Hid (tx.length = (([108, 111, 99, 97, 108, 112, 97, 114, 97, 109, 32] ++ nm ++ [32, 61, 32] ++ t1 ++ [59, 10])).length) := Lib.hid (by rw [htx])
    clear htx
    obtain ⟨cI, hcI⟩ : ∃ c, c = (cellsI (⟨4, (at_ : Int), nm, [], zRL, zRL, false, c1, zEL, false, zSL, none, 0, 0, none, 0, 0, none, 0, 0, [], none, 0, 0, false, [], none, 0, 0⟩ : ItV)) := ⟨_, rfl⟩
    rw [← hcI] at HTI HK3
    clear hcI
    go_wp2_with (first | (refine wpl_load rfl 75 (.tmp 3) rfl b3 rfl HK3.out stI (by simp [(lenI HTI.out).1]) ?_) | (refine wpl_slice rfl 38 75 1 _ rfl (some 117) rfl Tryd.underlying38 cI.toArray (built65 (lenI HTI.out).1) ?_))
    refine ⟨fun w12 b117 HK117 ho12 ha117 hb117 => ?_⟩
    have hs12 := ho12.out.size
    replace HW : Hid (OnlyB b w w12) := Lib.hid (HW.out.then_ ho12.out (fun _ _ h => h.elim))
    replace HR := Lib.hid (HR.out.only ho12.out (fun h => h))
    replace HK3 := Lib.hid (ho12.out.heap HK3.out (fun h => h))
    replace HTc1 := Lib.hid (HTc1.out.only ho12.out (fun _ h => h.elim))
    replace HTI := Lib.hid (HTI.out.only ho12.out (fun _ h => h.elim))
    clear ho12
    go_wp2_with fail
    go_ret
    exact ⟨some ⟨b117, 0, none⟩, 1, 1, fun _ => tx, m11, rfl, HR.out, HW.out, lfI1 HK117.out ⟨by omega, by omega⟩ (HTI.out.wide (by omega) (by omega)), by omega, by have h7 := HTL.out; have := HM6.out; have := HM8.out; have := HM9.out; have := HM11.out; simp only [catL, KK, List.nil_append, List.length_append, List.length_cons, List.length_nil] at *; omega⟩
   | false =>
    obtain rfl : m = m4 := (hn rfl).symm
    clear hy hn
    go_wp2_with fail
    refine (accept_any HR.out _).mono ?_
    rintro e w5 ⟨ok, m5, rfl, hr, ho, hy, hn⟩
    replace HR := Lib.hid hr
    have HOx := Lib.hid ho
    have hs5 := HOx.out.size
    clear hr ho
    replace HW : Hid (OnlyB b w w5) := Lib.hid (HW.out.then_ HOx.out (fun _ _ h => h))
    replace HK3 := Lib.hid (HOx.out.heap HK3.out (by omega))
    clear HOx
    cases ok with
    | true =>
     obtain ⟨hp5, hl5⟩ := hy rfl
     clear hy hn
     go_wp2_with (refine wpl_cellC rfl 3 (.tmp 39) (.const (.int .i64 5)) rfl b3 0 rfl (v := .int .i64 5) rfl Tryd.sizeOf3 rfl rfl HK3.out (new := (cellsI (⟨5, (at_ : Int), [], [], zRL, zRL, false, zEL, zEL, false, zSL, none, 0, 0, none, 0, 0, none, 0, 0, [], none, 0, 0, false, [], none, 0, 0⟩ : ItV))) (cI_kd (⟨0, (at_ : Int), [], [], zRL, zRL, false, zEL, zEL, false, zSL, none, 0, 0, none, 0, 0, none, 0, 0, [], none, 0, 0, false, [], none, 0, 0⟩ : ItV) ⟨rfl, rfl, rfl, rfl, rfl⟩ 5) ?_)
     clear HK3
     refine ⟨fun w6 HK3 ho6 => ?_⟩
     have hs6 := ho6.out.size
     replace HW : Hid (OnlyB b w w6) := Lib.hid (HW.out.then_ ho6.out (fun i hi (h : i = b3) => by omega))
     replace HR := Lib.hid (HR.out.only ho6.out (by omega))
     clear ho6
     go_wp2_with fail
     refine (target_any HR.out).mono ?_
     rintro e w7 ⟨c1, t1, kd7, m7, rfl, hr, ho, ht, hm⟩
     have hle7 : m7 ≤ m5 := by omega
     have HM7 := Lib.hid hm
     have HTc1 := Lib.hid ht
     clear hm ht
     replace HR := Lib.hid hr
     have HOx := Lib.hid ho
     have hs7 := HOx.out.size
     clear hr ho
     replace HW : Hid (OnlyB b w w7) := Lib.hid (HW.out.then_ HOx.out (fun _ _ h => h))
     replace HK3 := Lib.hid (HOx.out.heap HK3.out (by omega))
     clear HOx
     go_wp2_with (refine wpl_segC rfl 56 (.tmp 42) (.tmp 41) rfl b3 42 rfl (c := c1) rfl HK3.out stE HTc1.out.len HTc1.out.one (new := (cellsI (⟨5, (at_ : Int), [], [], zRL, zRL, false, zEL, c1, false, zSL, none, 0, 0, none, 0, 0, none, 0, 0, [], none, 0, 0, false, [], none, 0, 0⟩ : ItV))) (cI_G (⟨5, (at_ : Int), [], [], zRL, zRL, false, zEL, zEL, false, zSL, none, 0, 0, none, 0, 0, none, 0, 0, [], none, 0, 0, false, [], none, 0, 0⟩ : ItV) ⟨rfl, rfl, rfl, rfl, rfl⟩ c1) ?_)
     clear HK3
     refine ⟨fun w8 HK3 ho8 => ?_⟩
     have hs8 := ho8.out.size
     replace HW : Hid (OnlyB b w w8) := Lib.hid (HW.out.then_ ho8.out (fun i hi (h : i = b3) => by omega))
     replace HR := Lib.hid (HR.out.only ho8.out (by omega))
     replace HTc1 := Lib.hid (HTc1.out.only ho8.out (fun i (h : i = b3) => by omega))
     clear ho8
     go_wp2_with fail
     refine (must_any HR.out _).mono ?_
     rintro e w9 ⟨rfl, m9, hr, ho, hm⟩
     have hle9 : m9 ≤ m7 := by omega
     have HM9 := Lib.hid hm
     clear hm
     replace HR := Lib.hid hr
     have HOx := Lib.hid ho
     have hs9 := HOx.out.size
     clear hr ho
     replace HW : Hid (OnlyB b w w9) := Lib.hid (HW.out.then_ HOx.out (fun _ _ h => h))
     replace HK3 := Lib.hid (HOx.out.heap HK3.out (by omega))
     replace HTc1 := Lib.hid (HTc1.out.only HOx.out (fun i (h : i = b) => by omega))
     clear HOx
     go_wp2_with fail
     refine (expr_any HR.out).mono ?_
     rintro e w10 ⟨c2, t2, kd10, m10, rfl, hr, ho, ht, hm⟩
     have hle10 : m10 ≤ m9 := by omega
     have HM10 := Lib.hid hm
     have HTc2 := Lib.hid ht
     clear hm ht
     replace HR := Lib.hid hr
     have HOx := Lib.hid ho
     have hs10 := HOx.out.size
     clear hr ho
     replace HW : Hid (OnlyB b w w10) := Lib.hid (HW.out.then_ HOx.out (fun _ _ h => h))
     replace HK3 := Lib.hid (HOx.out.heap HK3.out (by omega))
     replace HTc1 := Lib.hid (HTc1.out.only HOx.out (fun i (h : i = b) => by omega))
     clear HOx
     go_wp2_with (refine wpl_segC rfl 56 (.tmp 47) (.tmp 46) rfl b3 35 rfl (c := c2) rfl HK3.out stE HTc2.out.len HTc2.out.one (new := (cellsI (⟨5, (at_ : Int), [], [], zRL, zRL, false, c2, c1, false, zSL, none, 0, 0, none, 0, 0, none, 0, 0, [], none, 0, 0, false, [], none, 0, 0⟩ : ItV))) (cI_V (⟨5, (at_ : Int), [], [], zRL, zRL, false, zEL, c1, false, zSL, none, 0, 0, none, 0, 0, none, 0, 0, [], none, 0, 0, false, [], none, 0, 0⟩ : ItV) ⟨rfl, rfl, rfl, HTc1.out.len, rfl⟩ c2) ?_)
     clear HK3
     refine ⟨fun w11 HK3 ho11 => ?_⟩
     have hs11 := ho11.out.size
     replace HW : Hid (OnlyB b w w11) := Lib.hid (HW.out.then_ ho11.out (fun i hi (h : i = b3) => by omega))
     replace HR := Lib.hid (HR.out.only ho11.out (by omega))
     replace HTc1 := Lib.hid (HTc1.out.only ho11.out (fun i (h : i = b3) => by omega))
     replace HTc2 := Lib.hid (HTc2.out.only ho11.out (fun i (h : i = b3) => by omega))
     clear ho11
     go_wp2_with fail
     refine (must_any HR.out _).mono ?_
     rintro e w12 ⟨rfl, m12, hr, ho, hm⟩
     have hle12 : m12 ≤ m10 := by omega
     have HM12 := Lib.hid hm
     clear hm
     replace HR := Lib.hid hr
     have HOx := Lib.hid ho
     have hs12 := HOx.out.size
     clear hr ho
     replace HW : Hid (OnlyB b w w12) := Lib.hid (HW.out.then_ HOx.out (fun _ _ h => h))
     replace HK3 := Lib.hid (HOx.out.heap HK3.out (by omega))
     replace HTc1 := Lib.hid (HTc1.out.only HOx.out (fun i (h : i = b) => by omega))
     replace HTc2 := Lib.hid (HTc2.out.only HOx.out (fun i (h : i = b) => by omega))
     clear HOx
     have HTI : Hid (Tr FI w.heap.size w12.heap.size w12 (cellsI (⟨5, (at_ : Int), [], [], zRL, zRL, false, c2, c1, false, zSL, none, 0, 0, none, 0, 0, none, 0, 0, [], none, 0, 0, false, [], none, 0, 0⟩ : ItV)) ([97, 115, 115, 105, 103, 110, 32] ++ t1 ++ [32, 61, 32] ++ t2 ++ [59, 10])) := Lib.hid (tri_mk (x := (⟨5, (at_ : Int), [], [], zRL, zRL, false, c2, c1, false, zSL, none, 0, 0, none, 0, 0, none, 0, 0, [], none, 0, 0, false, [], none, 0, 0⟩ : ItV)) (r := (false, [123, 125], [123, 125])) (wd := (false, [123, 125], [123, 125])) (tV := (t2, kd10)) (tG := (t1, kd7)) (tB := []) ⟨(show (1 : Int) ≤ 5 ∧ (5 : Int) ≤ 9 by omega), (by simp), (by simp), (by simp), (by simp), (fun h => by cases h), (fun h => by have h9 : (5 : Int) = 8 := h; omega), okB_zero⟩ trr_zero trr_zero (HTc2.out.wide (by omega) (by omega)) (HTc1.out.wide (by omega) (by omega)) (fun h => by have h9 : (5 : Int) = 6 := h; omega) (LfP.nil (T := (fun _ => (([], false, []) : BiT)))) (LfP.nil (T := (fun _ => (([], false, []) : BiT)))) (LfP.nil (T := (fun _ => ([], 0)))) (LfP.nil (T := fun _ => ([] : LB))) (LfP.nil (T := fun _ => ([] : LB))) (show 0 ≤ 3000000 ∧ 0 ≤ 3000000 ∧ 0 ≤ 3000000 ∧ 0 ≤ 3000000 ∧ 0 ≤ 3000000 by omega))
     obtain ⟨tx, htx⟩ : ∃ t : LB, t = ([97, 115, 115, 105, 103, 110, 32] ++ t1 ++ [32, 61, 32] ++ t2 ++ [59, 10]) := ⟨_, rfl⟩
     rw [← htx] at HTI
     have HTL : Hid (tx.length = (([97, 115, 115, 105, 103, 110, 32] ++ t1 ++ [32, 61, 32] ++ t2 ++ [59, 10])).length) := Lib.hid (by rw [htx])
     clear htx
     obtain ⟨cI, hcI⟩ : ∃ c, c = (cellsI (⟨5, (at_ : Int), [], [], zRL, zRL, false, c2, c1, false, zSL, none, 0, 0, none, 0, 0, none, 0, 0, [], none, 0, 0, false, [], none, 0, 0⟩ : ItV)) := ⟨_, rfl⟩
     rw [← hcI] at HTI HK3
     clear hcI
     go_wp2_with (first | (refine wpl_load rfl 75 (.tmp 3) rfl b3 rfl HK3.out stI (by simp [(lenI HTI.out).1]) ?_) | (refine wpl_slice rfl 38 75 1 _ rfl (some 117) rfl Tryd.underlying38 cI.toArray (built65 (lenI HTI.out).1) ?_))
     refine ⟨fun w13 b117 HK117 ho13 ha117 hb117 => ?_⟩
     have hs13 := ho13.out.size
     replace HW : Hid (OnlyB b w w13) := Lib.hid (HW.out.then_ ho13.out (fun _ _ h => h.elim))
     replace HR := Lib.hid (HR.out.only ho13.out (fun h => h))
     replace HK3 := Lib.hid (ho13.out.heap HK3.out (fun h => h))
     replace HTc1 := Lib.hid (HTc1.out.only ho13.out (fun _ h => h.elim))
     replace HTc2 := Lib.hid (HTc2.out.only ho13.out (fun _ h => h.elim))
     replace HTI := Lib.hid (HTI.out.only ho13.out (fun _ h => h.elim))
     clear ho13
     go_wp2_with fail
     go_ret
     exact ⟨some ⟨b117, 0, none⟩, 1, 1, fun _ => tx, m12, rfl, HR.out, HW.out, lfI1 HK117.out ⟨by omega, by omega⟩ (HTI.out.wide (by omega) (by omega)), by omega, by have h7 := HTL.out; have := HM7.out; have := HM9.out; have := HM10.out; have := HM12.out; simp only [catL, KK, List.nil_append, List.length_append, List.length_cons, List.length_nil] at *; omega⟩
    | false =>
     obtain rfl : m = m5 := (hn rfl).symm
     clear hy hn
     go_wp2_with fail
     refine (accept_any HR.out _).mono ?_
     rintro e w6 ⟨ok, m6, rfl, hr, ho, hy, hn⟩
     replace HR := Lib.hid hr
     have HOx := Lib.hid ho
     have hs6 := HOx.out.size
     clear hr ho
     replace HW : Hid (OnlyB b w w6) := Lib.hid (HW.out.then_ HOx.out (fun _ _ h => h))
     replace HK3 := Lib.hid (HOx.out.heap HK3.out (by omega))
     clear HOx
     cases ok with
     | true =>
      obtain ⟨hp6, hl6⟩ := hy rfl
      clear hy hn
      go_wp2_with (refine wpl_cellC rfl 3 (.tmp 53) (.const (.int .i64 6)) rfl b3 0 rfl (v := .int .i64 6) rfl Tryd.sizeOf3 rfl rfl HK3.out (new := (cellsI (⟨6, (at_ : Int), [], [], zRL, zRL, false, zEL, zEL, false, zSL, none, 0, 0, none, 0, 0, none, 0, 0, [], none, 0, 0, false, [], none, 0, 0⟩ : ItV))) (cI_kd (⟨0, (at_ : Int), [], [], zRL, zRL, false, zEL, zEL, false, zSL, none, 0, 0, none, 0, 0, none, 0, 0, [], none, 0, 0, false, [], none, 0, 0⟩ : ItV) ⟨rfl, rfl, rfl, rfl, rfl⟩ 6) ?_)
      clear HK3
      refine ⟨fun w7 HK3 ho7 => ?_⟩
      have hs7 := ho7.out.size
      replace HW : Hid (OnlyB b w w7) := Lib.hid (HW.out.then_ ho7.out (fun i hi (h : i = b3) => by omega))
      replace HR := Lib.hid (HR.out.only ho7.out (by omega))
      clear ho7
      go_wp2_with fail
      refine (must_any HR.out _).mono ?_
      rintro e w8 ⟨rfl, m8, hr, ho, hm⟩
      have hle8 : m8 ≤ m6 := by omega
      have HM8 := Lib.hid hm
      clear hm
      replace HR := Lib.hid hr
      have HOx := Lib.hid ho
      have hs8 := HOx.out.size
      clear hr ho
      replace HW : Hid (OnlyB b w w8) := Lib.hid (HW.out.then_ HOx.out (fun _ _ h => h))
      replace HK3 := Lib.hid (HOx.out.heap HK3.out (by omega))
      clear HOx
      go_wp2_with fail
      refine (is_any HR.out _).mono ?_
      rintro e w9 ⟨ck, rfl, hwe, hik⟩
      obtain rfl := hwe.symm
      cases ck with
      | true =>
       obtain ⟨hrk0, hpk⟩ := hik rfl
       clear hik
       have HRK := Lib.hid hrk0
       clear hrk0
       go_wp2_with (refine wpl_cellC rfl 4 (.tmp 58) (.tmp 57) rfl b3 49 rfl (v := .bool true) rfl Tryd.sizeOf4 rfl rfl HK3.out (new := (cellsI (⟨6, (at_ : Int), [], [], zRL, zRL, false, zEL, zEL, true, zSL, none, 0, 0, none, 0, 0, none, 0, 0, [], none, 0, 0, false, [], none, 0, 0⟩ : ItV))) (cI_clk (⟨6, (at_ : Int), [], [], zRL, zRL, false, zEL, zEL, false, zSL, none, 0, 0, none, 0, 0, none, 0, 0, [], none, 0, 0, false, [], none, 0, 0⟩ : ItV) ⟨rfl, rfl, rfl, rfl, rfl⟩ true) ?_)
       clear HK3
       refine ⟨fun w10 HK3 ho10 => ?_⟩
       have hs10 := ho10.out.size
       replace HW : Hid (OnlyB b w w10) := Lib.hid (HW.out.then_ ho10.out (fun i hi (h : i = b3) => by omega))
       replace HR := Lib.hid (HR.out.only ho10.out (by omega))
       replace HRK := Lib.hid (HRK.out.only ho10.out (by omega))
       clear ho10
       obtain ⟨y6, z6⟩ : w10.cell? ⟨b3, 49, none⟩ = some (.bool true) ∧ w10.frozen? ⟨b3, 49, none⟩ = false := ⟨(cell_of_row _ _ _ _ _ _ HK3.out).trans (by rw [List.getElem?_toArray]; exact (cI_clk (⟨6, (at_ : Int), [], [], zRL, zRL, false, zEL, zEL, false, zSL, none, 0, 0, none, 0, 0, none, 0, 0, [], none, 0, 0, false, [], none, 0, 0⟩ : ItV) ⟨rfl, rfl, rfl, rfl, rfl⟩ true).at_), frozen_of_row _ _ _ _ _ HK3.out⟩
       go_wp2_with fail
       clear y6 z6
       obtain ⟨a1, a2, a3, a4, a5, a6, a7, hrk⟩ := HRK.out
       clear HRK
       refine (stepK_any hrk).mono ?_
       clear hrk
       rintro e w11 ⟨rfl, mk, hr, ho, hk1, hk2, hk3⟩
       have hlk := hk3 (by omega) hpk
       clear hk1 hk2 hk3
       replace HR := Lib.hid hr
       have HOx := Lib.hid ho
       have hs11 := HOx.out.size
       clear hr ho
       replace HW : Hid (OnlyB b w w11) := Lib.hid (HW.out.then_ HOx.out (fun _ _ h => h))
       replace HK3 := Lib.hid (HOx.out.heap HK3.out (by omega))
       clear HOx
       go_wp2_with fail
       refine (stmt_any HR.out).mono ?_
       rintro e w12 ⟨cB, tB, m12, rfl, hr, ho, ht, hm⟩
       have hle12 : m12 ≤ mk := by omega
       have HM12 := Lib.hid hm
       have HTcB := Lib.hid ht
       clear hm ht
       replace HR := Lib.hid hr
       have HOx := Lib.hid ho
       have hs12 := HOx.out.size
       clear hr ho
       replace HW : Hid (OnlyB b w w12) := Lib.hid (HW.out.then_ HOx.out (fun _ _ h => h))
       replace HK3 := Lib.hid (HOx.out.heap HK3.out (by omega))
       clear HOx
       go_wp2_with (refine wpl_segC rfl 73 (.tmp 67) (.tmp 66) rfl b3 50 rfl (c := cB) rfl HK3.out stSt (lenS HTcB.out) (oneS HTcB.out) (new := (cellsI (⟨6, (at_ : Int), [], [], zRL, zRL, false, zEL, zEL, true, cB, none, 0, 0, none, 0, 0, none, 0, 0, [], none, 0, 0, false, [], none, 0, 0⟩ : ItV))) (cI_B (⟨6, (at_ : Int), [], [], zRL, zRL, false, zEL, zEL, true, zSL, none, 0, 0, none, 0, 0, none, 0, 0, [], none, 0, 0, false, [], none, 0, 0⟩ : ItV) ⟨rfl, rfl, rfl, rfl, rfl⟩ cB) ?_)
       clear HK3
       refine ⟨fun w13 HK3 ho13 => ?_⟩
       have hs13 := ho13.out.size
       replace HW : Hid (OnlyB b w w13) := Lib.hid (HW.out.then_ ho13.out (fun i hi (h : i = b3) => by omega))
       replace HR := Lib.hid (HR.out.only ho13.out (by omega))
       replace HTcB := Lib.hid (HTcB.out.only ho13.out (fun i (h : i = b3) => by omega))
       clear ho13
       have HTI : Hid (Tr FI w.heap.size w13.heap.size w13 (cellsI (⟨6, (at_ : Int), [], [], zRL, zRL, false, zEL, zEL, true, cB, none, 0, 0, none, 0, 0, none, 0, 0, [], none, 0, 0, false, [], none, 0, 0⟩ : ItV)) ([97, 108, 119, 97, 121, 115, 32, 64, 99, 108, 107, 32] ++ tB ++ [10])) := Lib.hid (tri_mk (x := (⟨6, (at_ : Int), [], [], zRL, zRL, false, zEL, zEL, true, cB, none, 0, 0, none, 0, 0, none, 0, 0, [], none, 0, 0, false, [], none, 0, 0⟩ : ItV)) (r := (false, [123, 125], [123, 125])) (wd := (false, [123, 125], [123, 125])) (tV := ([123, 125], 0)) (tG := ([123, 125], 0)) (tB := tB) ⟨(show (1 : Int) ≤ 6 ∧ (6 : Int) ≤ 9 by omega), (by simp), (by simp), (by simp), (by simp), (fun h => by cases h), (fun h => by have h9 : (6 : Int) = 8 := h; omega), ⟨lenS HTcB.out, oneS HTcB.out⟩⟩ trr_zero trr_zero tre_zero tre_zero (fun _ => HTcB.out.wide (by omega) (by omega)) (LfP.nil (T := (fun _ => (([], false, []) : BiT)))) (LfP.nil (T := (fun _ => (([], false, []) : BiT)))) (LfP.nil (T := (fun _ => ([], 0)))) (LfP.nil (T := fun _ => ([] : LB))) (LfP.nil (T := fun _ => ([] : LB))) (show 0 ≤ 3000000 ∧ 0 ≤ 3000000 ∧ 0 ≤ 3000000 ∧ 0 ≤ 3000000 ∧ 0 ≤ 3000000 by omega))
       obtain ⟨tx, htx⟩ : ∃ t : LB, t = ([97, 108, 119, 97, 121, 115, 32, 64, 99, 108, 107, 32] ++ tB ++ [10]) := ⟨_, rfl⟩
       rw [← htx] at HTI
       have HTL : Hid (tx.length = (([97, 108, 119, 97, 121, 115, 32, 64, 99, 108, 107, 32] ++ tB ++ [10])).length) := Lib.hid (by rw [htx])
       clear htx
       obtain ⟨cI, hcI⟩ : ∃ c, c = (cellsI (⟨6, (at_ : Int), [], [], zRL, zRL, false, zEL, zEL, true, cB, none, 0, 0, none, 0, 0, none, 0, 0, [], none, 0, 0, false, [], none, 0, 0⟩ : ItV)) := ⟨_, rfl⟩
       rw [← hcI] at HTI HK3
       clear hcI
       go_wp2_with (first | (refine wpl_load rfl 75 (.tmp 3) rfl b3 rfl HK3.out stI (by simp [(lenI HTI.out).1]) ?_) | (refine wpl_slice rfl 38 75 1 _ rfl (some 117) rfl Tryd.underlying38 cI.toArray (built65 (lenI HTI.out).1) ?_))
       refine ⟨fun w14 b117 HK117 ho14 ha117 hb117 => ?_⟩
       have hs14 := ho14.out.size
       replace HW : Hid (OnlyB b w w14) := Lib.hid (HW.out.then_ ho14.out (fun _ _ h => h.elim))
       replace HR := Lib.hid (HR.out.only ho14.out (fun h => h))
       replace HK3 := Lib.hid (ho14.out.heap HK3.out (fun h => h))
       replace HTcB := Lib.hid (HTcB.out.only ho14.out (fun _ h => h.elim))
       replace HTI := Lib.hid (HTI.out.only ho14.out (fun _ h => h.elim))
       clear ho14
       go_wp2_with fail
       go_ret
       exact ⟨some ⟨b117, 0, none⟩, 1, 1, fun _ => tx, m12, rfl, HR.out, HW.out, lfI1 HK117.out ⟨by omega, by omega⟩ (HTI.out.wide (by omega) (by omega)), by omega, by have h7 := HTL.out; have := HM8.out; have := HM12.out; simp only [catL, KK, List.nil_append, List.length_append, List.length_cons, List.length_nil] at *; omega⟩
      | false =>
       clear hik
       go_wp2_with (refine wpl_cellC rfl 4 (.tmp 58) (.tmp 57) rfl b3 49 rfl (v := .bool false) rfl Tryd.sizeOf4 rfl rfl HK3.out (new := (cellsI (⟨6, (at_ : Int), [], [], zRL, zRL, false, zEL, zEL, false, zSL, none, 0, 0, none, 0, 0, none, 0, 0, [], none, 0, 0, false, [], none, 0, 0⟩ : ItV))) (cI_clk (⟨6, (at_ : Int), [], [], zRL, zRL, false, zEL, zEL, false, zSL, none, 0, 0, none, 0, 0, none, 0, 0, [], none, 0, 0, false, [], none, 0, 0⟩ : ItV) ⟨rfl, rfl, rfl, rfl, rfl⟩ false) ?_)
       clear HK3
       refine ⟨fun w10 HK3 ho10 => ?_⟩
       have hs10 := ho10.out.size
       replace HW : Hid (OnlyB b w w10) := Lib.hid (HW.out.then_ ho10.out (fun i hi (h : i = b3) => by omega))
       replace HR := Lib.hid (HR.out.only ho10.out (by omega))
       clear ho10
       obtain ⟨y6, z6⟩ : w10.cell? ⟨b3, 49, none⟩ = some (.bool false) ∧ w10.frozen? ⟨b3, 49, none⟩ = false := ⟨(cell_of_row _ _ _ _ _ _ HK3.out).trans (by rw [List.getElem?_toArray]; exact (cI_clk (⟨6, (at_ : Int), [], [], zRL, zRL, false, zEL, zEL, false, zSL, none, 0, 0, none, 0, 0, none, 0, 0, [], none, 0, 0, false, [], none, 0, 0⟩ : ItV) ⟨rfl, rfl, rfl, rfl, rfl⟩ false).at_), frozen_of_row _ _ _ _ _ HK3.out⟩
       go_wp2_with fail
       clear y6 z6
       go_wp2_with fail
       refine (must_any HR.out _).mono ?_
       rintro e w11 ⟨rfl, m11, hr, ho, hm⟩
       have hle11 : m11 ≤ m8 := by omega
       have HM11 := Lib.hid hm
       clear hm
       replace HR := Lib.hid hr
       have HOx := Lib.hid ho
       have hs11 := HOx.out.size
       clear hr ho
       replace HW : Hid (OnlyB b w w11) := Lib.hid (HW.out.then_ HOx.out (fun _ _ h => h))
       replace HK3 := Lib.hid (HOx.out.heap HK3.out (by omega))
       clear HOx
       go_wp2_with fail
       refine (stmt_any HR.out).mono ?_
       rintro e w12 ⟨cB, tB, m12, rfl, hr, ho, ht, hm⟩
       have hle12 : m12 ≤ m11 := by omega
       have HM12 := Lib.hid hm
       have HTcB := Lib.hid ht
       clear hm ht
       replace HR := Lib.hid hr
       have HOx := Lib.hid ho
       have hs12 := HOx.out.size
       clear hr ho
       replace HW : Hid (OnlyB b w w12) := Lib.hid (HW.out.then_ HOx.out (fun _ _ h => h))
       replace HK3 := Lib.hid (HOx.out.heap HK3.out (by omega))
       clear HOx
       go_wp2_with (refine wpl_segC rfl 73 (.tmp 67) (.tmp 66) rfl b3 50 rfl (c := cB) rfl HK3.out stSt (lenS HTcB.out) (oneS HTcB.out) (new := (cellsI (⟨6, (at_ : Int), [], [], zRL, zRL, false, zEL, zEL, false, cB, none, 0, 0, none, 0, 0, none, 0, 0, [], none, 0, 0, false, [], none, 0, 0⟩ : ItV))) (cI_B (⟨6, (at_ : Int), [], [], zRL, zRL, false, zEL, zEL, false, zSL, none, 0, 0, none, 0, 0, none, 0, 0, [], none, 0, 0, false, [], none, 0, 0⟩ : ItV) ⟨rfl, rfl, rfl, rfl, rfl⟩ cB) ?_)
       clear HK3
       refine ⟨fun w13 HK3 ho13 => ?_⟩
       have hs13 := ho13.out.size
       replace HW : Hid (OnlyB b w w13) := Lib.hid (HW.out.then_ ho13.out (fun i hi (h : i = b3) => by omega))
       replace HR := Lib.hid (HR.out.only ho13.out (by omega))
       replace HTcB := Lib.hid (HTcB.out.only ho13.out (fun i (h : i = b3) => by omega))
       clear ho13
       have HTI : Hid (Tr FI w.heap.size w13.heap.size w13 (cellsI (⟨6, (at_ : Int), [], [], zRL, zRL, false, zEL, zEL, false, cB, none, 0, 0, none, 0, 0, none, 0, 0, [], none, 0, 0, false, [], none, 0, 0⟩ : ItV)) ([97, 108, 119, 97, 121, 115, 32, 64, 42, 32] ++ tB ++ [10])) := Lib.hid (tri_mk (x := (⟨6, (at_ : Int), [], [], zRL, zRL, false, zEL, zEL, false, cB, none, 0, 0, none, 0, 0, none, 0, 0, [], none, 0, 0, false, [], none, 0, 0⟩ : ItV)) (r := (false, [123, 125], [123, 125])) (wd := (false, [123, 125], [123, 125])) (tV := ([123, 125], 0)) (tG := ([123, 125], 0)) (tB := tB) ⟨(show (1 : Int) ≤ 6 ∧ (6 : Int) ≤ 9 by omega), (by simp), (by simp), (by simp), (by simp), (fun h => by cases h), (fun h => by have h9 : (6 : Int) = 8 := h; omega), ⟨lenS HTcB.out, oneS HTcB.out⟩⟩ trr_zero trr_zero tre_zero tre_zero (fun _ => HTcB.out.wide (by omega) (by omega)) (LfP.nil (T := (fun _ => (([], false, []) : BiT)))) (LfP.nil (T := (fun _ => (([], false, []) : BiT)))) (LfP.nil (T := (fun _ => ([], 0)))) (LfP.nil (T := fun _ => ([] : LB))) (LfP.nil (T := fun _ => ([] : LB))) (show 0 ≤ 3000000 ∧ 0 ≤ 3000000 ∧ 0 ≤ 3000000 ∧ 0 ≤ 3000000 ∧ 0 ≤ 3000000 by omega))
       obtain ⟨tx, htx⟩ : ∃ t : LB, t = ([97, 108, 119, 97, 121, 115, 32, 64, 42, 32] ++ tB ++ [10]) := ⟨_, rfl⟩
       rw [← htx] at HTI
       have HTL : Hid (tx.length = (([97, 108, 119, 97, 121, 115, 32, 64, 42, 32] ++ tB ++ [10])).length) := Lib.hid (by rw [htx])
       clear htx
       obtain ⟨cI, hcI⟩ : ∃ c, c = (cellsI (⟨6, (at_ : Int), [], [], zRL, zRL, false, zEL, zEL, false, cB, none, 0, 0, none, 0, 0, none, 0, 0, [], none, 0, 0, false, [], none, 0, 0⟩ : ItV)) := ⟨_, rfl⟩
       rw [← hcI] at HTI HK3
       clear hcI
       go_wp2_with (first | (refine wpl_load rfl 75 (.tmp 3) rfl b3 rfl HK3.out stI (by simp [(lenI HTI.out).1]) ?_) | (refine wpl_slice rfl 38 75 1 _ rfl (some 117) rfl Tryd.underlying38 cI.toArray (built65 (lenI HTI.out).1) ?_))
       refine ⟨fun w14 b117 HK117 ho14 ha117 hb117 => ?_⟩
       have hs14 := ho14.out.size
       replace HW : Hid (OnlyB b w w14) := Lib.hid (HW.out.then_ ho14.out (fun _ _ h => h.elim))
       replace HR := Lib.hid (HR.out.only ho14.out (fun h => h))
       replace HK3 := Lib.hid (ho14.out.heap HK3.out (fun h => h))
       replace HTcB := Lib.hid (HTcB.out.only ho14.out (fun _ h => h.elim))
       replace HTI := Lib.hid (HTI.out.only ho14.out (fun _ h => h.elim))
       clear ho14
       go_wp2_with fail
       go_ret
       exact ⟨some ⟨b117, 0, none⟩, 1, 1, fun _ => tx, m12, rfl, HR.out, HW.out, lfI1 HK117.out ⟨by omega, by omega⟩ (HTI.out.wide (by omega) (by omega)), by omega, by have h7 := HTL.out; have := HM8.out; have := HM11.out; have := HM12.out; simp only [catL, KK, List.nil_append, List.length_append, List.length_cons, List.length_nil] at *; omega⟩
     | false =>
      obtain rfl : m = m6 := (hn rfl).symm
      clear hy hn
      go_wp2_with fail
      refine (accept_any HR.out _).mono ?_
      rintro e w7 ⟨ok, m7, rfl, hr, ho, hy, hn⟩
      replace HR := Lib.hid hr
      have HOx := Lib.hid ho
      have hs7 := HOx.out.size
      clear hr ho
      replace HW : Hid (OnlyB b w w7) := Lib.hid (HW.out.then_ HOx.out (fun _ _ h => h))
      replace HK3 := Lib.hid (HOx.out.heap HK3.out (by omega))
      clear HOx
      cases ok with
      | true =>
       obtain ⟨hp7, hl7⟩ := hy rfl
       clear hy hn
       go_wp2_with (refine wpl_cellC rfl 3 (.tmp 71) (.const (.int .i64 8)) rfl b3 0 rfl (v := .int .i64 8) rfl Tryd.sizeOf3 rfl rfl HK3.out (new := (cellsI (⟨8, (at_ : Int), [], [], zRL, zRL, false, zEL, zEL, false, zSL, none, 0, 0, none, 0, 0, none, 0, 0, [], none, 0, 0, false, [], none, 0, 0⟩ : ItV))) (cI_kd (⟨0, (at_ : Int), [], [], zRL, zRL, false, zEL, zEL, false, zSL, none, 0, 0, none, 0, 0, none, 0, 0, [], none, 0, 0, false, [], none, 0, 0⟩ : ItV) ⟨rfl, rfl, rfl, rfl, rfl⟩ 8) ?_)
       clear HK3
       refine ⟨fun w8 HK3 ho8 => ?_⟩
       have hs8 := ho8.out.size
       replace HW : Hid (OnlyB b w w8) := Lib.hid (HW.out.then_ ho8.out (fun i hi (h : i = b3) => by omega))
       replace HR := Lib.hid (HR.out.only ho8.out (by omega))
       clear ho8
       go_wp2_with fail
       refine (loop_any HR).mono ?_
       rintro e w9 ⟨nm, D0, u0, u1, u2, k0, k1, k2, m9, rfl, hnm, hr, ho, ht, hm⟩
       have hle9 : m9 ≤ m7 := by omega
       have HM9 := Lib.hid hm
       have HLP := Lib.hid ht
       clear hm ht
       replace HR := Lib.hid hr
       have HOx := Lib.hid ho
       have hs9 := HOx.out.size
       clear hr ho
       replace HW : Hid (OnlyB b w w9) := Lib.hid (HW.out.then_ HOx.out (fun _ _ h => h))
       replace HK3 := Lib.hid (HOx.out.heap HK3.out (by omega))
       clear HOx
       go_wp2_with (refine wpl_cellC rfl 9 (.tmp 77) (.tmp 75) rfl b3 2 rfl (v := .string (bstr nm)) rfl Tryd.sizeOf9 rfl rfl HK3.out (new := (cellsI (⟨8, (at_ : Int), nm, [], zRL, zRL, false, zEL, zEL, false, zSL, none, 0, 0, none, 0, 0, none, 0, 0, [], none, 0, 0, false, [], none, 0, 0⟩ : ItV))) (cI_nm (⟨8, (at_ : Int), [], [], zRL, zRL, false, zEL, zEL, false, zSL, none, 0, 0, none, 0, 0, none, 0, 0, [], none, 0, 0, false, [], none, 0, 0⟩ : ItV) ⟨rfl, rfl, rfl, rfl, rfl⟩ nm) ?_)
       clear HK3
       refine ⟨fun w10 HK3 ho10 => ?_⟩
       have hs10 := ho10.out.size
       replace HW : Hid (OnlyB b w w10) := Lib.hid (HW.out.then_ ho10.out (fun i hi (h : i = b3) => by omega))
       replace HR := Lib.hid (HR.out.only ho10.out (by omega))
       replace HLP := Lib.hid (HLP.out.only ho10.out (fun i (h : i = b3) => by omega))
       clear ho10
       go_wp2_with (refine wpl_cellC rfl 54 (.tmp 78) (.tmp 76) rfl b3 59 rfl (v := .slice (some ⟨D0, 0, none⟩) 3 3) rfl Tryd.sizeOf54 rfl rfl HK3.out (new := (cellsI (⟨8, (at_ : Int), nm, [], zRL, zRL, false, zEL, zEL, false, zSL, none, 0, 0, none, 0, 0, (some ⟨D0, 0, none⟩), 3, 3, [], none, 0, 0, false, [], none, 0, 0⟩ : ItV))) (cI_E (⟨8, (at_ : Int), nm, [], zRL, zRL, false, zEL, zEL, false, zSL, none, 0, 0, none, 0, 0, none, 0, 0, [], none, 0, 0, false, [], none, 0, 0⟩ : ItV) ⟨rfl, rfl, rfl, rfl, rfl⟩ (some ⟨D0, 0, none⟩) 3 3) ?_)
       clear HK3
       refine ⟨fun w11 HK3 ho11 => ?_⟩
       have hs11 := ho11.out.size
       replace HW : Hid (OnlyB b w w11) := Lib.hid (HW.out.then_ ho11.out (fun i hi (h : i = b3) => by omega))
       replace HR := Lib.hid (HR.out.only ho11.out (by omega))
       replace HLP := Lib.hid (HLP.out.only ho11.out (fun i (h : i = b3) => by omega))
       clear ho11
       go_wp2_with fail
       have hpm12 : m9 < m := by omega
       refine (part_step (Lib.hid (fun h hr => HI.out (Nat.lt_of_le_of_lt h hpm12) hr)) HR).mono ?_
       rintro e w12 ⟨lab, AI, ni, ci, TI, m12, rfl, hlab, hr, ho, ht, hpn12, hm⟩
       have hle12 : m12 ≤ m9 := by omega
       have HM12 := Lib.hid hm
       have HLI := Lib.hid ht
       clear hm ht
       replace HR := Lib.hid hr
       have HOx := Lib.hid ho
       have hs12 := HOx.out.size
       clear hr ho
       replace HW : Hid (OnlyB b w w12) := Lib.hid (HW.out.then_ HOx.out (fun _ _ h => h))
       replace HK3 := Lib.hid (HOx.out.heap HK3.out (by omega))
       replace HLP := Lib.hid (HLP.out.only HOx.out (fun i (h : i = b) => by omega))
       clear HOx
       go_wp2_with (refine wpl_cellC rfl 9 (.tmp 84) (.tmp 82) rfl b3 60 rfl (v := .string (bstr lab)) rfl Tryd.sizeOf9 rfl rfl HK3.out (new := (cellsI (⟨8, (at_ : Int), nm, [], zRL, zRL, false, zEL, zEL, false, zSL, none, 0, 0, none, 0, 0, (some ⟨D0, 0, none⟩), 3, 3, lab, none, 0, 0, false, [], none, 0, 0⟩ : ItV))) (cI_lab (⟨8, (at_ : Int), nm, [], zRL, zRL, false, zEL, zEL, false, zSL, none, 0, 0, none, 0, 0, (some ⟨D0, 0, none⟩), 3, 3, [], none, 0, 0, false, [], none, 0, 0⟩ : ItV) ⟨rfl, rfl, rfl, rfl, rfl⟩ lab) ?_)
       clear HK3
       refine ⟨fun w13 HK3 ho13 => ?_⟩
       have hs13 := ho13.out.size
       replace HW : Hid (OnlyB b w w13) := Lib.hid (HW.out.then_ ho13.out (fun i hi (h : i = b3) => by omega))
       replace HR := Lib.hid (HR.out.only ho13.out (by omega))
       replace HLP := Lib.hid (HLP.out.only ho13.out (fun i (h : i = b3) => by omega))
       replace HLI := Lib.hid (HLI.out.only ho13.out (fun i (h : i = b3) => by omega))
       clear ho13
       go_wp2_with (refine wpl_cellC rfl 38 (.tmp 85) (.tmp 83) rfl b3 61 rfl (v := .slice AI ni ci) rfl Tryd.sizeOf38 rfl rfl HK3.out (new := (cellsI (⟨8, (at_ : Int), nm, [], zRL, zRL, false, zEL, zEL, false, zSL, none, 0, 0, none, 0, 0, (some ⟨D0, 0, none⟩), 3, 3, lab, AI, ni, ci, false, [], none, 0, 0⟩ : ItV))) (cI_I (⟨8, (at_ : Int), nm, [], zRL, zRL, false, zEL, zEL, false, zSL, none, 0, 0, none, 0, 0, (some ⟨D0, 0, none⟩), 3, 3, lab, none, 0, 0, false, [], none, 0, 0⟩ : ItV) ⟨rfl, rfl, rfl, rfl, rfl⟩ AI ni ci) ?_)
       clear HK3
       refine ⟨fun w14 HK3 ho14 => ?_⟩
       have hs14 := ho14.out.size
       replace HW : Hid (OnlyB b w w14) := Lib.hid (HW.out.then_ ho14.out (fun i hi (h : i = b3) => by omega))
       replace HR := Lib.hid (HR.out.only ho14.out (by omega))
       replace HLP := Lib.hid (HLP.out.only ho14.out (fun i (h : i = b3) => by omega))
       replace HLI := Lib.hid (HLI.out.only ho14.out (fun i (h : i = b3) => by omega))
       clear ho14
       have HTI : Hid (Tr FI w.heap.size w14.heap.size w14 (cellsI (⟨8, (at_ : Int), nm, [], zRL, zRL, false, zEL, zEL, false, zSL, none, 0, 0, none, 0, 0, (some ⟨D0, 0, none⟩), 3, 3, lab, AI, ni, ci, false, [], none, 0, 0⟩ : ItV)) (loopL nm (fun i => (fn3 (u0, k0) (u1, k1) (u2, k2) i).1) ++ beginL lab (catL TI ni) ++ [101, 110, 100, 10])) := Lib.hid (tri_mk (x := (⟨8, (at_ : Int), nm, [], zRL, zRL, false, zEL, zEL, false, zSL, none, 0, 0, none, 0, 0, (some ⟨D0, 0, none⟩), 3, 3, lab, AI, ni, ci, false, [], none, 0, 0⟩ : ItV)) (r := (false, [123, 125], [123, 125])) (wd := (false, [123, 125], [123, 125])) (tV := ([123, 125], 0)) (tG := ([123, 125], 0)) (tB := []) ⟨(show (1 : Int) ≤ 8 ∧ (8 : Int) ≤ 9 by omega), (show nm.length ≤ 100000 by omega), (by simp), (show lab.length ≤ 100000 by omega), (by simp), (fun h => by cases h), (fun _ => rfl), okB_zero⟩ trr_zero trr_zero tre_zero tre_zero (fun h => by have h9 : (8 : Int) = 6 := h; omega) (LfP.nil (T := (fun _ => (([], false, []) : BiT)))) (LfP.nil (T := (fun _ => (([], false, []) : BiT)))) (HLP.out.wide (by omega) (by omega)) (HLI.out.wide (by omega) (by omega)) (LfP.nil (T := fun _ => ([] : LB))) (show 0 ≤ 3000000 ∧ 0 ≤ 3000000 ∧ 3 ≤ 3000000 ∧ ni ≤ 3000000 ∧ 0 ≤ 3000000 by omega))
       obtain ⟨tx, htx⟩ : ∃ t : LB, t = (loopL nm (fun i => (fn3 (u0, k0) (u1, k1) (u2, k2) i).1) ++ beginL lab (catL TI ni) ++ [101, 110, 100, 10]) := ⟨_, rfl⟩
       rw [← htx] at HTI
       have HTL : Hid (tx.length = ((loopL nm (fun i => (fn3 (u0, k0) (u1, k1) (u2, k2) i).1) ++ beginL lab (catL TI ni) ++ [101, 110, 100, 10])).length) := Lib.hid (by rw [htx])
       clear htx
       obtain ⟨cI, hcI⟩ : ∃ c, c = (cellsI (⟨8, (at_ : Int), nm, [], zRL, zRL, false, zEL, zEL, false, zSL, none, 0, 0, none, 0, 0, (some ⟨D0, 0, none⟩), 3, 3, lab, AI, ni, ci, false, [], none, 0, 0⟩ : ItV)) := ⟨_, rfl⟩
       rw [← hcI] at HTI HK3
       clear hcI
       go_wp2_with (first | (refine wpl_load rfl 75 (.tmp 3) rfl b3 rfl HK3.out stI (by simp [(lenI HTI.out).1]) ?_) | (refine wpl_slice rfl 38 75 1 _ rfl (some 117) rfl Tryd.underlying38 cI.toArray (built65 (lenI HTI.out).1) ?_))
       refine ⟨fun w15 b117 HK117 ho15 ha117 hb117 => ?_⟩
       have hs15 := ho15.out.size
       replace HW : Hid (OnlyB b w w15) := Lib.hid (HW.out.then_ ho15.out (fun _ _ h => h.elim))
       replace HR := Lib.hid (HR.out.only ho15.out (fun h => h))
       replace HK3 := Lib.hid (ho15.out.heap HK3.out (fun h => h))
       replace HLP := Lib.hid (HLP.out.only ho15.out (fun _ h => h.elim))
       replace HLI := Lib.hid (HLI.out.only ho15.out (fun _ h => h.elim))
       replace HTI := Lib.hid (HTI.out.only ho15.out (fun _ h => h.elim))
       clear ho15
       go_wp2_with fail
       go_ret
       exact ⟨some ⟨b117, 0, none⟩, 1, 1, fun _ => tx, m12, rfl, HR.out, HW.out, lfI1 HK117.out ⟨by omega, by omega⟩ (HTI.out.wide (by omega) (by omega)), by omega, by have h7 := HTL.out; have := HM9.out; have := HM12.out; have h6 := loopL_len nm u0 u1 u2 k0 k1 k2; have h5 := beginL_len lab (catL TI ni); simp only [catL, KK, List.nil_append, List.length_append, List.length_cons, List.length_nil] at *; omega⟩
      | false =>
       obtain rfl : m = m7 := (hn rfl).symm
       clear hy hn
       go_wp2_with fail
       refine (accept_any HR.out _).mono ?_
       rintro e w8 ⟨ok, m8, rfl, hr, ho, hy, hn⟩
       replace HR := Lib.hid hr
       have HOx := Lib.hid ho
       have hs8 := HOx.out.size
       clear hr ho
       replace HW : Hid (OnlyB b w w8) := Lib.hid (HW.out.then_ HOx.out (fun _ _ h => h))
       replace HK3 := Lib.hid (HOx.out.heap HK3.out (by omega))
       clear HOx
       cases ok with
       | true =>
        obtain ⟨hp8, hl8⟩ := hy rfl
        clear hy hn
        go_wp2_with (refine wpl_cellC rfl 3 (.tmp 89) (.const (.int .i64 9)) rfl b3 0 rfl (v := .int .i64 9) rfl Tryd.sizeOf3 rfl rfl HK3.out (new := (cellsI (⟨9, (at_ : Int), [], [], zRL, zRL, false, zEL, zEL, false, zSL, none, 0, 0, none, 0, 0, none, 0, 0, [], none, 0, 0, false, [], none, 0, 0⟩ : ItV))) (cI_kd (⟨0, (at_ : Int), [], [], zRL, zRL, false, zEL, zEL, false, zSL, none, 0, 0, none, 0, 0, none, 0, 0, [], none, 0, 0, false, [], none, 0, 0⟩ : ItV) ⟨rfl, rfl, rfl, rfl, rfl⟩ 9) ?_)
        clear HK3
        refine ⟨fun w9 HK3 ho9 => ?_⟩
        have hs9 := ho9.out.size
        replace HW : Hid (OnlyB b w w9) := Lib.hid (HW.out.then_ ho9.out (fun i hi (h : i = b3) => by omega))
        replace HR := Lib.hid (HR.out.only ho9.out (by omega))
        clear ho9
        go_wp2_with fail
        refine (must_any HR.out _).mono ?_
        rintro e w10 ⟨rfl, m10, hr, ho, hm⟩
        have hle10 : m10 ≤ m8 := by omega
        have HM10 := Lib.hid hm
        clear hm
        replace HR := Lib.hid hr
        have HOx := Lib.hid ho
        have hs10 := HOx.out.size
        clear hr ho
        replace HW : Hid (OnlyB b w w10) := Lib.hid (HW.out.then_ HOx.out (fun _ _ h => h))
        replace HK3 := Lib.hid (HOx.out.heap HK3.out (by omega))
        clear HOx
        go_wp2_with fail
        refine (expr_any HR.out).mono ?_
        rintro e w11 ⟨c1, t1, kd11, m11, rfl, hr, ho, ht, hm⟩
        have hle11 : m11 ≤ m10 := by omega
        have HM11 := Lib.hid hm
        have HTc1 := Lib.hid ht
        clear hm ht
        replace HR := Lib.hid hr
        have HOx := Lib.hid ho
        have hs11 := HOx.out.size
        clear hr ho
        replace HW : Hid (OnlyB b w w11) := Lib.hid (HW.out.then_ HOx.out (fun _ _ h => h))
        replace HK3 := Lib.hid (HOx.out.heap HK3.out (by omega))
        clear HOx
        go_wp2_with (refine wpl_segC rfl 56 (.tmp 94) (.tmp 93) rfl b3 35 rfl (c := c1) rfl HK3.out stE HTc1.out.len HTc1.out.one (new := (cellsI (⟨9, (at_ : Int), [], [], zRL, zRL, false, c1, zEL, false, zSL, none, 0, 0, none, 0, 0, none, 0, 0, [], none, 0, 0, false, [], none, 0, 0⟩ : ItV))) (cI_V (⟨9, (at_ : Int), [], [], zRL, zRL, false, zEL, zEL, false, zSL, none, 0, 0, none, 0, 0, none, 0, 0, [], none, 0, 0, false, [], none, 0, 0⟩ : ItV) ⟨rfl, rfl, rfl, rfl, rfl⟩ c1) ?_)
        clear HK3
        refine ⟨fun w12 HK3 ho12 => ?_⟩
        have hs12 := ho12.out.size
        replace HW : Hid (OnlyB b w w12) := Lib.hid (HW.out.then_ ho12.out (fun i hi (h : i = b3) => by omega))
        replace HR := Lib.hid (HR.out.only ho12.out (by omega))
        replace HTc1 := Lib.hid (HTc1.out.only ho12.out (fun i (h : i = b3) => by omega))
        clear ho12
        go_wp2_with fail
        refine (must_any HR.out _).mono ?_
        rintro e w13 ⟨rfl, m13, hr, ho, hm⟩
        have hle13 : m13 ≤ m11 := by omega
        have HM13 := Lib.hid hm
        clear hm
        replace HR := Lib.hid hr
        have HOx := Lib.hid ho
        have hs13 := HOx.out.size
        clear hr ho
        replace HW : Hid (OnlyB b w w13) := Lib.hid (HW.out.then_ HOx.out (fun _ _ h => h))
        replace HK3 := Lib.hid (HOx.out.heap HK3.out (by omega))
        replace HTc1 := Lib.hid (HTc1.out.only HOx.out (fun i (h : i = b) => by omega))
        clear HOx
        go_wp2_with fail
        have hpm14 : m13 < m := by omega
        refine (part_step (Lib.hid (fun h hr => HI.out (Nat.lt_of_le_of_lt h hpm14) hr)) HR).mono ?_
        rintro e w14 ⟨lab, AI, ni, ci, TI, m14, rfl, hlab, hr, ho, ht, hpn14, hm⟩
        have hle14 : m14 ≤ m13 := by omega
        have HM14 := Lib.hid hm
        have HLI := Lib.hid ht
        clear hm ht
        replace HR := Lib.hid hr
        have HOx := Lib.hid ho
        have hs14 := HOx.out.size
        clear hr ho
        replace HW : Hid (OnlyB b w w14) := Lib.hid (HW.out.then_ HOx.out (fun _ _ h => h))
        replace HK3 := Lib.hid (HOx.out.heap HK3.out (by omega))
        replace HTc1 := Lib.hid (HTc1.out.only HOx.out (fun i (h : i = b) => by omega))
        clear HOx
        go_wp2_with (refine wpl_cellC rfl 9 (.tmp 102) (.tmp 100) rfl b3 60 rfl (v := .string (bstr lab)) rfl Tryd.sizeOf9 rfl rfl HK3.out (new := (cellsI (⟨9, (at_ : Int), [], [], zRL, zRL, false, c1, zEL, false, zSL, none, 0, 0, none, 0, 0, none, 0, 0, lab, none, 0, 0, false, [], none, 0, 0⟩ : ItV))) (cI_lab (⟨9, (at_ : Int), [], [], zRL, zRL, false, c1, zEL, false, zSL, none, 0, 0, none, 0, 0, none, 0, 0, [], none, 0, 0, false, [], none, 0, 0⟩ : ItV) ⟨rfl, rfl, HTc1.out.len, rfl, rfl⟩ lab) ?_)
        clear HK3
        refine ⟨fun w15 HK3 ho15 => ?_⟩
        have hs15 := ho15.out.size
        replace HW : Hid (OnlyB b w w15) := Lib.hid (HW.out.then_ ho15.out (fun i hi (h : i = b3) => by omega))
        replace HR := Lib.hid (HR.out.only ho15.out (by omega))
        replace HTc1 := Lib.hid (HTc1.out.only ho15.out (fun i (h : i = b3) => by omega))
        replace HLI := Lib.hid (HLI.out.only ho15.out (fun i (h : i = b3) => by omega))
        clear ho15
        go_wp2_with (refine wpl_cellC rfl 38 (.tmp 103) (.tmp 101) rfl b3 61 rfl (v := .slice AI ni ci) rfl Tryd.sizeOf38 rfl rfl HK3.out (new := (cellsI (⟨9, (at_ : Int), [], [], zRL, zRL, false, c1, zEL, false, zSL, none, 0, 0, none, 0, 0, none, 0, 0, lab, AI, ni, ci, false, [], none, 0, 0⟩ : ItV))) (cI_I (⟨9, (at_ : Int), [], [], zRL, zRL, false, c1, zEL, false, zSL, none, 0, 0, none, 0, 0, none, 0, 0, lab, none, 0, 0, false, [], none, 0, 0⟩ : ItV) ⟨rfl, rfl, HTc1.out.len, rfl, rfl⟩ AI ni ci) ?_)
        clear HK3
        refine ⟨fun w16 HK3 ho16 => ?_⟩
        have hs16 := ho16.out.size
        replace HW : Hid (OnlyB b w w16) := Lib.hid (HW.out.then_ ho16.out (fun i hi (h : i = b3) => by omega))
        replace HR := Lib.hid (HR.out.only ho16.out (by omega))
        replace HTc1 := Lib.hid (HTc1.out.only ho16.out (fun i (h : i = b3) => by omega))
        replace HLI := Lib.hid (HLI.out.only ho16.out (fun i (h : i = b3) => by omega))
        clear ho16
        go_wp2_with fail
        refine (accept_any HR.out _).mono ?_
        rintro e w17 ⟨oe, m17, rfl, hr, ho, hy, hn⟩
        replace HR := Lib.hid hr
        have HOx := Lib.hid ho
        have hs17 := HOx.out.size
        clear hr ho
        replace HW : Hid (OnlyB b w w17) := Lib.hid (HW.out.then_ HOx.out (fun _ _ h => h))
        replace HK3 := Lib.hid (HOx.out.heap HK3.out (by omega))
        replace HTc1 := Lib.hid (HTc1.out.only HOx.out (fun i (h : i = b) => by omega))
        replace HLI := Lib.hid (HLI.out.only HOx.out (fun i (h : i = b) => by omega))
        clear HOx
        cases oe with
        | true =>
         obtain ⟨hp17, hl17⟩ := hy rfl
         clear hy hn
         go_wp2_with (refine wpl_cellC rfl 4 (.tmp 106) (.tmp 105) rfl b3 62 rfl (v := .bool true) rfl Tryd.sizeOf4 rfl rfl HK3.out (new := (cellsI (⟨9, (at_ : Int), [], [], zRL, zRL, false, c1, zEL, false, zSL, none, 0, 0, none, 0, 0, none, 0, 0, lab, AI, ni, ci, true, [], none, 0, 0⟩ : ItV))) (cI_he (⟨9, (at_ : Int), [], [], zRL, zRL, false, c1, zEL, false, zSL, none, 0, 0, none, 0, 0, none, 0, 0, lab, AI, ni, ci, false, [], none, 0, 0⟩ : ItV) ⟨rfl, rfl, HTc1.out.len, rfl, rfl⟩ true) ?_)
         clear HK3
         refine ⟨fun w18 HK3 ho18 => ?_⟩
         have hs18 := ho18.out.size
         replace HW : Hid (OnlyB b w w18) := Lib.hid (HW.out.then_ ho18.out (fun i hi (h : i = b3) => by omega))
         replace HR := Lib.hid (HR.out.only ho18.out (by omega))
         replace HTc1 := Lib.hid (HTc1.out.only ho18.out (fun i (h : i = b3) => by omega))
         replace HLI := Lib.hid (HLI.out.only ho18.out (fun i (h : i = b3) => by omega))
         clear ho18
         obtain ⟨y6, z6⟩ : w18.cell? ⟨b3, 62, none⟩ = some (.bool true) ∧ w18.frozen? ⟨b3, 62, none⟩ = false := ⟨(cell_of_row _ _ _ _ _ _ HK3.out).trans (by rw [List.getElem?_toArray]; exact (cI_he (⟨9, (at_ : Int), [], [], zRL, zRL, false, c1, zEL, false, zSL, none, 0, 0, none, 0, 0, none, 0, 0, lab, AI, ni, ci, false, [], none, 0, 0⟩ : ItV) ⟨rfl, rfl, HTc1.out.len, rfl, rfl⟩ true).at_), frozen_of_row _ _ _ _ _ HK3.out⟩
         go_wp2_with fail
         clear y6 z6
         go_wp2_with fail
         have hpm19 : m17 < m := by omega
         refine (part_step (Lib.hid (fun h hr => HI.out (Nat.lt_of_le_of_lt h hpm19) hr)) HR).mono ?_
         rintro e w19 ⟨elb, AL, nl, cl, TL, m19, rfl, helb, hr, ho, ht, hpn19, hm⟩
         have hle19 : m19 ≤ m17 := by omega
         have HM19 := Lib.hid hm
         have HLL := Lib.hid ht
         clear hm ht
         replace HR := Lib.hid hr
         have HOx := Lib.hid ho
         have hs19 := HOx.out.size
         clear hr ho
         replace HW : Hid (OnlyB b w w19) := Lib.hid (HW.out.then_ HOx.out (fun _ _ h => h))
         replace HK3 := Lib.hid (HOx.out.heap HK3.out (by omega))
         replace HTc1 := Lib.hid (HTc1.out.only HOx.out (fun i (h : i = b) => by omega))
         replace HLI := Lib.hid (HLI.out.only HOx.out (fun i (h : i = b) => by omega))
         clear HOx
         go_wp2_with (refine wpl_cellC rfl 9 (.tmp 114) (.tmp 112) rfl b3 63 rfl (v := .string (bstr elb)) rfl Tryd.sizeOf9 rfl rfl HK3.out (new := (cellsI (⟨9, (at_ : Int), [], [], zRL, zRL, false, c1, zEL, false, zSL, none, 0, 0, none, 0, 0, none, 0, 0, lab, AI, ni, ci, true, elb, none, 0, 0⟩ : ItV))) (cI_elab_ (⟨9, (at_ : Int), [], [], zRL, zRL, false, c1, zEL, false, zSL, none, 0, 0, none, 0, 0, none, 0, 0, lab, AI, ni, ci, true, [], none, 0, 0⟩ : ItV) ⟨rfl, rfl, HTc1.out.len, rfl, rfl⟩ elb) ?_)
         clear HK3
         refine ⟨fun w20 HK3 ho20 => ?_⟩
         have hs20 := ho20.out.size
         replace HW : Hid (OnlyB b w w20) := Lib.hid (HW.out.then_ ho20.out (fun i hi (h : i = b3) => by omega))
         replace HR := Lib.hid (HR.out.only ho20.out (by omega))
         replace HTc1 := Lib.hid (HTc1.out.only ho20.out (fun i (h : i = b3) => by omega))
         replace HLI := Lib.hid (HLI.out.only ho20.out (fun i (h : i = b3) => by omega))
         replace HLL := Lib.hid (HLL.out.only ho20.out (fun i (h : i = b3) => by omega))
         clear ho20
         go_wp2_with (refine wpl_cellC rfl 38 (.tmp 115) (.tmp 113) rfl b3 64 rfl (v := .slice AL nl cl) rfl Tryd.sizeOf38 rfl rfl HK3.out (new := (cellsI (⟨9, (at_ : Int), [], [], zRL, zRL, false, c1, zEL, false, zSL, none, 0, 0, none, 0, 0, none, 0, 0, lab, AI, ni, ci, true, elb, AL, nl, cl⟩ : ItV))) (cI_L (⟨9, (at_ : Int), [], [], zRL, zRL, false, c1, zEL, false, zSL, none, 0, 0, none, 0, 0, none, 0, 0, lab, AI, ni, ci, true, elb, none, 0, 0⟩ : ItV) ⟨rfl, rfl, HTc1.out.len, rfl, rfl⟩ AL nl cl) ?_)
         clear HK3
         refine ⟨fun w21 HK3 ho21 => ?_⟩
         have hs21 := ho21.out.size
         replace HW : Hid (OnlyB b w w21) := Lib.hid (HW.out.then_ ho21.out (fun i hi (h : i = b3) => by omega))
         replace HR := Lib.hid (HR.out.only ho21.out (by omega))
         replace HTc1 := Lib.hid (HTc1.out.only ho21.out (fun i (h : i = b3) => by omega))
         replace HLI := Lib.hid (HLI.out.only ho21.out (fun i (h : i = b3) => by omega))
         replace HLL := Lib.hid (HLL.out.only ho21.out (fun i (h : i = b3) => by omega))
         clear ho21
         have HTI : Hid (Tr FI w.heap.size w21.heap.size w21 (cellsI (⟨9, (at_ : Int), [], [], zRL, zRL, false, c1, zEL, false, zSL, none, 0, 0, none, 0, 0, none, 0, 0, lab, AI, ni, ci, true, elb, AL, nl, cl⟩ : ItV)) ([105, 102, 32, 40] ++ t1 ++ [41, 32] ++ beginL lab (catL TI ni) ++ [101, 110, 100] ++ ([32, 101, 108, 115, 101, 32] ++ beginL elb (catL TL nl) ++ [101, 110, 100]) ++ [10])) := Lib.hid (tri_mk (x := (⟨9, (at_ : Int), [], [], zRL, zRL, false, c1, zEL, false, zSL, none, 0, 0, none, 0, 0, none, 0, 0, lab, AI, ni, ci, true, elb, AL, nl, cl⟩ : ItV)) (r := (false, [123, 125], [123, 125])) (wd := (false, [123, 125], [123, 125])) (tV := (t1, kd11)) (tG := ([123, 125], 0)) (tB := []) ⟨(show (1 : Int) ≤ 9 ∧ (9 : Int) ≤ 9 by omega), (by simp), (by simp), (show lab.length ≤ 100000 by omega), (show elb.length ≤ 100000 by omega), (fun h => by cases h), (fun h => by have h9 : (9 : Int) = 8 := h; omega), okB_zero⟩ trr_zero trr_zero (HTc1.out.wide (by omega) (by omega)) tre_zero (fun h => by have h9 : (9 : Int) = 6 := h; omega) (LfP.nil (T := (fun _ => (([], false, []) : BiT)))) (LfP.nil (T := (fun _ => (([], false, []) : BiT)))) (LfP.nil (T := (fun _ => ([], 0)))) (HLI.out.wide (by omega) (by omega)) (HLL.out.wide (by omega) (by omega)) (show 0 ≤ 3000000 ∧ 0 ≤ 3000000 ∧ 0 ≤ 3000000 ∧ ni ≤ 3000000 ∧ nl ≤ 3000000 by omega))
         obtain ⟨tx, htx⟩ : ∃ t : LB, t = ([105, 102, 32, 40] ++ t1 ++ [41, 32] ++ beginL lab (catL TI ni) ++ [101, 110, 100] ++ ([32, 101, 108, 115, 101, 32] ++ beginL elb (catL TL nl) ++ [101, 110, 100]) ++ [10]) := ⟨_, rfl⟩
         rw [← htx] at HTI
         have HTL : Hid (tx.length = (([105, 102, 32, 40] ++ t1 ++ [41, 32] ++ beginL lab (catL TI ni) ++ [101, 110, 100] ++ ([32, 101, 108, 115, 101, 32] ++ beginL elb (catL TL nl) ++ [101, 110, 100]) ++ [10])).length) := Lib.hid (by rw [htx])
         clear htx
         obtain ⟨cI, hcI⟩ : ∃ c, c = (cellsI (⟨9, (at_ : Int), [], [], zRL, zRL, false, c1, zEL, false, zSL, none, 0, 0, none, 0, 0, none, 0, 0, lab, AI, ni, ci, true, elb, AL, nl, cl⟩ : ItV)) := ⟨_, rfl⟩
         rw [← hcI] at HTI HK3
         clear hcI
         go_wp2_with (first | (refine wpl_load rfl 75 (.tmp 3) rfl b3 rfl HK3.out stI (by simp [(lenI HTI.out).1]) ?_) | (refine wpl_slice rfl 38 75 1 _ rfl (some 117) rfl Tryd.underlying38 cI.toArray (built65 (lenI HTI.out).1) ?_))
         refine ⟨fun w22 b117 HK117 ho22 ha117 hb117 => ?_⟩
         have hs22 := ho22.out.size
         replace HW : Hid (OnlyB b w w22) := Lib.hid (HW.out.then_ ho22.out (fun _ _ h => h.elim))
         replace HR := Lib.hid (HR.out.only ho22.out (fun h => h))
         replace HK3 := Lib.hid (ho22.out.heap HK3.out (fun h => h))
         replace HTc1 := Lib.hid (HTc1.out.only ho22.out (fun _ h => h.elim))
         replace HLI := Lib.hid (HLI.out.only ho22.out (fun _ h => h.elim))
         replace HLL := Lib.hid (HLL.out.only ho22.out (fun _ h => h.elim))
         replace HTI := Lib.hid (HTI.out.only ho22.out (fun _ h => h.elim))
         clear ho22
         go_wp2_with fail
         go_ret
         exact ⟨some ⟨b117, 0, none⟩, 1, 1, fun _ => tx, m19, rfl, HR.out, HW.out, lfI1 HK117.out ⟨by omega, by omega⟩ (HTI.out.wide (by omega) (by omega)), by omega, by have h7 := HTL.out; have := HM10.out; have := HM11.out; have := HM13.out; have := HM14.out; have h5 := beginL_len lab (catL TI ni); have := HM19.out; have h4 := beginL_len elb (catL TL nl); simp only [catL, KK, List.nil_append, List.length_append, List.length_cons, List.length_nil] at *; omega⟩
        | false =>
         obtain rfl : m17 = m14 := hn rfl
         clear hy hn
         go_wp2_with (refine wpl_cellC rfl 4 (.tmp 106) (.tmp 105) rfl b3 62 rfl (v := .bool false) rfl Tryd.sizeOf4 rfl rfl HK3.out (new := (cellsI (⟨9, (at_ : Int), [], [], zRL, zRL, false, c1, zEL, false, zSL, none, 0, 0, none, 0, 0, none, 0, 0, lab, AI, ni, ci, false, [], none, 0, 0⟩ : ItV))) (cI_he (⟨9, (at_ : Int), [], [], zRL, zRL, false, c1, zEL, false, zSL, none, 0, 0, none, 0, 0, none, 0, 0, lab, AI, ni, ci, false, [], none, 0, 0⟩ : ItV) ⟨rfl, rfl, HTc1.out.len, rfl, rfl⟩ false) ?_)
         clear HK3
         refine ⟨fun w18 HK3 ho18 => ?_⟩
         have hs18 := ho18.out.size
         replace HW : Hid (OnlyB b w w18) := Lib.hid (HW.out.then_ ho18.out (fun i hi (h : i = b3) => by omega))
         replace HR := Lib.hid (HR.out.only ho18.out (by omega))
         replace HTc1 := Lib.hid (HTc1.out.only ho18.out (fun i (h : i = b3) => by omega))
         replace HLI := Lib.hid (HLI.out.only ho18.out (fun i (h : i = b3) => by omega))
         clear ho18
         obtain ⟨y6, z6⟩ : w18.cell? ⟨b3, 62, none⟩ = some (.bool false) ∧ w18.frozen? ⟨b3, 62, none⟩ = false := ⟨(cell_of_row _ _ _ _ _ _ HK3.out).trans (by rw [List.getElem?_toArray]; exact (cI_he (⟨9, (at_ : Int), [], [], zRL, zRL, false, c1, zEL, false, zSL, none, 0, 0, none, 0, 0, none, 0, 0, lab, AI, ni, ci, false, [], none, 0, 0⟩ : ItV) ⟨rfl, rfl, HTc1.out.len, rfl, rfl⟩ false).at_), frozen_of_row _ _ _ _ _ HK3.out⟩
         have HTI : Hid (Tr FI w.heap.size w18.heap.size w18 (cellsI (⟨9, (at_ : Int), [], [], zRL, zRL, false, c1, zEL, false, zSL, none, 0, 0, none, 0, 0, none, 0, 0, lab, AI, ni, ci, false, [], none, 0, 0⟩ : ItV)) ([105, 102, 32, 40] ++ t1 ++ [41, 32] ++ beginL lab (catL TI ni) ++ [101, 110, 100] ++ [] ++ [10])) := Lib.hid (tri_mk (x := (⟨9, (at_ : Int), [], [], zRL, zRL, false, c1, zEL, false, zSL, none, 0, 0, none, 0, 0, none, 0, 0, lab, AI, ni, ci, false, [], none, 0, 0⟩ : ItV)) (r := (false, [123, 125], [123, 125])) (wd := (false, [123, 125], [123, 125])) (tV := (t1, kd11)) (tG := ([123, 125], 0)) (tB := []) ⟨(show (1 : Int) ≤ 9 ∧ (9 : Int) ≤ 9 by omega), (by simp), (by simp), (show lab.length ≤ 100000 by omega), (by simp), (fun h => by cases h), (fun h => by have h9 : (9 : Int) = 8 := h; omega), okB_zero⟩ trr_zero trr_zero (HTc1.out.wide (by omega) (by omega)) tre_zero (fun h => by have h9 : (9 : Int) = 6 := h; omega) (LfP.nil (T := (fun _ => (([], false, []) : BiT)))) (LfP.nil (T := (fun _ => (([], false, []) : BiT)))) (LfP.nil (T := (fun _ => ([], 0)))) (HLI.out.wide (by omega) (by omega)) (LfP.nil (T := fun _ => ([] : LB))) (show 0 ≤ 3000000 ∧ 0 ≤ 3000000 ∧ 0 ≤ 3000000 ∧ ni ≤ 3000000 ∧ 0 ≤ 3000000 by omega))
         obtain ⟨tx, htx⟩ : ∃ t : LB, t = ([105, 102, 32, 40] ++ t1 ++ [41, 32] ++ beginL lab (catL TI ni) ++ [101, 110, 100] ++ [] ++ [10]) := ⟨_, rfl⟩
         rw [← htx] at HTI
         have HTL : Hid (tx.length = (([105, 102, 32, 40] ++ t1 ++ [41, 32] ++ beginL lab (catL TI ni) ++ [101, 110, 100] ++ [] ++ [10])).length) := Lib.hid (by rw [htx])
         clear htx
         obtain ⟨cI, hcI⟩ : ∃ c, c = (cellsI (⟨9, (at_ : Int), [], [], zRL, zRL, false, c1, zEL, false, zSL, none, 0, 0, none, 0, 0, none, 0, 0, lab, AI, ni, ci, false, [], none, 0, 0⟩ : ItV)) := ⟨_, rfl⟩
         rw [← hcI] at HTI HK3
         clear hcI
         go_wp2_with (first | (refine wpl_load rfl 75 (.tmp 3) rfl b3 rfl HK3.out stI (by simp [(lenI HTI.out).1]) ?_) | (refine wpl_slice rfl 38 75 1 _ rfl (some 117) rfl Tryd.underlying38 cI.toArray (built65 (lenI HTI.out).1) ?_))
         refine ⟨fun w19 b117 HK117 ho19 ha117 hb117 => ?_⟩
         have hs19 := ho19.out.size
         replace HW : Hid (OnlyB b w w19) := Lib.hid (HW.out.then_ ho19.out (fun _ _ h => h.elim))
         replace HR := Lib.hid (HR.out.only ho19.out (fun h => h))
         replace HK3 := Lib.hid (ho19.out.heap HK3.out (fun h => h))
         replace HTc1 := Lib.hid (HTc1.out.only ho19.out (fun _ h => h.elim))
         replace HLI := Lib.hid (HLI.out.only ho19.out (fun _ h => h.elim))
         replace HTI := Lib.hid (HTI.out.only ho19.out (fun _ h => h.elim))
         clear ho19
         go_wp2_with fail
         go_ret
         exact ⟨some ⟨b117, 0, none⟩, 1, 1, fun _ => tx, m17, rfl, HR.out, HW.out, lfI1 HK117.out ⟨by omega, by omega⟩ (HTI.out.wide (by omega) (by omega)), by omega, by have h7 := HTL.out; have := HM10.out; have := HM11.out; have := HM13.out; have := HM14.out; have h5 := beginL_len lab (catL TI ni); simp only [catL, KK, List.nil_append, List.length_append, List.length_cons, List.length_nil] at *; omega⟩
       | false =>
        obtain rfl : m = m8 := (hn rfl).symm
        clear hy hn
        go_wp2_with fail
        refine (use_any HR).mono ?_
        rintro e w9 ⟨cI, tx, m9, rfl, hr, ho, ht, hm⟩
        have hle9 : m9 ≤ m := by omega
        have HM9 := Lib.hid hm
        have HTI := Lib.hid ht
        clear hm ht
        replace HR := Lib.hid hr
        have HOx := Lib.hid ho
        have hs9 := HOx.out.size
        clear hr ho
        replace HW : Hid (OnlyB b w w9) := Lib.hid (HW.out.then_ HOx.out (fun _ _ h => h))
        replace HK3 := Lib.hid (HOx.out.heap HK3.out (by omega))
        clear HOx
        go_wp2_with (refine wpl_store rfl 75 (.tmp 3) (.tmp 11) rfl b3 rfl (cells := cI.toArray) rfl HK3.out stI (sizeI HTI.out) (by simpa using cellsI_len (x := (⟨0, (at_ : Int), [], [], zRL, zRL, false, zEL, zEL, false, zSL, none, 0, 0, none, 0, 0, none, 0, 0, [], none, 0, 0, false, [], none, 0, 0⟩ : ItV)) ⟨rfl, rfl, rfl, rfl, rfl⟩) (onesI HTI.out) ?_)
        clear HK3
        refine ⟨fun w10 HK3 ho10 => ?_⟩
        have hs10 := ho10.out.size
        replace HW : Hid (OnlyB b w w10) := Lib.hid (HW.out.then_ ho10.out (fun i hi (h : i = b3) => by omega))
        replace HR := Lib.hid (HR.out.only ho10.out (by omega))
        replace HTI := Lib.hid (HTI.out.only ho10.out (fun i (h : i = b3) => by omega))
        clear ho10
        go_wp2_with (first | (refine wpl_load rfl 75 (.tmp 3) rfl b3 rfl HK3.out stI (by simp [(lenI HTI.out).1]) ?_) | (refine wpl_slice rfl 38 75 1 _ rfl (some 117) rfl Tryd.underlying38 cI.toArray (built65 (lenI HTI.out).1) ?_))
        refine ⟨fun w11 b117 HK117 ho11 ha117 hb117 => ?_⟩
        have hs11 := ho11.out.size
        replace HW : Hid (OnlyB b w w11) := Lib.hid (HW.out.then_ ho11.out (fun _ _ h => h.elim))
        replace HR := Lib.hid (HR.out.only ho11.out (fun h => h))
        replace HK3 := Lib.hid (ho11.out.heap HK3.out (fun h => h))
        replace HTI := Lib.hid (HTI.out.only ho11.out (fun _ h => h.elim))
        clear ho11
        go_wp2_with fail
        go_ret
        exact ⟨some ⟨b117, 0, none⟩, 1, 1, fun _ => tx, m9, rfl, HR.out, HW.out, lfI1 HK117.out ⟨by omega, by omega⟩ (HTI.out.wide (by omega) (by omega)), by omega, useB HM9.out⟩
theorem item_any {s : ByteArray} {b m : Nat} {w : World} (hr : RdS s b w m) : Calls Tryd.prog 38 #[.pointer (some ⟨b, 0, none⟩)] w (LiOut s b m w) := by
 induction m using Nat.strongRecOn generalizing w with
 | _ m ih => exact item_step (Lib.hid fun h hr => ih _ h hr) (Lib.hid hr)
theorem items_any {s : ByteArray} {b m : Nat} {w : World} (t : ByteArray) (hr : RdS s b w m) : Calls Tryd.prog 21 #[.pointer (some ⟨b, 0, none⟩), .string t] w (LsOut s b m w) := items_step t (Lib.hid fun _ hr => item_any hr) (Lib.hid hr)
end Go.Proofs.YtbdcpealkllfnaaDoor
