/- The reference's Reader: nets, walked. Condition: the text has at most 60000 bytes. -/
import Derived.Test.YtbdcpealkllfnaaDoorNtS
namespace Go.Proofs.YtbdcpealkllfnaaDoor
open Go.RowKit Go.Deep

set_option maxRecDepth 100000 in
set_option maxHeartbeats 8000000 in
theorem nets_true {s : ByteArray} {b m : Nat} {w : World} (HR : Hid (RdS s b w m)) : Calls Tryd.prog 56 #[.pointer (some ⟨b, 0, none⟩), .bool true] w (LiOut s b m w) := by
 have HR0 := HR
 have hlt := HR.out.lt
 have HW : Hid (OnlyB b w w) := Lib.hid (Only.refl _ w)
 go_enter Tryd.func56, Tryd.ntmps56
 go_wp2_with fail
 refine (span_any HR.out).mono ?_
 rintro e w1 ⟨cR, r, m1, rfl, hr, ho, ht, hm⟩
 have hle1 : m1 ≤ m := by omega
 have HM1 := Lib.hid hm
 have HTcR := Lib.hid ht
 clear hm ht
 replace HR := Lib.hid hr
 have HOx := Lib.hid ho
 have hs1 := HOx.out.size
 clear hr ho
 replace HW : Hid (OnlyB b w w1) := Lib.hid (HW.out.then_ HOx.out (fun _ _ h => h))
 clear HOx
 go_wp2_with (refine wpl_box rfl rfl 61 rfl 5 rfl (.tmp 13) rfl rfl Tryd.zeroValue61 (cells := cR.toArray) (fun _ => rfl) (fun _ => rfl) stR (by simp [lenR HTcR.out]) rfl (by simpa using oneR HTcR.out) ?_)
 refine ⟨fun w2 b5 HK5 ho2 ha5 hb5 => ?_⟩
 have hs2 := ho2.out.size
 replace HW : Hid (OnlyB b w w2) := Lib.hid (HW.out.then_ ho2.out (fun _ _ h => h.elim))
 replace HR := Lib.hid (HR.out.only ho2.out (fun h => h))
 replace HTcR := Lib.hid (HTcR.out.only ho2.out (fun _ h => h.elim))
 clear ho2
 go_wp2_with fail
 have H0 : Hid (NtI s b m w w.heap.size w1.heap.size w2.heap.size b5 cR r m1 w2 none 0 0 (fun _ => ([] : LB))) := Lib.hid ⟨HR.out, HW.out, HK5.out, HTcR.out, Ls.nil, (fun k hk => by obtain ⟨_, h, _⟩ := hk; cases h), by omega, by have := HM1.out; simp only [catL, List.length_nil, KK]; omega, by omega⟩
 have HSP : Hid ((spanT r).length ≤ 60 * m ∨ m1 = 0) := Lib.hid (by have := HM1.out; omega)
 clear HR HW HK5 HTcR
 go_loopg [6] m1 (fun g v6 wr => ∃ A n c T, v6 = .slice A n c ∧ g ≤ m1 ∧ Hid (NtI s b m w w.heap.size w1.heap.size w2.heap.size b5 cR r g wr A n c T))
 case atStart => exact ⟨_, _, _, _, rfl, Nat.le_refl _, H0⟩
 case round =>
  clear H0
  obtain ⟨A, n, c, T, rfl, hgm, HB⟩ := hrel
  obtain ⟨wo, hwo⟩ : ∃ x, x = wr := ⟨_, rfl⟩
  subst hwo
  obtain ⟨go, hgo⟩ : ∃ x, x = gk := ⟨_, rfl⟩
  subst hgo
  have HR := Lib.hid HB.out.rd
  have HW := Lib.hid HB.out.ol
  have HK5 := Lib.hid HB.out.k5
  have HTcR := Lib.hid HB.out.tr
  have HL0 := Lib.hid HB.out.ls
  have HAL := Lib.hid HB.out.al
  have hnn := HB.out.nn
  have HTX := Lib.hid HB.out.tx
  have hsr := HB.out.sz
  clear HB
  have hmm := HR0.out.le
  have HQ : Hid (OnlyB b wo wo) := Lib.hid (Only.refl _ _)
  obtain ⟨kdx, at_x, wdx, Tx, numx, qx, codex, fatx, hrf⟩ := HR.out
  have HFx := Lib.hid hrf
  clear hrf
  have HF := HFx
  clear HFx
  obtain ⟨y7, z7⟩ := HF.out.c7
  by_cases hc : codex = 0
  ·
   subst hc
   have hg0 : 0 < go := by rw [HF.out.hm]; exact rdM_pos
   have HSP2 : Hid ((spanT r).length ≤ 60 * m) := Lib.hid (by have := HSP.out; omega)
   obtain ⟨y2, z2⟩ := HF.out.c2
   go_wp2_with fail
   clear y7 z7 HF
   have hbn := built_net (lenR HTcR.out) (at_x : Int)
   have hln := cellsI_len (x := (⟨1, (at_x : Int), [], [], cR, zRL, false, zEL, zEL, false, zSL, none, 0, 0, none, 0, 0, none, 0, 0, [], none, 0, 0, false, [], none, 0, 0⟩ : ItV)) ⟨(lenR HTcR.out), rfl, rfl, rfl, rfl⟩
   have hon := (lenI (p := fun _ => True) (w := wo) (tri_mk (x := (⟨1, (at_x : Int), [], [], cR, zRL, false, zEL, zEL, false, zSL, none, 0, 0, none, 0, 0, none, 0, 0, [], none, 0, 0, false, [], none, 0, 0⟩ : ItV)) (r := r) (wd := (false, [123, 125], [123, 125])) (tV := ([123, 125], 0)) (tG := ([123, 125], 0)) (tB := []) ⟨(show (1 : Int) ≤ 1 ∧ (1 : Int) ≤ 9 by omega), (by simp), (by simp), (by simp), (by simp), (fun h => by cases h), (fun h => by have h9 : (1 : Int) = 8 := h; omega), okB_zero⟩ (HTcR.out.imp (fun _ _ _ => trivial)) trr_zero tre_zero tre_zero (fun h => by have h9 : (1 : Int) = 6 := h; omega) (LfP.nil (T := (fun _ => (([], false, []) : BiT)))) (LfP.nil (T := (fun _ => (([], false, []) : BiT)))) (LfP.nil (T := (fun _ => ([], 0)))) (LfP.nil (T := fun _ => ([] : LB))) (LfP.nil (T := fun _ => ([] : LB))) (show 0 ≤ 3000000 ∧ 0 ≤ 3000000 ∧ 0 ≤ 3000000 ∧ 0 ≤ 3000000 ∧ 0 ≤ 3000000 by omega))).2
   obtain ⟨c0, hc0⟩ : ∃ c, c = (cellsI (⟨1, (at_x : Int), [], [], cR, zRL, false, zEL, zEL, false, zSL, none, 0, 0, none, 0, 0, none, 0, 0, [], none, 0, 0, false, [], none, 0, 0⟩ : ItV)) := ⟨_, rfl⟩
   rw [← hc0] at hbn hln hon
   have HBN := Lib.hid hbn
   have HLN := Lib.hid hln
   have HON := Lib.hid hon
   have HC0 := Lib.hid hc0
   clear hbn hln hon hc0
   have HZI := Lib.hid zeroI
   refine wp_region_z (fun w' => w'.cell? ⟨b, 2, none⟩ = some (.int .i64 (at_x : Int)) ∧ w'.heap[b5]? = some (.cells cR.toArray 61)) [0, 1, 2, 3, 4, 5, 6] [8] (by kernel_rfl) (by kernel_rfl) (by kernel_rfl) (by rfl) (fun _ _ _ _ e h => ⟨e.symm.trans h.1, h.2⟩) ⟨y2, HK5.out⟩ ?_
   iterate 5
    refine Heads.step (v := ?_) rfl (by first | (go_simp; done) | rfl) (fun W hW => ?_) ?_
    rotate_left
    ·
     (obtain ⟨t0, t1⟩ := hW; go_simp; try with_reducible rfl)
   simp only [List.getElem_toArray, List.getElem_cons_zero, List.getElem_cons_succ, Act.put, List.setIfInBounds_toArray, List.set_cons_succ, List.set_cons_zero]
   refine ⟨_, _, rfl, yields_row rfl 61 (.tmp 5) rfl b5 rfl (fun W hW => hW.2) stR (by simp [lenR HTcR.out]), ?_⟩
   simp only [List.getElem_toArray, List.getElem_cons_zero, List.getElem_cons_succ, Act.put, List.setIfInBounds_toArray, List.set_cons_succ, List.set_cons_zero]
   refine ⟨_, _, rfl, yields_build rfl 75 [(0, .const (.int .i64 1)), (1, .tmp 24), (4, .tmp 25)] rfl c0.toArray HBN.out, ?_⟩
   simp only [List.getElem_toArray, List.getElem_cons_zero, List.getElem_cons_succ, Act.put, List.setIfInBounds_toArray, List.set_cons_succ, List.set_cons_zero]
   refine AnyZ.one (i := 7) (by kernel_rfl) rfl (fun K hK => ?_)
   rw [if_pos (by rfl)]
   refine wpz_alloc 75 rfl zeroI (fun w7 b7 HK7 ho7 ha7 hb7 => ?_)
   refine hK _ _ (fun _ => ⟨ho7.out.cell y2 (fun h => h), ho7.out.heap HK5.out (fun h => h)⟩) ?_
   clear hK
   simp only [List.getElem_toArray, List.getElem_cons_zero, List.getElem_cons_succ, Act.put, List.setIfInBounds_toArray, List.set_cons_succ, List.set_cons_zero]
   refine AnyZ.one (i := 8) (by kernel_rfl) rfl (fun K hK => ?_)
   rw [if_pos (by rfl)]
   refine wpz_store 75 (.tmp 7) (.tmp 26) rfl b7 rfl (cells := c0.toArray) rfl HK7.out stI (by simpa using HLN.out) (by simpa using cellsI_len (x := zI) ⟨rfl, rfl, rfl, rfl, rfl⟩) (by simpa using HON.out) (fun w8 HK7b ho8 => ?_)
   refine hK _ _ (fun h => by cases h) ?_
   clear hK HK7
   refine AnyZ.done (by kernel_rfl) ?_
   have HK7 := HK7b
   clear HK7b
   rw [HC0.out] at HK7
   clear HBN HLN HON
   clear y2 z2
   obtain ⟨w3, hww⟩ : ∃ x, x = w8 := ⟨_, rfl⟩
   subst hww
   have HO : Hid (Only (fun _ => False) wo w3) := Lib.hid ((((Only.refl _ wo).drew).then_ ho7.out (fun _ _ h => h.elim)).then_ ho8.out (fun i hi (h : i = b7) => by have : wo.drew.heap.size = wo.heap.size := rfl; omega))
   replace ha7 : wo.heap.size ≤ b7 := ha7
   have hs8 : b7 < w3.heap.size := Nat.lt_of_lt_of_le hb7 ho8.out.size
   clear hb7 ho7 ho8
   have hs3 := HO.out.size
   replace HW : Hid (OnlyB b w w3) := Lib.hid (HW.out.then_ HO.out (fun _ _ h => h.elim))
   replace HQ : Hid (OnlyB b wo w3) := Lib.hid (HQ.out.then_ HO.out (fun _ _ h => h.elim))
   replace HR := Lib.hid (HR.out.only HO.out (fun h => h))
   replace HK5 := Lib.hid (HO.out.heap HK5.out (fun h => h))
   replace HTcR := Lib.hid (HTcR.out.only HO.out (fun _ h => h.elim))
   clear HO
   go_wp2_with (refine wpl_cellC rfl 3 (.tmp 28) (.const (.int .i64 2)) rfl b7 0 rfl (v := .int .i64 2) rfl Tryd.sizeOf3 rfl rfl HK7.out (new := (cellsI (⟨2, (at_x : Int), [], [], cR, zRL, false, zEL, zEL, false, zSL, none, 0, 0, none, 0, 0, none, 0, 0, [], none, 0, 0, false, [], none, 0, 0⟩ : ItV))) (cI_kd (⟨1, (at_x : Int), [], [], cR, zRL, false, zEL, zEL, false, zSL, none, 0, 0, none, 0, 0, none, 0, 0, [], none, 0, 0, false, [], none, 0, 0⟩ : ItV) ⟨(lenR HTcR.out), rfl, rfl, rfl, rfl⟩ 2) ?_)
   clear HK7
   refine ⟨fun w4 HK7 ho4 => ?_⟩
   have hs4 := ho4.out.size
   replace HW : Hid (OnlyB b w w4) := Lib.hid (HW.out.then_ ho4.out (fun i hi (h : i = b7) => by omega))
   replace HQ : Hid (OnlyB b wo w4) := Lib.hid (HQ.out.then_ ho4.out (fun i hi (h : i = b7) => by omega))
   replace HR := Lib.hid (HR.out.only ho4.out (by omega))
   replace HK5 := Lib.hid (ho4.out.heap HK5.out (by omega))
   replace HTcR := Lib.hid (HTcR.out.only ho4.out (fun i (h : i = b7) => by omega))
   clear ho4
   go_wp2_with fail
   refine (name_any HR.out).mono ?_
   rintro e w5 ⟨nm, m5, rfl, hnm, hr, ho, hm⟩
   have hle5 : m5 ≤ go := by omega
   have HM5 := Lib.hid hm
   clear hm
   replace HR := Lib.hid hr
   have HOx := Lib.hid ho
   have hs5 := HOx.out.size
   clear hr ho
   replace HW : Hid (OnlyB b w w5) := Lib.hid (HW.out.then_ HOx.out (fun _ _ h => h))
   replace HQ : Hid (OnlyB b wo w5) := Lib.hid (HQ.out.then_ HOx.out (fun _ _ h => h))
   replace HK5 := Lib.hid (HOx.out.heap HK5.out (by omega))
   replace HTcR := Lib.hid (HTcR.out.only HOx.out (fun i (h : i = b) => by omega))
   replace HK7 := Lib.hid (HOx.out.heap HK7.out (by omega))
   clear HOx
   go_wp2_with (refine wpl_cellC rfl 9 (.tmp 31) (.tmp 30) rfl b7 2 rfl (v := .string (bstr nm)) rfl Tryd.sizeOf9 rfl rfl HK7.out (new := (cellsI (⟨2, (at_x : Int), nm, [], cR, zRL, false, zEL, zEL, false, zSL, none, 0, 0, none, 0, 0, none, 0, 0, [], none, 0, 0, false, [], none, 0, 0⟩ : ItV))) (cI_nm (⟨2, (at_x : Int), [], [], cR, zRL, false, zEL, zEL, false, zSL, none, 0, 0, none, 0, 0, none, 0, 0, [], none, 0, 0, false, [], none, 0, 0⟩ : ItV) ⟨(lenR HTcR.out), rfl, rfl, rfl, rfl⟩ nm) ?_)
   clear HK7
   refine ⟨fun w6 HK7 ho6 => ?_⟩
   have hs6 := ho6.out.size
   replace HW : Hid (OnlyB b w w6) := Lib.hid (HW.out.then_ ho6.out (fun i hi (h : i = b7) => by omega))
   replace HQ : Hid (OnlyB b wo w6) := Lib.hid (HQ.out.then_ ho6.out (fun i hi (h : i = b7) => by omega))
   replace HR := Lib.hid (HR.out.only ho6.out (by omega))
   replace HK5 := Lib.hid (ho6.out.heap HK5.out (by omega))
   replace HTcR := Lib.hid (HTcR.out.only ho6.out (fun i (h : i = b7) => by omega))
   clear ho6
   go_wp2_with fail
   refine (is_any HR.out _).mono ?_
   rintro e w7 ⟨ib, rfl, hwe, hik⟩
   obtain rfl := hwe.symm
   clear hik
   cases ib with
   | true =>
    go_wp2_with (refine wpl_cellC rfl 3 (.tmp 38) (.const (.int .i64 3)) rfl b7 0 rfl (v := .int .i64 3) rfl Tryd.sizeOf3 rfl rfl HK7.out (new := (cellsI (⟨3, (at_x : Int), nm, [], cR, zRL, false, zEL, zEL, false, zSL, none, 0, 0, none, 0, 0, none, 0, 0, [], none, 0, 0, false, [], none, 0, 0⟩ : ItV))) (cI_kd (⟨2, (at_x : Int), nm, [], cR, zRL, false, zEL, zEL, false, zSL, none, 0, 0, none, 0, 0, none, 0, 0, [], none, 0, 0, false, [], none, 0, 0⟩ : ItV) ⟨(lenR HTcR.out), rfl, rfl, rfl, rfl⟩ 3) ?_)
    clear HK7
    refine ⟨fun w8 HK7 ho8 => ?_⟩
    have hs8 := ho8.out.size
    replace HW : Hid (OnlyB b w w8) := Lib.hid (HW.out.then_ ho8.out (fun i hi (h : i = b7) => by omega))
    replace HQ : Hid (OnlyB b wo w8) := Lib.hid (HQ.out.then_ ho8.out (fun i hi (h : i = b7) => by omega))
    replace HR := Lib.hid (HR.out.only ho8.out (by omega))
    replace HK5 := Lib.hid (ho8.out.heap HK5.out (by omega))
    replace HTcR := Lib.hid (HTcR.out.only ho8.out (fun i (h : i = b7) => by omega))
    clear ho8
    go_wp2_with fail
    refine (span_any HR.out).mono ?_
    rintro e w9 ⟨cW, rw, m9, rfl, hr, ho, ht, hm⟩
    have hle9 : m9 ≤ m5 := by omega
    have HM9 := Lib.hid hm
    have HTcW := Lib.hid ht
    clear hm ht
    replace HR := Lib.hid hr
    have HOx := Lib.hid ho
    have hs9 := HOx.out.size
    clear hr ho
    replace HW : Hid (OnlyB b w w9) := Lib.hid (HW.out.then_ HOx.out (fun _ _ h => h))
    replace HQ : Hid (OnlyB b wo w9) := Lib.hid (HQ.out.then_ HOx.out (fun _ _ h => h))
    replace HK5 := Lib.hid (HOx.out.heap HK5.out (by omega))
    replace HTcR := Lib.hid (HTcR.out.only HOx.out (fun i (h : i = b) => by omega))
    replace HK7 := Lib.hid (HOx.out.heap HK7.out (by omega))
    clear HOx
    go_wp2_with (refine wpl_segC rfl 61 (.tmp 41) (.tmp 40) rfl b7 19 rfl (c := cW) rfl HK7.out stR (lenR HTcW.out) (oneR HTcW.out) (new := (cellsI (⟨3, (at_x : Int), nm, [], cR, cW, false, zEL, zEL, false, zSL, none, 0, 0, none, 0, 0, none, 0, 0, [], none, 0, 0, false, [], none, 0, 0⟩ : ItV))) (cI_W (⟨3, (at_x : Int), nm, [], cR, zRL, false, zEL, zEL, false, zSL, none, 0, 0, none, 0, 0, none, 0, 0, [], none, 0, 0, false, [], none, 0, 0⟩ : ItV) ⟨(lenR HTcR.out), rfl, rfl, rfl, rfl⟩ cW) ?_)
    clear HK7
    refine ⟨fun w10 HK7 ho10 => ?_⟩
    have hs10 := ho10.out.size
    replace HW : Hid (OnlyB b w w10) := Lib.hid (HW.out.then_ ho10.out (fun i hi (h : i = b7) => by omega))
    replace HQ : Hid (OnlyB b wo w10) := Lib.hid (HQ.out.then_ ho10.out (fun i hi (h : i = b7) => by omega))
    replace HR := Lib.hid (HR.out.only ho10.out (by omega))
    replace HK5 := Lib.hid (ho10.out.heap HK5.out (by omega))
    replace HTcR := Lib.hid (HTcR.out.only ho10.out (fun i (h : i = b7) => by omega))
    replace HTcW := Lib.hid (HTcW.out.only ho10.out (fun i (h : i = b7) => by omega))
    clear ho10
    go_wp2_with (refine wpl_alloc rfl 56 rfl (some 10) rfl Tryd.zeroValue56 ?_)
    refine ⟨fun w11 b10 HK10 ho11 ha10 hb10 => ?_⟩
    have hs11 := ho11.out.size
    replace HW : Hid (OnlyB b w w11) := Lib.hid (HW.out.then_ ho11.out (fun _ _ h => h.elim))
    replace HQ : Hid (OnlyB b wo w11) := Lib.hid (HQ.out.then_ ho11.out (fun _ _ h => h.elim))
    replace HR := Lib.hid (HR.out.only ho11.out (fun h => h))
    replace HK5 := Lib.hid (ho11.out.heap HK5.out (fun h => h))
    replace HTcR := Lib.hid (HTcR.out.only ho11.out (fun _ h => h.elim))
    replace HK7 := Lib.hid (ho11.out.heap HK7.out (fun h => h))
    replace HTcW := Lib.hid (HTcW.out.only ho11.out (fun _ h => h.elim))
    clear ho11
    obtain ⟨zq, hzq⟩ : ∃ x, x = w11.heap.size := ⟨_, rfl⟩
    have hzq2 : zq ≤ w11.heap.size := by omega
    have hzq3 : w11.heap.size ≤ zq := by omega
    clear hzq
    have HTI : Hid (TrP FI (fun x => (w.heap.size ≤ x ∧ x < w1.heap.size) ∨ (wo.heap.size ≤ x ∧ x < zq)) w11 (cellsI (⟨3, (at_x : Int), nm, [], cR, cW, false, zEL, zEL, false, zSL, none, 0, 0, none, 0, 0, none, 0, 0, [], none, 0, 0, false, [], none, 0, 0⟩ : ItV)) ([114, 101, 103, 32] ++ spanT r ++ nm ++ [32, 91] ++ rw.2.1 ++ [58] ++ rw.2.2 ++ [93, 59, 10])) := Lib.hid (tri_mk (x := (⟨3, (at_x : Int), nm, [], cR, cW, false, zEL, zEL, false, zSL, none, 0, 0, none, 0, 0, none, 0, 0, [], none, 0, 0, false, [], none, 0, 0⟩ : ItV)) (r := r) (wd := rw) (tV := ([123, 125], 0)) (tG := ([123, 125], 0)) (tB := []) ⟨(show (1 : Int) ≤ 3 ∧ (3 : Int) ≤ 9 by omega), (show nm.length ≤ 100000 by omega), (by simp), (by simp), (by simp), (fun h => by cases h), (fun h => by have h9 : (3 : Int) = 8 := h; omega), okB_zero⟩ (HTcR.out.imp (fun x _ hx => .inl hx)) (HTcW.out.imp (fun x _ hx => .inr ⟨by omega, by omega⟩)) tre_zero tre_zero (fun h => by have h9 : (3 : Int) = 6 := h; omega) (LfP.nil (T := (fun _ => (([], false, []) : BiT)))) (LfP.nil (T := (fun _ => (([], false, []) : BiT)))) (LfP.nil (T := (fun _ => ([], 0)))) (LfP.nil (T := fun _ => ([] : LB))) (LfP.nil (T := fun _ => ([] : LB))) (show 0 ≤ 3000000 ∧ 0 ≤ 3000000 ∧ 0 ≤ 3000000 ∧ 0 ≤ 3000000 ∧ 0 ≤ 3000000 by omega))
    obtain ⟨tx, htx⟩ : ∃ t : LB, t = ([114, 101, 103, 32] ++ spanT r ++ nm ++ [32, 91] ++ rw.2.1 ++ [58] ++ rw.2.2 ++ [93, 59, 10]) := ⟨_, rfl⟩
    rw [← htx] at HTI
    have HTL : Hid (tx.length = (([114, 101, 103, 32] ++ spanT r ++ nm ++ [32, 91] ++ rw.2.1 ++ [58] ++ rw.2.2 ++ [93, 59, 10])).length) := Lib.hid (by rw [htx])
    clear htx
    obtain ⟨cI, hcI⟩ : ∃ c, c = (cellsI (⟨3, (at_x : Int), nm, [], cR, cW, false, zEL, zEL, false, zSL, none, 0, 0, none, 0, 0, none, 0, 0, [], none, 0, 0, false, [], none, 0, 0⟩ : ItV)) := ⟨_, rfl⟩
    rw [← hcI] at HTI HK7
    have HCI := Lib.hid hcI
    clear hcI
    have HALT := Lib.hid HL0.out.lt
    go_wp2_with (first | (refine wpl_load rfl 75 (.tmp 7) rfl b7 rfl HK7.out stI (by simp [(lenI HTI.out).1]) ?_) | (refine wpl_slice rfl 38 75 1 _ rfl (some 56) rfl Tryd.underlying38 cI.toArray (built65 (lenI HTI.out).1) ?_))
    refine ⟨fun w12 b56 HK56 ho12 ha56 hb56 => ?_⟩
    have hs12 := ho12.out.size
    replace HW : Hid (OnlyB b w w12) := Lib.hid (HW.out.then_ ho12.out (fun _ _ h => h.elim))
    replace HQ : Hid (OnlyB b wo w12) := Lib.hid (HQ.out.then_ ho12.out (fun _ _ h => h.elim))
    replace HR := Lib.hid (HR.out.only ho12.out (fun h => h))
    replace HK5 := Lib.hid (ho12.out.heap HK5.out (fun h => h))
    replace HTcR := Lib.hid (HTcR.out.only ho12.out (fun _ h => h.elim))
    replace HK7 := Lib.hid (ho12.out.heap HK7.out (fun h => h))
    replace HTcW := Lib.hid (HTcW.out.only ho12.out (fun _ h => h.elim))
    replace HK10 := Lib.hid (ho12.out.heap HK10.out (fun h => h))
    replace HTI := Lib.hid (HTI.out.only ho12.out (fun _ _ h => h))
    clear ho12
    have HL := Lib.hid (HL0.out.only HQ.out (fun i hi (h : i = b) => by omega))
    clear HQ HL0
    go_wp2_with (refine wpl_pushP rfl (.tmp 54) (.tmp 56) 38 rfl elI rfl HL.out rfl HK56.out (lenI HTI.out).1 (lenI HTI.out).2 HTI.out w2.heap.size HAL.out (by omega) (fun x hx => ⟨by omega, by omega, fun hx2 => by have := HAL.out x hx2; have := HALT.out x hx2; omega⟩) (by omega) (by omega) (by omega) ?_)
    refine ⟨fun A1 c1n w13 HLn ho13 HAn HAb => ?_⟩
    have hs13 := ho13.out.size
    clear HL HTI HK56
    replace HW : Hid (OnlyB b w w13) := Lib.hid (HW.out.then_ ho13.out (fun i hi h => by have := HAL.out _ h; have := HALT.out _ h; omega))
    replace HR := Lib.hid (HR.out.only ho13.out (fun h => by have := HAL.out _ h; have := HALT.out _ h; omega))
    replace HK5 := Lib.hid (ho13.out.heap HK5.out (fun h => by have := HAL.out _ h; have := HALT.out _ h; omega))
    replace HTcR := Lib.hid (HTcR.out.only ho13.out (fun i h => by have := HAL.out _ h; have := HALT.out _ h; omega))
    replace HK7 := Lib.hid (ho13.out.heap HK7.out (fun h => by have := HAL.out _ h; have := HALT.out _ h; omega))
    replace HTcW := Lib.hid (HTcW.out.only ho13.out (fun i h => by have := HAL.out _ h; have := HALT.out _ h; omega))
    replace HK10 := Lib.hid (ho13.out.heap HK10.out (fun h => by have := HAL.out _ h; have := HALT.out _ h; omega))
    clear ho13
    clear HK7
    clear HK10
    have HL := HLn
    have HAL2 := HAn
    clear HLn HAn HAb HALT
    go_wp2_with fail
    go_wp2_with fail
    refine (accept_any HR.out _).mono ?_
    rintro e w14 ⟨om, m14, rfl, hr, ho, hy, hn⟩
    replace HR := Lib.hid hr
    have HOx := Lib.hid ho
    have hs14 := HOx.out.size
    clear hr ho
    replace HW : Hid (OnlyB b w w14) := Lib.hid (HW.out.then_ HOx.out (fun _ _ h => h))
    replace HK5 := Lib.hid (HOx.out.heap HK5.out (by omega))
    replace HTcR := Lib.hid (HTcR.out.only HOx.out (fun i (h : i = b) => by omega))
    replace HTcW := Lib.hid (HTcW.out.only HOx.out (fun i (h : i = b) => by omega))
    replace HL := Lib.hid (HL.out.only HOx.out (fun i hi (h : i = b) => by omega))
    clear HOx
    cases om with
    | false =>
     have HME := Lib.hid (hn rfl)
     clear hy hn
     go_wp2_with fail
     refine (must_any HR.out _).mono ?_
     rintro e w15 ⟨rfl, m15, hr, ho, hm⟩
     have hle15 : m15 ≤ m14 := by omega
     have HM15 := Lib.hid hm
     clear hm
     replace HR := Lib.hid hr
     have HOx := Lib.hid ho
     have hs15 := HOx.out.size
     clear hr ho
     replace HW : Hid (OnlyB b w w15) := Lib.hid (HW.out.then_ HOx.out (fun _ _ h => h))
     replace HK5 := Lib.hid (HOx.out.heap HK5.out (by omega))
     replace HTcR := Lib.hid (HTcR.out.only HOx.out (fun i (h : i = b) => by omega))
     replace HTcW := Lib.hid (HTcW.out.only HOx.out (fun i (h : i = b) => by omega))
     replace HL := Lib.hid (HL.out.only HOx.out (fun i hi (h : i = b) => by omega))
     clear HOx
     go_wp2_with fail
     go_ret
     exact ⟨A1, (n + 1), c1n, _, m15, rfl, HR.out, HW.out, HL.out.done.wide (by omega) (by omega), by have := HM5.out; have := HME.out; omega, by have := HTX.out; have := HSP2.out; have := HM5.out; have := HME.out; have := HM15.out; have := HM9.out; have h9 := @catL_snoc_len T n tx; have h7 := HTL.out; simp only [KK, List.length_append, List.length_cons, List.length_nil] at *; omega⟩
    | true =>
     obtain ⟨hp14, hl14⟩ := hy rfl
     clear hy hn
     go_wp2_with fail
     have hlt9 : m14 < go := by have := HM5.out; omega
     go_roundg m14
     case measure => omega
     case rel => exact ⟨A1, (n + 1), c1n, _, rfl, by omega, Lib.hid ⟨HR.out, HW.out, HK5.out, HTcR.out, HL.out, HAL2.out, by omega, by have := HTX.out; have := HSP2.out; have := HM5.out; have := HM9.out; have h9 := @catL_snoc_len T n tx; have h7 := HTL.out; simp only [KK, List.length_append, List.length_cons, List.length_nil] at *; omega, by omega⟩⟩
   | false =>
    go_wp2_with fail
    refine (accept_any HR.out _).mono ?_
    rintro e w8 ⟨og, m8, rfl, hr, ho, hy, hn⟩
    replace HR := Lib.hid hr
    have HOx := Lib.hid ho
    have hs8 := HOx.out.size
    clear hr ho
    replace HW : Hid (OnlyB b w w8) := Lib.hid (HW.out.then_ HOx.out (fun _ _ h => h))
    replace HQ : Hid (OnlyB b wo w8) := Lib.hid (HQ.out.then_ HOx.out (fun _ _ h => h))
    replace HK5 := Lib.hid (HOx.out.heap HK5.out (by omega))
    replace HTcR := Lib.hid (HTcR.out.only HOx.out (fun i (h : i = b) => by omega))
    replace HK7 := Lib.hid (HOx.out.heap HK7.out (by omega))
    clear HOx
    cases og with
    | false =>
     obtain rfl : m8 = m5 := hn rfl
     clear hy hn
     go_wp2_with (refine wpl_alloc rfl 56 rfl (some 10) rfl Tryd.zeroValue56 ?_)
     refine ⟨fun w9 b10 HK10 ho9 ha10 hb10 => ?_⟩
     have hs9 := ho9.out.size
     replace HW : Hid (OnlyB b w w9) := Lib.hid (HW.out.then_ ho9.out (fun _ _ h => h.elim))
     replace HQ : Hid (OnlyB b wo w9) := Lib.hid (HQ.out.then_ ho9.out (fun _ _ h => h.elim))
     replace HR := Lib.hid (HR.out.only ho9.out (fun h => h))
     replace HK5 := Lib.hid (ho9.out.heap HK5.out (fun h => h))
     replace HTcR := Lib.hid (HTcR.out.only ho9.out (fun _ h => h.elim))
     replace HK7 := Lib.hid (ho9.out.heap HK7.out (fun h => h))
     clear ho9
     obtain ⟨zq, hzq⟩ : ∃ x, x = w9.heap.size := ⟨_, rfl⟩
     have hzq2 : zq ≤ w9.heap.size := by omega
     have hzq3 : w9.heap.size ≤ zq := by omega
     clear hzq
     have HTI : Hid (TrP FI (fun x => (w.heap.size ≤ x ∧ x < w1.heap.size) ∨ (wo.heap.size ≤ x ∧ x < zq)) w9 (cellsI (⟨2, (at_x : Int), nm, [], cR, zRL, false, zEL, zEL, false, zSL, none, 0, 0, none, 0, 0, none, 0, 0, [], none, 0, 0, false, [], none, 0, 0⟩ : ItV)) ([114, 101, 103, 32] ++ spanT r ++ nm ++ [] ++ [59, 10])) := Lib.hid (tri_mk (x := (⟨2, (at_x : Int), nm, [], cR, zRL, false, zEL, zEL, false, zSL, none, 0, 0, none, 0, 0, none, 0, 0, [], none, 0, 0, false, [], none, 0, 0⟩ : ItV)) (r := r) (wd := (false, [123, 125], [123, 125])) (tV := ([123, 125], 0)) (tG := ([123, 125], 0)) (tB := []) ⟨(show (1 : Int) ≤ 2 ∧ (2 : Int) ≤ 9 by omega), (show nm.length ≤ 100000 by omega), (by simp), (by simp), (by simp), (fun h => by cases h), (fun h => by have h9 : (2 : Int) = 8 := h; omega), okB_zero⟩ (HTcR.out.imp (fun x _ hx => .inl hx)) trr_zero tre_zero tre_zero (fun h => by have h9 : (2 : Int) = 6 := h; omega) (LfP.nil (T := (fun _ => (([], false, []) : BiT)))) (LfP.nil (T := (fun _ => (([], false, []) : BiT)))) (LfP.nil (T := (fun _ => ([], 0)))) (LfP.nil (T := fun _ => ([] : LB))) (LfP.nil (T := fun _ => ([] : LB))) (show 0 ≤ 3000000 ∧ 0 ≤ 3000000 ∧ 0 ≤ 3000000 ∧ 0 ≤ 3000000 ∧ 0 ≤ 3000000 by omega))
     obtain ⟨tx, htx⟩ : ∃ t : LB, t = ([114, 101, 103, 32] ++ spanT r ++ nm ++ [] ++ [59, 10]) := ⟨_, rfl⟩
     rw [← htx] at HTI
     have HTL : Hid (tx.length = (([114, 101, 103, 32] ++ spanT r ++ nm ++ [] ++ [59, 10])).length) := Lib.hid (by rw [htx])
     clear htx
     obtain ⟨cI, hcI⟩ : ∃ c, c = (cellsI (⟨2, (at_x : Int), nm, [], cR, zRL, false, zEL, zEL, false, zSL, none, 0, 0, none, 0, 0, none, 0, 0, [], none, 0, 0, false, [], none, 0, 0⟩ : ItV)) := ⟨_, rfl⟩
     rw [← hcI] at HTI HK7
     have HCI := Lib.hid hcI
     clear hcI
     have HALT := Lib.hid HL0.out.lt
     go_wp2_with (first | (refine wpl_load rfl 75 (.tmp 7) rfl b7 rfl HK7.out stI (by simp [(lenI HTI.out).1]) ?_) | (refine wpl_slice rfl 38 75 1 _ rfl (some 56) rfl Tryd.underlying38 cI.toArray (built65 (lenI HTI.out).1) ?_))
     refine ⟨fun w10 b56 HK56 ho10 ha56 hb56 => ?_⟩
     have hs10 := ho10.out.size
     replace HW : Hid (OnlyB b w w10) := Lib.hid (HW.out.then_ ho10.out (fun _ _ h => h.elim))
     replace HQ : Hid (OnlyB b wo w10) := Lib.hid (HQ.out.then_ ho10.out (fun _ _ h => h.elim))
     replace HR := Lib.hid (HR.out.only ho10.out (fun h => h))
     replace HK5 := Lib.hid (ho10.out.heap HK5.out (fun h => h))
     replace HTcR := Lib.hid (HTcR.out.only ho10.out (fun _ h => h.elim))
     replace HK7 := Lib.hid (ho10.out.heap HK7.out (fun h => h))
     replace HK10 := Lib.hid (ho10.out.heap HK10.out (fun h => h))
     replace HTI := Lib.hid (HTI.out.only ho10.out (fun _ _ h => h))
     clear ho10
     have HL := Lib.hid (HL0.out.only HQ.out (fun i hi (h : i = b) => by omega))
     clear HQ HL0
     go_wp2_with (refine wpl_pushP rfl (.tmp 54) (.tmp 56) 38 rfl elI rfl HL.out rfl HK56.out (lenI HTI.out).1 (lenI HTI.out).2 HTI.out w2.heap.size HAL.out (by omega) (fun x hx => ⟨by omega, by omega, fun hx2 => by have := HAL.out x hx2; have := HALT.out x hx2; omega⟩) (by omega) (by omega) (by omega) ?_)
     refine ⟨fun A1 c1n w11 HLn ho11 HAn HAb => ?_⟩
     have hs11 := ho11.out.size
     clear HL HTI HK56
     replace HW : Hid (OnlyB b w w11) := Lib.hid (HW.out.then_ ho11.out (fun i hi h => by have := HAL.out _ h; have := HALT.out _ h; omega))
     replace HR := Lib.hid (HR.out.only ho11.out (fun h => by have := HAL.out _ h; have := HALT.out _ h; omega))
     replace HK5 := Lib.hid (ho11.out.heap HK5.out (fun h => by have := HAL.out _ h; have := HALT.out _ h; omega))
     replace HTcR := Lib.hid (HTcR.out.only ho11.out (fun i h => by have := HAL.out _ h; have := HALT.out _ h; omega))
     replace HK7 := Lib.hid (ho11.out.heap HK7.out (fun h => by have := HAL.out _ h; have := HALT.out _ h; omega))
     replace HK10 := Lib.hid (ho11.out.heap HK10.out (fun h => by have := HAL.out _ h; have := HALT.out _ h; omega))
     clear ho11
     clear HK7
     clear HK10
     have HL := HLn
     have HAL2 := HAn
     clear HLn HAn HAb HALT
     go_wp2_with fail
     go_wp2_with fail
     refine (accept_any HR.out _).mono ?_
     rintro e w12 ⟨om, m12, rfl, hr, ho, hy, hn⟩
     replace HR := Lib.hid hr
     have HOx := Lib.hid ho
     have hs12 := HOx.out.size
     clear hr ho
     replace HW : Hid (OnlyB b w w12) := Lib.hid (HW.out.then_ HOx.out (fun _ _ h => h))
     replace HK5 := Lib.hid (HOx.out.heap HK5.out (by omega))
     replace HTcR := Lib.hid (HTcR.out.only HOx.out (fun i (h : i = b) => by omega))
     replace HL := Lib.hid (HL.out.only HOx.out (fun i hi (h : i = b) => by omega))
     clear HOx
     cases om with
     | false =>
      have HME := Lib.hid (hn rfl)
      clear hy hn
      go_wp2_with fail
      refine (must_any HR.out _).mono ?_
      rintro e w13 ⟨rfl, m13, hr, ho, hm⟩
      have hle13 : m13 ≤ m12 := by omega
      have HM13 := Lib.hid hm
      clear hm
      replace HR := Lib.hid hr
      have HOx := Lib.hid ho
      have hs13 := HOx.out.size
      clear hr ho
      replace HW : Hid (OnlyB b w w13) := Lib.hid (HW.out.then_ HOx.out (fun _ _ h => h))
      replace HK5 := Lib.hid (HOx.out.heap HK5.out (by omega))
      replace HTcR := Lib.hid (HTcR.out.only HOx.out (fun i (h : i = b) => by omega))
      replace HL := Lib.hid (HL.out.only HOx.out (fun i hi (h : i = b) => by omega))
      clear HOx
      go_wp2_with fail
      go_ret
      exact ⟨A1, (n + 1), c1n, _, m13, rfl, HR.out, HW.out, HL.out.done.wide (by omega) (by omega), by have := HM5.out; have := HME.out; omega, by have := HTX.out; have := HSP2.out; have := HM5.out; have := HME.out; have := HM13.out; have h9 := @catL_snoc_len T n tx; have h7 := HTL.out; simp only [KK, List.length_append, List.length_cons, List.length_nil] at *; omega⟩
     | true =>
      obtain ⟨hp12, hl12⟩ := hy rfl
      clear hy hn
      go_wp2_with fail
      have hlt9 : m12 < go := by have := HM5.out; omega
      go_roundg m12
      case measure => omega
      case rel => exact ⟨A1, (n + 1), c1n, _, rfl, by omega, Lib.hid ⟨HR.out, HW.out, HK5.out, HTcR.out, HL.out, HAL2.out, by omega, by have := HTX.out; have := HSP2.out; have := HM5.out; have h9 := @catL_snoc_len T n tx; have h7 := HTL.out; simp only [KK, List.length_append, List.length_cons, List.length_nil] at *; omega, by omega⟩⟩
    | true =>
     obtain ⟨hp8, hl8⟩ := hy rfl
     clear hy hn
     go_wp2_with (refine wpl_alloc rfl 56 rfl (some 10) rfl Tryd.zeroValue56 ?_)
     refine ⟨fun w9 b10 HK10 ho9 ha10 hb10 => ?_⟩
     have hs9 := ho9.out.size
     replace HW : Hid (OnlyB b w w9) := Lib.hid (HW.out.then_ ho9.out (fun _ _ h => h.elim))
     replace HQ : Hid (OnlyB b wo w9) := Lib.hid (HQ.out.then_ ho9.out (fun _ _ h => h.elim))
     replace HR := Lib.hid (HR.out.only ho9.out (fun h => h))
     replace HK5 := Lib.hid (ho9.out.heap HK5.out (fun h => h))
     replace HTcR := Lib.hid (HTcR.out.only ho9.out (fun _ h => h.elim))
     replace HK7 := Lib.hid (ho9.out.heap HK7.out (fun h => h))
     clear ho9
     go_wp2_with fail
     refine (expr_any HR.out).mono ?_
     rintro e w10 ⟨c1, t1, kd10, m10, rfl, hr, ho, ht, hm⟩
     have hle10 : m10 ≤ m8 := by omega
     have HM10 := Lib.hid hm
     have HTc1 := Lib.hid ht
     clear hm ht
     replace HR := Lib.hid hr
     have HOx := Lib.hid ho
     have hs10 := HOx.out.size
     clear hr ho
     replace HW : Hid (OnlyB b w w10) := Lib.hid (HW.out.then_ HOx.out (fun _ _ h => h))
     replace HQ : Hid (OnlyB b wo w10) := Lib.hid (HQ.out.then_ HOx.out (fun _ _ h => h))
     replace HK5 := Lib.hid (HOx.out.heap HK5.out (by omega))
     replace HTcR := Lib.hid (HTcR.out.only HOx.out (fun i (h : i = b) => by omega))
     replace HK7 := Lib.hid (HOx.out.heap HK7.out (by omega))
     replace HK10 := Lib.hid (HOx.out.heap HK10.out (by omega))
     clear HOx
     go_wp2_with (refine wpl_store rfl 56 (.tmp 10) (.tmp 46) rfl b10 rfl (cells := c1.toArray) rfl HK10.out stE HTc1.out.size rfl HTc1.out.ones ?_)
     clear HK10
     refine ⟨fun w11 HK10 ho11 => ?_⟩
     have hs11 := ho11.out.size
     replace HW : Hid (OnlyB b w w11) := Lib.hid (HW.out.then_ ho11.out (fun i hi (h : i = b10) => by omega))
     replace HQ : Hid (OnlyB b wo w11) := Lib.hid (HQ.out.then_ ho11.out (fun i hi (h : i = b10) => by omega))
     replace HR := Lib.hid (HR.out.only ho11.out (by omega))
     replace HK5 := Lib.hid (ho11.out.heap HK5.out (by omega))
     replace HTcR := Lib.hid (HTcR.out.only ho11.out (fun i (h : i = b10) => by omega))
     replace HK7 := Lib.hid (ho11.out.heap HK7.out (by omega))
     replace HTc1 := Lib.hid (HTc1.out.only ho11.out (fun i (h : i = b10) => by omega))
     clear ho11
     go_wp2_with (refine wpl_cellC rfl 4 (.tmp 51) (.const (.bool true)) rfl b7 34 rfl (v := .bool true) rfl Tryd.sizeOf4 rfl rfl HK7.out (new := (cellsI (⟨2, (at_x : Int), nm, [], cR, zRL, true, zEL, zEL, false, zSL, none, 0, 0, none, 0, 0, none, 0, 0, [], none, 0, 0, false, [], none, 0, 0⟩ : ItV))) (cI_given (⟨2, (at_x : Int), nm, [], cR, zRL, false, zEL, zEL, false, zSL, none, 0, 0, none, 0, 0, none, 0, 0, [], none, 0, 0, false, [], none, 0, 0⟩ : ItV) ⟨(lenR HTcR.out), rfl, rfl, rfl, rfl⟩ true) ?_)
     clear HK7
     refine ⟨fun w12 HK7 ho12 => ?_⟩
     have hs12 := ho12.out.size
     replace HW : Hid (OnlyB b w w12) := Lib.hid (HW.out.then_ ho12.out (fun i hi (h : i = b7) => by omega))
     replace HQ : Hid (OnlyB b wo w12) := Lib.hid (HQ.out.then_ ho12.out (fun i hi (h : i = b7) => by omega))
     replace HR := Lib.hid (HR.out.only ho12.out (by omega))
     replace HK5 := Lib.hid (ho12.out.heap HK5.out (by omega))
     replace HTcR := Lib.hid (HTcR.out.only ho12.out (fun i (h : i = b7) => by omega))
     replace HK10 := Lib.hid (ho12.out.heap HK10.out (by omega))
     replace HTc1 := Lib.hid (HTc1.out.only ho12.out (fun i (h : i = b7) => by omega))
     clear ho12
     go_wp2_with (first | (refine wpl_load rfl 56 (.tmp 10) rfl b10 rfl HK10.out stE HTc1.out.size ?_) | (refine wpl_segC rfl 56 (.tmp 53) (.tmp 52) rfl b7 35 rfl (c := c1) rfl HK7.out stE HTc1.out.len HTc1.out.one (new := (cellsI (⟨2, (at_x : Int), nm, [], cR, zRL, true, c1, zEL, false, zSL, none, 0, 0, none, 0, 0, none, 0, 0, [], none, 0, 0, false, [], none, 0, 0⟩ : ItV))) (cI_V (⟨2, (at_x : Int), nm, [], cR, zRL, true, zEL, zEL, false, zSL, none, 0, 0, none, 0, 0, none, 0, 0, [], none, 0, 0, false, [], none, 0, 0⟩ : ItV) ⟨(lenR HTcR.out), rfl, rfl, rfl, rfl⟩ c1) ?_))
     clear HK7
     refine ⟨fun w13 HK7 ho13 => ?_⟩
     have hs13 := ho13.out.size
     replace HW : Hid (OnlyB b w w13) := Lib.hid (HW.out.then_ ho13.out (fun i hi (h : i = b7) => by omega))
     replace HQ : Hid (OnlyB b wo w13) := Lib.hid (HQ.out.then_ ho13.out (fun i hi (h : i = b7) => by omega))
     replace HR := Lib.hid (HR.out.only ho13.out (by omega))
     replace HK5 := Lib.hid (ho13.out.heap HK5.out (by omega))
     replace HTcR := Lib.hid (HTcR.out.only ho13.out (fun i (h : i = b7) => by omega))
     replace HK10 := Lib.hid (ho13.out.heap HK10.out (by omega))
     replace HTc1 := Lib.hid (HTc1.out.only ho13.out (fun i (h : i = b7) => by omega))
     clear ho13
     obtain ⟨zq, hzq⟩ : ∃ x, x = w13.heap.size := ⟨_, rfl⟩
     have hzq2 : zq ≤ w13.heap.size := by omega
     have hzq3 : w13.heap.size ≤ zq := by omega
     clear hzq
     have HTI : Hid (TrP FI (fun x => (w.heap.size ≤ x ∧ x < w1.heap.size) ∨ (wo.heap.size ≤ x ∧ x < zq)) w13 (cellsI (⟨2, (at_x : Int), nm, [], cR, zRL, true, c1, zEL, false, zSL, none, 0, 0, none, 0, 0, none, 0, 0, [], none, 0, 0, false, [], none, 0, 0⟩ : ItV)) ([114, 101, 103, 32] ++ spanT r ++ nm ++ ([32, 61, 32] ++ t1) ++ [59, 10])) := Lib.hid (tri_mk (x := (⟨2, (at_x : Int), nm, [], cR, zRL, true, c1, zEL, false, zSL, none, 0, 0, none, 0, 0, none, 0, 0, [], none, 0, 0, false, [], none, 0, 0⟩ : ItV)) (r := r) (wd := (false, [123, 125], [123, 125])) (tV := (t1, kd10)) (tG := ([123, 125], 0)) (tB := []) ⟨(show (1 : Int) ≤ 2 ∧ (2 : Int) ≤ 9 by omega), (show nm.length ≤ 100000 by omega), (by simp), (by simp), (by simp), (fun _ => rfl), (fun h => by have h9 : (2 : Int) = 8 := h; omega), okB_zero⟩ (HTcR.out.imp (fun x _ hx => .inl hx)) trr_zero (HTc1.out.imp (fun x _ hx => .inr ⟨by omega, by omega⟩)) tre_zero (fun h => by have h9 : (2 : Int) = 6 := h; omega) (LfP.nil (T := (fun _ => (([], false, []) : BiT)))) (LfP.nil (T := (fun _ => (([], false, []) : BiT)))) (LfP.nil (T := (fun _ => ([], 0)))) (LfP.nil (T := fun _ => ([] : LB))) (LfP.nil (T := fun _ => ([] : LB))) (show 0 ≤ 3000000 ∧ 0 ≤ 3000000 ∧ 0 ≤ 3000000 ∧ 0 ≤ 3000000 ∧ 0 ≤ 3000000 by omega))
     obtain ⟨tx, htx⟩ : ∃ t : LB, t = ([114, 101, 103, 32] ++ spanT r ++ nm ++ ([32, 61, 32] ++ t1) ++ [59, 10]) := ⟨_, rfl⟩
     rw [← htx] at HTI
     have HTL : Hid (tx.length = (([114, 101, 103, 32] ++ spanT r ++ nm ++ ([32, 61, 32] ++ t1) ++ [59, 10])).length) := Lib.hid (by rw [htx])
     clear htx
     obtain ⟨cI, hcI⟩ : ∃ c, c = (cellsI (⟨2, (at_x : Int), nm, [], cR, zRL, true, c1, zEL, false, zSL, none, 0, 0, none, 0, 0, none, 0, 0, [], none, 0, 0, false, [], none, 0, 0⟩ : ItV)) := ⟨_, rfl⟩
     rw [← hcI] at HTI HK7
     have HCI := Lib.hid hcI
     clear hcI
     have HALT := Lib.hid HL0.out.lt
     go_wp2_with (first | (refine wpl_load rfl 75 (.tmp 7) rfl b7 rfl HK7.out stI (by simp [(lenI HTI.out).1]) ?_) | (refine wpl_slice rfl 38 75 1 _ rfl (some 56) rfl Tryd.underlying38 cI.toArray (built65 (lenI HTI.out).1) ?_))
     refine ⟨fun w14 b56 HK56 ho14 ha56 hb56 => ?_⟩
     have hs14 := ho14.out.size
     replace HW : Hid (OnlyB b w w14) := Lib.hid (HW.out.then_ ho14.out (fun _ _ h => h.elim))
     replace HQ : Hid (OnlyB b wo w14) := Lib.hid (HQ.out.then_ ho14.out (fun _ _ h => h.elim))
     replace HR := Lib.hid (HR.out.only ho14.out (fun h => h))
     replace HK5 := Lib.hid (ho14.out.heap HK5.out (fun h => h))
     replace HTcR := Lib.hid (HTcR.out.only ho14.out (fun _ h => h.elim))
     replace HK7 := Lib.hid (ho14.out.heap HK7.out (fun h => h))
     replace HK10 := Lib.hid (ho14.out.heap HK10.out (fun h => h))
     replace HTc1 := Lib.hid (HTc1.out.only ho14.out (fun _ h => h.elim))
     replace HTI := Lib.hid (HTI.out.only ho14.out (fun _ _ h => h))
     clear ho14
     have HL := Lib.hid (HL0.out.only HQ.out (fun i hi (h : i = b) => by omega))
     clear HQ HL0
     go_wp2_with (refine wpl_pushP rfl (.tmp 54) (.tmp 56) 38 rfl elI rfl HL.out rfl HK56.out (lenI HTI.out).1 (lenI HTI.out).2 HTI.out w2.heap.size HAL.out (by omega) (fun x hx => ⟨by omega, by omega, fun hx2 => by have := HAL.out x hx2; have := HALT.out x hx2; omega⟩) (by omega) (by omega) (by omega) ?_)
     refine ⟨fun A1 c1n w15 HLn ho15 HAn HAb => ?_⟩
     have hs15 := ho15.out.size
     clear HL HTI HK56
     replace HW : Hid (OnlyB b w w15) := Lib.hid (HW.out.then_ ho15.out (fun i hi h => by have := HAL.out _ h; have := HALT.out _ h; omega))
     replace HR := Lib.hid (HR.out.only ho15.out (fun h => by have := HAL.out _ h; have := HALT.out _ h; omega))
     replace HK5 := Lib.hid (ho15.out.heap HK5.out (fun h => by have := HAL.out _ h; have := HALT.out _ h; omega))
     replace HTcR := Lib.hid (HTcR.out.only ho15.out (fun i h => by have := HAL.out _ h; have := HALT.out _ h; omega))
     replace HK7 := Lib.hid (ho15.out.heap HK7.out (fun h => by have := HAL.out _ h; have := HALT.out _ h; omega))
     replace HK10 := Lib.hid (ho15.out.heap HK10.out (fun h => by have := HAL.out _ h; have := HALT.out _ h; omega))
     replace HTc1 := Lib.hid (HTc1.out.only ho15.out (fun i h => by have := HAL.out _ h; have := HALT.out _ h; omega))
     clear ho15
     clear HK7
     clear HK10
     have HL := HLn
     have HAL2 := HAn
     clear HLn HAn HAb HALT
     go_wp2_with fail
     go_wp2_with fail
     refine (accept_any HR.out _).mono ?_
     rintro e w16 ⟨om, m16, rfl, hr, ho, hy, hn⟩
     replace HR := Lib.hid hr
     have HOx := Lib.hid ho
     have hs16 := HOx.out.size
     clear hr ho
     replace HW : Hid (OnlyB b w w16) := Lib.hid (HW.out.then_ HOx.out (fun _ _ h => h))
     replace HK5 := Lib.hid (HOx.out.heap HK5.out (by omega))
     replace HTcR := Lib.hid (HTcR.out.only HOx.out (fun i (h : i = b) => by omega))
     replace HTc1 := Lib.hid (HTc1.out.only HOx.out (fun i (h : i = b) => by omega))
     replace HL := Lib.hid (HL.out.only HOx.out (fun i hi (h : i = b) => by omega))
     clear HOx
     cases om with
     | false =>
      have HME := Lib.hid (hn rfl)
      clear hy hn
      go_wp2_with fail
      refine (must_any HR.out _).mono ?_
      rintro e w17 ⟨rfl, m17, hr, ho, hm⟩
      have hle17 : m17 ≤ m16 := by omega
      have HM17 := Lib.hid hm
      clear hm
      replace HR := Lib.hid hr
      have HOx := Lib.hid ho
      have hs17 := HOx.out.size
      clear hr ho
      replace HW : Hid (OnlyB b w w17) := Lib.hid (HW.out.then_ HOx.out (fun _ _ h => h))
      replace HK5 := Lib.hid (HOx.out.heap HK5.out (by omega))
      replace HTcR := Lib.hid (HTcR.out.only HOx.out (fun i (h : i = b) => by omega))
      replace HTc1 := Lib.hid (HTc1.out.only HOx.out (fun i (h : i = b) => by omega))
      replace HL := Lib.hid (HL.out.only HOx.out (fun i hi (h : i = b) => by omega))
      clear HOx
      go_wp2_with fail
      go_ret
      exact ⟨A1, (n + 1), c1n, _, m17, rfl, HR.out, HW.out, HL.out.done.wide (by omega) (by omega), by have := HM5.out; have := HME.out; omega, by have := HTX.out; have := HSP2.out; have := HM5.out; have := HME.out; have := HM17.out; have := HM10.out; have h9 := @catL_snoc_len T n tx; have h7 := HTL.out; simp only [KK, List.length_append, List.length_cons, List.length_nil] at *; omega⟩
     | true =>
      obtain ⟨hp16, hl16⟩ := hy rfl
      clear hy hn
      go_wp2_with fail
      have hlt9 : m16 < go := by have := HM5.out; omega
      go_roundg m16
      case measure => omega
      case rel => exact ⟨A1, (n + 1), c1n, _, rfl, by omega, Lib.hid ⟨HR.out, HW.out, HK5.out, HTcR.out, HL.out, HAL2.out, by omega, by have := HTX.out; have := HSP2.out; have := HM5.out; have := HM10.out; have h9 := @catL_snoc_len T n tx; have h7 := HTL.out; simp only [KK, List.length_append, List.length_cons, List.length_nil] at *; omega, by omega⟩⟩
  ·
   have hci : ((codex : Int) == 0) = false := by rw [beq_eq_false_iff_ne]; omega
   have hg0 : go = 0 := HF.out.hm.trans (rdM_bad hc)
   have HG := Lib.hid hg0
   clear hc HF hg0
   have HL := Lib.hid (HL0.out.only HQ.out (fun i hi (h : i = b) => by omega))
   clear HQ HL0
   go_wp2_with fail
   refine (must_any HR.out _).mono ?_
   rintro e w3 ⟨rfl, m3, hr, ho, hm⟩
   have hle3 : m3 ≤ go := by omega
   have HM3 := Lib.hid hm
   clear hm
   replace HR := Lib.hid hr
   have HOx := Lib.hid ho
   have hs3 := HOx.out.size
   clear hr ho
   replace HW : Hid (OnlyB b w w3) := Lib.hid (HW.out.then_ HOx.out (fun _ _ h => h))
   replace HK5 := Lib.hid (HOx.out.heap HK5.out (by omega))
   replace HTcR := Lib.hid (HTcR.out.only HOx.out (fun i (h : i = b) => by omega))
   replace HL := Lib.hid (HL.out.only HOx.out (fun i hi (h : i = b) => by omega))
   clear HOx
   go_wp2_with fail
   go_ret
   exact ⟨A, n, c, T, m3, rfl, HR.out, HW.out, HL.out.done.wide (by omega) (by omega), by omega, by have := HM3.out; have := HG.out; omega⟩
set_option maxRecDepth 100000 in
set_option maxHeartbeats 8000000 in
theorem nets_false {s : ByteArray} {b m : Nat} {w : World} (HR : Hid (RdS s b w m)) : Calls Tryd.prog 56 #[.pointer (some ⟨b, 0, none⟩), .bool false] w (LiOut s b m w) := by
 have HR0 := HR
 have hlt := HR.out.lt
 have HW : Hid (OnlyB b w w) := Lib.hid (Only.refl _ w)
 go_enter Tryd.func56, Tryd.ntmps56
 go_wp2_with fail
 refine (span_any HR.out).mono ?_
 rintro e w1 ⟨cR, r, m1, rfl, hr, ho, ht, hm⟩
 have hle1 : m1 ≤ m := by omega
 have HM1 := Lib.hid hm
 have HTcR := Lib.hid ht
 clear hm ht
 replace HR := Lib.hid hr
 have HOx := Lib.hid ho
 have hs1 := HOx.out.size
 clear hr ho
 replace HW : Hid (OnlyB b w w1) := Lib.hid (HW.out.then_ HOx.out (fun _ _ h => h))
 clear HOx
 go_wp2_with (refine wpl_box rfl rfl 61 rfl 5 rfl (.tmp 13) rfl rfl Tryd.zeroValue61 (cells := cR.toArray) (fun _ => rfl) (fun _ => rfl) stR (by simp [lenR HTcR.out]) rfl (by simpa using oneR HTcR.out) ?_)
 refine ⟨fun w2 b5 HK5 ho2 ha5 hb5 => ?_⟩
 have hs2 := ho2.out.size
 replace HW : Hid (OnlyB b w w2) := Lib.hid (HW.out.then_ ho2.out (fun _ _ h => h.elim))
 replace HR := Lib.hid (HR.out.only ho2.out (fun h => h))
 replace HTcR := Lib.hid (HTcR.out.only ho2.out (fun _ h => h.elim))
 clear ho2
 go_wp2_with fail
 have H0 : Hid (NtI s b m w w.heap.size w1.heap.size w2.heap.size b5 cR r m1 w2 none 0 0 (fun _ => ([] : LB))) := Lib.hid ⟨HR.out, HW.out, HK5.out, HTcR.out, Ls.nil, (fun k hk => by obtain ⟨_, h, _⟩ := hk; cases h), by omega, by have := HM1.out; simp only [catL, List.length_nil, KK]; omega, by omega⟩
 have HSP : Hid ((spanT r).length ≤ 60 * m ∨ m1 = 0) := Lib.hid (by have := HM1.out; omega)
 clear HR HW HK5 HTcR
 go_loopg [6] m1 (fun g v6 wr => ∃ A n c T, v6 = .slice A n c ∧ g ≤ m1 ∧ Hid (NtI s b m w w.heap.size w1.heap.size w2.heap.size b5 cR r g wr A n c T))
 case atStart => exact ⟨_, _, _, _, rfl, Nat.le_refl _, H0⟩
 case round =>
  clear H0
  obtain ⟨A, n, c, T, rfl, hgm, HB⟩ := hrel
  obtain ⟨wo, hwo⟩ : ∃ x, x = wr := ⟨_, rfl⟩
  subst hwo
  obtain ⟨go, hgo⟩ : ∃ x, x = gk := ⟨_, rfl⟩
  subst hgo
  have HR := Lib.hid HB.out.rd
  have HW := Lib.hid HB.out.ol
  have HK5 := Lib.hid HB.out.k5
  have HTcR := Lib.hid HB.out.tr
  have HL0 := Lib.hid HB.out.ls
  have HAL := Lib.hid HB.out.al
  have hnn := HB.out.nn
  have HTX := Lib.hid HB.out.tx
  have hsr := HB.out.sz
  clear HB
  have hmm := HR0.out.le
  have HQ : Hid (OnlyB b wo wo) := Lib.hid (Only.refl _ _)
  obtain ⟨kdx, at_x, wdx, Tx, numx, qx, codex, fatx, hrf⟩ := HR.out
  have HFx := Lib.hid hrf
  clear hrf
  have HF := HFx
  clear HFx
  obtain ⟨y7, z7⟩ := HF.out.c7
  by_cases hc : codex = 0
  ·
   subst hc
   have hg0 : 0 < go := by rw [HF.out.hm]; exact rdM_pos
   have HSP2 : Hid ((spanT r).length ≤ 60 * m) := Lib.hid (by have := HSP.out; omega)
   obtain ⟨y2, z2⟩ := HF.out.c2
   go_wp2_with fail
   clear y7 z7 HF
   have hbn := built_net (lenR HTcR.out) (at_x : Int)
   have hln := cellsI_len (x := (⟨1, (at_x : Int), [], [], cR, zRL, false, zEL, zEL, false, zSL, none, 0, 0, none, 0, 0, none, 0, 0, [], none, 0, 0, false, [], none, 0, 0⟩ : ItV)) ⟨(lenR HTcR.out), rfl, rfl, rfl, rfl⟩
   have hon := (lenI (p := fun _ => True) (w := wo) (tri_mk (x := (⟨1, (at_x : Int), [], [], cR, zRL, false, zEL, zEL, false, zSL, none, 0, 0, none, 0, 0, none, 0, 0, [], none, 0, 0, false, [], none, 0, 0⟩ : ItV)) (r := r) (wd := (false, [123, 125], [123, 125])) (tV := ([123, 125], 0)) (tG := ([123, 125], 0)) (tB := []) ⟨(show (1 : Int) ≤ 1 ∧ (1 : Int) ≤ 9 by omega), (by simp), (by simp), (by simp), (by simp), (fun h => by cases h), (fun h => by have h9 : (1 : Int) = 8 := h; omega), okB_zero⟩ (HTcR.out.imp (fun _ _ _ => trivial)) trr_zero tre_zero tre_zero (fun h => by have h9 : (1 : Int) = 6 := h; omega) (LfP.nil (T := (fun _ => (([], false, []) : BiT)))) (LfP.nil (T := (fun _ => (([], false, []) : BiT)))) (LfP.nil (T := (fun _ => ([], 0)))) (LfP.nil (T := fun _ => ([] : LB))) (LfP.nil (T := fun _ => ([] : LB))) (show 0 ≤ 3000000 ∧ 0 ≤ 3000000 ∧ 0 ≤ 3000000 ∧ 0 ≤ 3000000 ∧ 0 ≤ 3000000 by omega))).2
   obtain ⟨c0, hc0⟩ : ∃ c, c = (cellsI (⟨1, (at_x : Int), [], [], cR, zRL, false, zEL, zEL, false, zSL, none, 0, 0, none, 0, 0, none, 0, 0, [], none, 0, 0, false, [], none, 0, 0⟩ : ItV)) := ⟨_, rfl⟩
   rw [← hc0] at hbn hln hon
   have HBN := Lib.hid hbn
   have HLN := Lib.hid hln
   have HON := Lib.hid hon
   have HC0 := Lib.hid hc0
   clear hbn hln hon hc0
   have HZI := Lib.hid zeroI
   refine wp_region_z (fun w' => w'.cell? ⟨b, 2, none⟩ = some (.int .i64 (at_x : Int)) ∧ w'.heap[b5]? = some (.cells cR.toArray 61)) [0, 1, 2, 3, 4, 5, 6] [8] (by kernel_rfl) (by kernel_rfl) (by kernel_rfl) (by rfl) (fun _ _ _ _ e h => ⟨e.symm.trans h.1, h.2⟩) ⟨y2, HK5.out⟩ ?_
   iterate 5
    refine Heads.step (v := ?_) rfl (by first | (go_simp; done) | rfl) (fun W hW => ?_) ?_
    rotate_left
    ·
     (obtain ⟨t0, t1⟩ := hW; go_simp; try with_reducible rfl)
   simp only [List.getElem_toArray, List.getElem_cons_zero, List.getElem_cons_succ, Act.put, List.setIfInBounds_toArray, List.set_cons_succ, List.set_cons_zero]
   refine ⟨_, _, rfl, yields_row rfl 61 (.tmp 5) rfl b5 rfl (fun W hW => hW.2) stR (by simp [lenR HTcR.out]), ?_⟩
   simp only [List.getElem_toArray, List.getElem_cons_zero, List.getElem_cons_succ, Act.put, List.setIfInBounds_toArray, List.set_cons_succ, List.set_cons_zero]
   refine ⟨_, _, rfl, yields_build rfl 75 [(0, .const (.int .i64 1)), (1, .tmp 24), (4, .tmp 25)] rfl c0.toArray HBN.out, ?_⟩
   simp only [List.getElem_toArray, List.getElem_cons_zero, List.getElem_cons_succ, Act.put, List.setIfInBounds_toArray, List.set_cons_succ, List.set_cons_zero]
   refine AnyZ.one (i := 7) (by kernel_rfl) rfl (fun K hK => ?_)
   rw [if_pos (by rfl)]
   refine wpz_alloc 75 rfl zeroI (fun w7 b7 HK7 ho7 ha7 hb7 => ?_)
   refine hK _ _ (fun _ => ⟨ho7.out.cell y2 (fun h => h), ho7.out.heap HK5.out (fun h => h)⟩) ?_
   clear hK
   simp only [List.getElem_toArray, List.getElem_cons_zero, List.getElem_cons_succ, Act.put, List.setIfInBounds_toArray, List.set_cons_succ, List.set_cons_zero]
   refine AnyZ.one (i := 8) (by kernel_rfl) rfl (fun K hK => ?_)
   rw [if_pos (by rfl)]
   refine wpz_store 75 (.tmp 7) (.tmp 26) rfl b7 rfl (cells := c0.toArray) rfl HK7.out stI (by simpa using HLN.out) (by simpa using cellsI_len (x := zI) ⟨rfl, rfl, rfl, rfl, rfl⟩) (by simpa using HON.out) (fun w8 HK7b ho8 => ?_)
   refine hK _ _ (fun h => by cases h) ?_
   clear hK HK7
   refine AnyZ.done (by kernel_rfl) ?_
   have HK7 := HK7b
   clear HK7b
   rw [HC0.out] at HK7
   clear HBN HLN HON
   clear y2 z2
   obtain ⟨w3, hww⟩ : ∃ x, x = w8 := ⟨_, rfl⟩
   subst hww
   have HO : Hid (Only (fun _ => False) wo w3) := Lib.hid ((((Only.refl _ wo).drew).then_ ho7.out (fun _ _ h => h.elim)).then_ ho8.out (fun i hi (h : i = b7) => by have : wo.drew.heap.size = wo.heap.size := rfl; omega))
   replace ha7 : wo.heap.size ≤ b7 := ha7
   have hs8 : b7 < w3.heap.size := Nat.lt_of_lt_of_le hb7 ho8.out.size
   clear hb7 ho7 ho8
   have hs3 := HO.out.size
   replace HW : Hid (OnlyB b w w3) := Lib.hid (HW.out.then_ HO.out (fun _ _ h => h.elim))
   replace HQ : Hid (OnlyB b wo w3) := Lib.hid (HQ.out.then_ HO.out (fun _ _ h => h.elim))
   replace HR := Lib.hid (HR.out.only HO.out (fun h => h))
   replace HK5 := Lib.hid (HO.out.heap HK5.out (fun h => h))
   replace HTcR := Lib.hid (HTcR.out.only HO.out (fun _ h => h.elim))
   clear HO
   go_wp2_with fail
   go_wp2_with fail
   refine (name_any HR.out).mono ?_
   rintro e w4 ⟨nm, m4, rfl, hnm, hr, ho, hm⟩
   have hle4 : m4 ≤ go := by omega
   have HM4 := Lib.hid hm
   clear hm
   replace HR := Lib.hid hr
   have HOx := Lib.hid ho
   have hs4 := HOx.out.size
   clear hr ho
   replace HW : Hid (OnlyB b w w4) := Lib.hid (HW.out.then_ HOx.out (fun _ _ h => h))
   replace HQ : Hid (OnlyB b wo w4) := Lib.hid (HQ.out.then_ HOx.out (fun _ _ h => h))
   replace HK5 := Lib.hid (HOx.out.heap HK5.out (by omega))
   replace HTcR := Lib.hid (HTcR.out.only HOx.out (fun i (h : i = b) => by omega))
   replace HK7 := Lib.hid (HOx.out.heap HK7.out (by omega))
   clear HOx
   go_wp2_with (refine wpl_cellC rfl 9 (.tmp 31) (.tmp 30) rfl b7 2 rfl (v := .string (bstr nm)) rfl Tryd.sizeOf9 rfl rfl HK7.out (new := (cellsI (⟨1, (at_x : Int), nm, [], cR, zRL, false, zEL, zEL, false, zSL, none, 0, 0, none, 0, 0, none, 0, 0, [], none, 0, 0, false, [], none, 0, 0⟩ : ItV))) (cI_nm (⟨1, (at_x : Int), [], [], cR, zRL, false, zEL, zEL, false, zSL, none, 0, 0, none, 0, 0, none, 0, 0, [], none, 0, 0, false, [], none, 0, 0⟩ : ItV) ⟨(lenR HTcR.out), rfl, rfl, rfl, rfl⟩ nm) ?_)
   clear HK7
   refine ⟨fun w5 HK7 ho5 => ?_⟩
   have hs5 := ho5.out.size
   replace HW : Hid (OnlyB b w w5) := Lib.hid (HW.out.then_ ho5.out (fun i hi (h : i = b7) => by omega))
   replace HQ : Hid (OnlyB b wo w5) := Lib.hid (HQ.out.then_ ho5.out (fun i hi (h : i = b7) => by omega))
   replace HR := Lib.hid (HR.out.only ho5.out (by omega))
   replace HK5 := Lib.hid (ho5.out.heap HK5.out (by omega))
   replace HTcR := Lib.hid (HTcR.out.only ho5.out (fun i (h : i = b7) => by omega))
   clear ho5
   go_wp2_with fail
   refine (is_any HR.out _).mono ?_
   rintro e w6 ⟨ib, rfl, hwe, hik⟩
   obtain rfl := hwe.symm
   clear hik
   cases ib with
   | true =>
    go_wp2_with fail
    refine (accept_any HR.out _).mono ?_
    rintro e w7 ⟨og, m7, rfl, hr, ho, hy, hn⟩
    replace HR := Lib.hid hr
    have HOx := Lib.hid ho
    have hs7 := HOx.out.size
    clear hr ho
    replace HW : Hid (OnlyB b w w7) := Lib.hid (HW.out.then_ HOx.out (fun _ _ h => h))
    replace HQ : Hid (OnlyB b wo w7) := Lib.hid (HQ.out.then_ HOx.out (fun _ _ h => h))
    replace HK5 := Lib.hid (HOx.out.heap HK5.out (by omega))
    replace HTcR := Lib.hid (HTcR.out.only HOx.out (fun i (h : i = b) => by omega))
    replace HK7 := Lib.hid (HOx.out.heap HK7.out (by omega))
    clear HOx
    cases og with
    | false =>
     obtain rfl : m7 = m4 := hn rfl
     clear hy hn
     go_wp2_with (refine wpl_alloc rfl 56 rfl (some 10) rfl Tryd.zeroValue56 ?_)
     refine ⟨fun w8 b10 HK10 ho8 ha10 hb10 => ?_⟩
     have hs8 := ho8.out.size
     replace HW : Hid (OnlyB b w w8) := Lib.hid (HW.out.then_ ho8.out (fun _ _ h => h.elim))
     replace HQ : Hid (OnlyB b wo w8) := Lib.hid (HQ.out.then_ ho8.out (fun _ _ h => h.elim))
     replace HR := Lib.hid (HR.out.only ho8.out (fun h => h))
     replace HK5 := Lib.hid (ho8.out.heap HK5.out (fun h => h))
     replace HTcR := Lib.hid (HTcR.out.only ho8.out (fun _ h => h.elim))
     replace HK7 := Lib.hid (ho8.out.heap HK7.out (fun h => h))
     clear ho8
     obtain ⟨zq, hzq⟩ : ∃ x, x = w8.heap.size := ⟨_, rfl⟩
     have hzq2 : zq ≤ w8.heap.size := by omega
     have hzq3 : w8.heap.size ≤ zq := by omega
     clear hzq
     have HTI : Hid (TrP FI (fun x => (w.heap.size ≤ x ∧ x < w1.heap.size) ∨ (wo.heap.size ≤ x ∧ x < zq)) w8 (cellsI (⟨1, (at_x : Int), nm, [], cR, zRL, false, zEL, zEL, false, zSL, none, 0, 0, none, 0, 0, none, 0, 0, [], none, 0, 0, false, [], none, 0, 0⟩ : ItV)) ([119, 105, 114, 101, 32] ++ spanT r ++ nm ++ [59, 10])) := Lib.hid (tri_mk (x := (⟨1, (at_x : Int), nm, [], cR, zRL, false, zEL, zEL, false, zSL, none, 0, 0, none, 0, 0, none, 0, 0, [], none, 0, 0, false, [], none, 0, 0⟩ : ItV)) (r := r) (wd := (false, [123, 125], [123, 125])) (tV := ([123, 125], 0)) (tG := ([123, 125], 0)) (tB := []) ⟨(show (1 : Int) ≤ 1 ∧ (1 : Int) ≤ 9 by omega), (show nm.length ≤ 100000 by omega), (by simp), (by simp), (by simp), (fun h => by cases h), (fun h => by have h9 : (1 : Int) = 8 := h; omega), okB_zero⟩ (HTcR.out.imp (fun x _ hx => .inl hx)) trr_zero tre_zero tre_zero (fun h => by have h9 : (1 : Int) = 6 := h; omega) (LfP.nil (T := (fun _ => (([], false, []) : BiT)))) (LfP.nil (T := (fun _ => (([], false, []) : BiT)))) (LfP.nil (T := (fun _ => ([], 0)))) (LfP.nil (T := fun _ => ([] : LB))) (LfP.nil (T := fun _ => ([] : LB))) (show 0 ≤ 3000000 ∧ 0 ≤ 3000000 ∧ 0 ≤ 3000000 ∧ 0 ≤ 3000000 ∧ 0 ≤ 3000000 by omega))
     obtain ⟨tx, htx⟩ : ∃ t : LB, t = ([119, 105, 114, 101, 32] ++ spanT r ++ nm ++ [59, 10]) := ⟨_, rfl⟩
     rw [← htx] at HTI
     have HTL : Hid (tx.length = (([119, 105, 114, 101, 32] ++ spanT r ++ nm ++ [59, 10])).length) := Lib.hid (by rw [htx])
     clear htx
     obtain ⟨cI, hcI⟩ : ∃ c, c = (cellsI (⟨1, (at_x : Int), nm, [], cR, zRL, false, zEL, zEL, false, zSL, none, 0, 0, none, 0, 0, none, 0, 0, [], none, 0, 0, false, [], none, 0, 0⟩ : ItV)) := ⟨_, rfl⟩
     rw [← hcI] at HTI HK7
     have HCI := Lib.hid hcI
     clear hcI
     have HALT := Lib.hid HL0.out.lt
     go_wp2_with (first | (refine wpl_load rfl 75 (.tmp 7) rfl b7 rfl HK7.out stI (by simp [(lenI HTI.out).1]) ?_) | (refine wpl_slice rfl 38 75 1 _ rfl (some 56) rfl Tryd.underlying38 cI.toArray (built65 (lenI HTI.out).1) ?_))
     refine ⟨fun w9 b56 HK56 ho9 ha56 hb56 => ?_⟩
     have hs9 := ho9.out.size
     replace HW : Hid (OnlyB b w w9) := Lib.hid (HW.out.then_ ho9.out (fun _ _ h => h.elim))
     replace HQ : Hid (OnlyB b wo w9) := Lib.hid (HQ.out.then_ ho9.out (fun _ _ h => h.elim))
     replace HR := Lib.hid (HR.out.only ho9.out (fun h => h))
     replace HK5 := Lib.hid (ho9.out.heap HK5.out (fun h => h))
     replace HTcR := Lib.hid (HTcR.out.only ho9.out (fun _ h => h.elim))
     replace HK7 := Lib.hid (ho9.out.heap HK7.out (fun h => h))
     replace HK10 := Lib.hid (ho9.out.heap HK10.out (fun h => h))
     replace HTI := Lib.hid (HTI.out.only ho9.out (fun _ _ h => h))
     clear ho9
     have HL := Lib.hid (HL0.out.only HQ.out (fun i hi (h : i = b) => by omega))
     clear HQ HL0
     go_wp2_with (refine wpl_pushP rfl (.tmp 54) (.tmp 56) 38 rfl elI rfl HL.out rfl HK56.out (lenI HTI.out).1 (lenI HTI.out).2 HTI.out w2.heap.size HAL.out (by omega) (fun x hx => ⟨by omega, by omega, fun hx2 => by have := HAL.out x hx2; have := HALT.out x hx2; omega⟩) (by omega) (by omega) (by omega) ?_)
     refine ⟨fun A1 c1n w10 HLn ho10 HAn HAb => ?_⟩
     have hs10 := ho10.out.size
     clear HL HTI HK56
     replace HW : Hid (OnlyB b w w10) := Lib.hid (HW.out.then_ ho10.out (fun i hi h => by have := HAL.out _ h; have := HALT.out _ h; omega))
     replace HR := Lib.hid (HR.out.only ho10.out (fun h => by have := HAL.out _ h; have := HALT.out _ h; omega))
     replace HK5 := Lib.hid (ho10.out.heap HK5.out (fun h => by have := HAL.out _ h; have := HALT.out _ h; omega))
     replace HTcR := Lib.hid (HTcR.out.only ho10.out (fun i h => by have := HAL.out _ h; have := HALT.out _ h; omega))
     replace HK7 := Lib.hid (ho10.out.heap HK7.out (fun h => by have := HAL.out _ h; have := HALT.out _ h; omega))
     replace HK10 := Lib.hid (ho10.out.heap HK10.out (fun h => by have := HAL.out _ h; have := HALT.out _ h; omega))
     clear ho10
     clear HK7
     clear HK10
     have HL := HLn
     have HAL2 := HAn
     clear HLn HAn HAb HALT
     go_wp2_with fail
     go_wp2_with fail
     refine (accept_any HR.out _).mono ?_
     rintro e w11 ⟨om, m11, rfl, hr, ho, hy, hn⟩
     replace HR := Lib.hid hr
     have HOx := Lib.hid ho
     have hs11 := HOx.out.size
     clear hr ho
     replace HW : Hid (OnlyB b w w11) := Lib.hid (HW.out.then_ HOx.out (fun _ _ h => h))
     replace HK5 := Lib.hid (HOx.out.heap HK5.out (by omega))
     replace HTcR := Lib.hid (HTcR.out.only HOx.out (fun i (h : i = b) => by omega))
     replace HL := Lib.hid (HL.out.only HOx.out (fun i hi (h : i = b) => by omega))
     clear HOx
     cases om with
     | false =>
      have HME := Lib.hid (hn rfl)
      clear hy hn
      go_wp2_with fail
      refine (must_any HR.out _).mono ?_
      rintro e w12 ⟨rfl, m12, hr, ho, hm⟩
      have hle12 : m12 ≤ m11 := by omega
      have HM12 := Lib.hid hm
      clear hm
      replace HR := Lib.hid hr
      have HOx := Lib.hid ho
      have hs12 := HOx.out.size
      clear hr ho
      replace HW : Hid (OnlyB b w w12) := Lib.hid (HW.out.then_ HOx.out (fun _ _ h => h))
      replace HK5 := Lib.hid (HOx.out.heap HK5.out (by omega))
      replace HTcR := Lib.hid (HTcR.out.only HOx.out (fun i (h : i = b) => by omega))
      replace HL := Lib.hid (HL.out.only HOx.out (fun i hi (h : i = b) => by omega))
      clear HOx
      go_wp2_with fail
      go_ret
      exact ⟨A1, (n + 1), c1n, _, m12, rfl, HR.out, HW.out, HL.out.done.wide (by omega) (by omega), by have := HM4.out; have := HME.out; omega, by have := HTX.out; have := HSP2.out; have := HM4.out; have := HME.out; have := HM12.out; have h9 := @catL_snoc_len T n tx; have h7 := HTL.out; simp only [KK, List.length_append, List.length_cons, List.length_nil] at *; omega⟩
     | true =>
      obtain ⟨hp11, hl11⟩ := hy rfl
      clear hy hn
      go_wp2_with fail
      have hlt9 : m11 < go := by have := HM4.out; omega
      go_roundg m11
      case measure => omega
      case rel => exact ⟨A1, (n + 1), c1n, _, rfl, by omega, Lib.hid ⟨HR.out, HW.out, HK5.out, HTcR.out, HL.out, HAL2.out, by omega, by have := HTX.out; have := HSP2.out; have := HM4.out; have h9 := @catL_snoc_len T n tx; have h7 := HTL.out; simp only [KK, List.length_append, List.length_cons, List.length_nil] at *; omega, by omega⟩⟩
    | true =>
     obtain ⟨hp7, hl7⟩ := hy rfl
     clear hy hn
     go_wp2_with (refine wpl_alloc rfl 56 rfl (some 10) rfl Tryd.zeroValue56 ?_)
     refine ⟨fun w8 b10 HK10 ho8 ha10 hb10 => ?_⟩
     have hs8 := ho8.out.size
     replace HW : Hid (OnlyB b w w8) := Lib.hid (HW.out.then_ ho8.out (fun _ _ h => h.elim))
     replace HQ : Hid (OnlyB b wo w8) := Lib.hid (HQ.out.then_ ho8.out (fun _ _ h => h.elim))
     replace HR := Lib.hid (HR.out.only ho8.out (fun h => h))
     replace HK5 := Lib.hid (ho8.out.heap HK5.out (fun h => h))
     replace HTcR := Lib.hid (HTcR.out.only ho8.out (fun _ h => h.elim))
     replace HK7 := Lib.hid (ho8.out.heap HK7.out (fun h => h))
     clear ho8
     go_wp2_with fail
     refine (expr_any HR.out).mono ?_
     rintro e w9 ⟨c1, t1, kd9, m9, rfl, hr, ho, ht, hm⟩
     have hle9 : m9 ≤ m7 := by omega
     have HM9 := Lib.hid hm
     have HTc1 := Lib.hid ht
     clear hm ht
     replace HR := Lib.hid hr
     have HOx := Lib.hid ho
     have hs9 := HOx.out.size
     clear hr ho
     replace HW : Hid (OnlyB b w w9) := Lib.hid (HW.out.then_ HOx.out (fun _ _ h => h))
     replace HQ : Hid (OnlyB b wo w9) := Lib.hid (HQ.out.then_ HOx.out (fun _ _ h => h))
     replace HK5 := Lib.hid (HOx.out.heap HK5.out (by omega))
     replace HTcR := Lib.hid (HTcR.out.only HOx.out (fun i (h : i = b) => by omega))
     replace HK7 := Lib.hid (HOx.out.heap HK7.out (by omega))
     replace HK10 := Lib.hid (HOx.out.heap HK10.out (by omega))
     clear HOx
     go_wp2_with (refine wpl_store rfl 56 (.tmp 10) (.tmp 46) rfl b10 rfl (cells := c1.toArray) rfl HK10.out stE HTc1.out.size rfl HTc1.out.ones ?_)
     clear HK10
     refine ⟨fun w10 HK10 ho10 => ?_⟩
     have hs10 := ho10.out.size
     replace HW : Hid (OnlyB b w w10) := Lib.hid (HW.out.then_ ho10.out (fun i hi (h : i = b10) => by omega))
     replace HQ : Hid (OnlyB b wo w10) := Lib.hid (HQ.out.then_ ho10.out (fun i hi (h : i = b10) => by omega))
     replace HR := Lib.hid (HR.out.only ho10.out (by omega))
     replace HK5 := Lib.hid (ho10.out.heap HK5.out (by omega))
     replace HTcR := Lib.hid (HTcR.out.only ho10.out (fun i (h : i = b10) => by omega))
     replace HK7 := Lib.hid (ho10.out.heap HK7.out (by omega))
     replace HTc1 := Lib.hid (HTc1.out.only ho10.out (fun i (h : i = b10) => by omega))
     clear ho10
     obtain ⟨zq, hzq⟩ : ∃ x, x = w10.heap.size := ⟨_, rfl⟩
     have hzq2 : zq ≤ w10.heap.size := by omega
     have hzq3 : w10.heap.size ≤ zq := by omega
     clear hzq
     have HTI : Hid (TrP FI (fun x => (w.heap.size ≤ x ∧ x < w1.heap.size) ∨ (wo.heap.size ≤ x ∧ x < zq)) w10 (cellsI (⟨1, (at_x : Int), nm, [], cR, zRL, false, zEL, zEL, false, zSL, none, 0, 0, none, 0, 0, none, 0, 0, [], none, 0, 0, false, [], none, 0, 0⟩ : ItV)) ([119, 105, 114, 101, 32] ++ spanT r ++ nm ++ [59, 10])) := Lib.hid (tri_mk (x := (⟨1, (at_x : Int), nm, [], cR, zRL, false, zEL, zEL, false, zSL, none, 0, 0, none, 0, 0, none, 0, 0, [], none, 0, 0, false, [], none, 0, 0⟩ : ItV)) (r := r) (wd := (false, [123, 125], [123, 125])) (tV := ([123, 125], 0)) (tG := ([123, 125], 0)) (tB := []) ⟨(show (1 : Int) ≤ 1 ∧ (1 : Int) ≤ 9 by omega), (show nm.length ≤ 100000 by omega), (by simp), (by simp), (by simp), (fun h => by cases h), (fun h => by have h9 : (1 : Int) = 8 := h; omega), okB_zero⟩ (HTcR.out.imp (fun x _ hx => .inl hx)) trr_zero tre_zero tre_zero (fun h => by have h9 : (1 : Int) = 6 := h; omega) (LfP.nil (T := (fun _ => (([], false, []) : BiT)))) (LfP.nil (T := (fun _ => (([], false, []) : BiT)))) (LfP.nil (T := (fun _ => ([], 0)))) (LfP.nil (T := fun _ => ([] : LB))) (LfP.nil (T := fun _ => ([] : LB))) (show 0 ≤ 3000000 ∧ 0 ≤ 3000000 ∧ 0 ≤ 3000000 ∧ 0 ≤ 3000000 ∧ 0 ≤ 3000000 by omega))
     obtain ⟨tx, htx⟩ : ∃ t : LB, t = ([119, 105, 114, 101, 32] ++ spanT r ++ nm ++ [59, 10]) := ⟨_, rfl⟩
     rw [← htx] at HTI
     have HTL : Hid (tx.length = (([119, 105, 114, 101, 32] ++ spanT r ++ nm ++ [59, 10])).length) := Lib.hid (by rw [htx])
     clear htx
     obtain ⟨cI, hcI⟩ : ∃ c, c = (cellsI (⟨1, (at_x : Int), nm, [], cR, zRL, false, zEL, zEL, false, zSL, none, 0, 0, none, 0, 0, none, 0, 0, [], none, 0, 0, false, [], none, 0, 0⟩ : ItV)) := ⟨_, rfl⟩
     rw [← hcI] at HTI HK7
     have HCI := Lib.hid hcI
     clear hcI
     have HALT := Lib.hid HL0.out.lt
     go_wp2_with (first | (refine wpl_load rfl 75 (.tmp 7) rfl b7 rfl HK7.out stI (by simp [(lenI HTI.out).1]) ?_) | (refine wpl_slice rfl 38 75 1 _ rfl (some 56) rfl Tryd.underlying38 cI.toArray (built65 (lenI HTI.out).1) ?_))
     refine ⟨fun w11 b56 HK56 ho11 ha56 hb56 => ?_⟩
     have hs11 := ho11.out.size
     replace HW : Hid (OnlyB b w w11) := Lib.hid (HW.out.then_ ho11.out (fun _ _ h => h.elim))
     replace HQ : Hid (OnlyB b wo w11) := Lib.hid (HQ.out.then_ ho11.out (fun _ _ h => h.elim))
     replace HR := Lib.hid (HR.out.only ho11.out (fun h => h))
     replace HK5 := Lib.hid (ho11.out.heap HK5.out (fun h => h))
     replace HTcR := Lib.hid (HTcR.out.only ho11.out (fun _ h => h.elim))
     replace HK7 := Lib.hid (ho11.out.heap HK7.out (fun h => h))
     replace HK10 := Lib.hid (ho11.out.heap HK10.out (fun h => h))
     replace HTc1 := Lib.hid (HTc1.out.only ho11.out (fun _ h => h.elim))
     replace HTI := Lib.hid (HTI.out.only ho11.out (fun _ _ h => h))
     clear ho11
     have HL := Lib.hid (HL0.out.only HQ.out (fun i hi (h : i = b) => by omega))
     clear HQ HL0
     go_wp2_with (refine wpl_pushP rfl (.tmp 54) (.tmp 56) 38 rfl elI rfl HL.out rfl HK56.out (lenI HTI.out).1 (lenI HTI.out).2 HTI.out w2.heap.size HAL.out (by omega) (fun x hx => ⟨by omega, by omega, fun hx2 => by have := HAL.out x hx2; have := HALT.out x hx2; omega⟩) (by omega) (by omega) (by omega) ?_)
     refine ⟨fun A1 c1n w12 HLn ho12 HAn HAb => ?_⟩
     have hs12 := ho12.out.size
     clear HL HTI HK56
     replace HW : Hid (OnlyB b w w12) := Lib.hid (HW.out.then_ ho12.out (fun i hi h => by have := HAL.out _ h; have := HALT.out _ h; omega))
     replace HR := Lib.hid (HR.out.only ho12.out (fun h => by have := HAL.out _ h; have := HALT.out _ h; omega))
     replace HK5 := Lib.hid (ho12.out.heap HK5.out (fun h => by have := HAL.out _ h; have := HALT.out _ h; omega))
     replace HTcR := Lib.hid (HTcR.out.only ho12.out (fun i h => by have := HAL.out _ h; have := HALT.out _ h; omega))
     replace HK7 := Lib.hid (ho12.out.heap HK7.out (fun h => by have := HAL.out _ h; have := HALT.out _ h; omega))
     replace HK10 := Lib.hid (ho12.out.heap HK10.out (fun h => by have := HAL.out _ h; have := HALT.out _ h; omega))
     replace HTc1 := Lib.hid (HTc1.out.only ho12.out (fun i h => by have := HAL.out _ h; have := HALT.out _ h; omega))
     clear ho12
     rw [HCI.out] at HK7
     have HL := HLn
     have HAL2 := HAn
     have HAB := HAb
     clear HLn HAn HAb
     obtain ⟨x1, v1⟩ : w12.cell? ⟨b7, 1, none⟩ = some (.int .i64 (at_x : Int)) ∧ w12.frozen? ⟨b7, 1, none⟩ = false := cell_at HK7.out rfl
     obtain ⟨x2, v2⟩ : w12.cell? ⟨b7, 2, none⟩ = some (.string (bstr nm)) ∧ w12.frozen? ⟨b7, 2, none⟩ = false := cell_at HK7.out rfl
     have HTJ : Hid (TrP FI (fun x => wo.heap.size ≤ x ∧ x < zq) w12 (cellsI (⟨5, (at_x : Int), [], [], zRL, zRL, false, c1, (cellsE 2 (at_x : Int) 0 0 0 nm none 0 0), false, zSL, none, 0, 0, none, 0, 0, none, 0, 0, [], none, 0, 0, false, [], none, 0, 0⟩ : ItV)) ([97, 115, 115, 105, 103, 110, 32] ++ nm ++ [32, 61, 32] ++ t1 ++ [59, 10])) := Lib.hid (tri_mk (x := (⟨5, (at_x : Int), [], [], zRL, zRL, false, c1, (cellsE 2 (at_x : Int) 0 0 0 nm none 0 0), false, zSL, none, 0, 0, none, 0, 0, none, 0, 0, [], none, 0, 0, false, [], none, 0, 0⟩ : ItV)) (r := (false, [123, 125], [123, 125])) (wd := (false, [123, 125], [123, 125])) (tV := (t1, kd9)) (tG := (nm, 2)) (tB := []) ⟨(show (1 : Int) ≤ 5 ∧ (5 : Int) ≤ 9 by omega), (by simp), (by simp), (by simp), (by simp), (fun h => by cases h), (fun h => by have h9 : (5 : Int) = 8 := h; omega), okB_zero⟩ trr_zero trr_zero (HTc1.out.wide (by omega) (by omega)) (tre_name (by omega)) (fun h => by have h9 : (5 : Int) = 6 := h; omega) (LfP.nil (T := (fun _ => (([], false, []) : BiT)))) (LfP.nil (T := (fun _ => (([], false, []) : BiT)))) (LfP.nil (T := (fun _ => ([], 0)))) (LfP.nil (T := fun _ => ([] : LB))) (LfP.nil (T := fun _ => ([] : LB))) (show 0 ≤ 3000000 ∧ 0 ≤ 3000000 ∧ 0 ≤ 3000000 ∧ 0 ≤ 3000000 ∧ 0 ≤ 3000000 by omega))
     obtain ⟨ty, hty⟩ : ∃ t : LB, t = ([97, 115, 115, 105, 103, 110, 32] ++ nm ++ [32, 61, 32] ++ t1 ++ [59, 10]) := ⟨_, rfl⟩
     rw [← hty] at HTJ
     have HTL2 : Hid (ty.length = (([97, 115, 115, 105, 103, 110, 32] ++ nm ++ [32, 61, 32] ++ t1 ++ [59, 10])).length) := Lib.hid (by rw [hty])
     clear hty
     have hbn := built_asn HTc1.out.len (at_x : Int) (at_x : Int) nm
     obtain ⟨cJ, hcJ⟩ : ∃ c, c = (cellsI (⟨5, (at_x : Int), [], [], zRL, zRL, false, c1, (cellsE 2 (at_x : Int) 0 0 0 nm none 0 0), false, zSL, none, 0, 0, none, 0, 0, none, 0, 0, [], none, 0, 0, false, [], none, 0, 0⟩ : ItV)) := ⟨_, rfl⟩
     rw [← hcJ] at HTJ hbn
     have HBN := Lib.hid hbn
     clear hbn hcJ
     go_wp2_with (first | (refine wpl_load rfl 56 (.tmp 10) rfl b10 rfl HK10.out stE HTc1.out.size ?_) | (refine wpl_build rfl 75 [(0, .const (.int .i64 5)), (1, .tmp 65), (8, .tmp 70), (7, .tmp 71)] rfl (some 72) rfl cJ.toArray HBN.out ?_) | (refine wpl_slice rfl 38 75 1 _ rfl (some 73) rfl Tryd.underlying38 cJ.toArray (built65 (lenI HTJ.out).1) ?_))
     refine ⟨fun w13 b73 HK73 ho13 ha73 hb73 => ?_⟩
     have hs13 := ho13.out.size
     replace HW : Hid (OnlyB b w w13) := Lib.hid (HW.out.then_ ho13.out (fun _ _ h => h.elim))
     replace HR := Lib.hid (HR.out.only ho13.out (fun h => h))
     replace HK5 := Lib.hid (ho13.out.heap HK5.out (fun h => h))
     replace HTcR := Lib.hid (HTcR.out.only ho13.out (fun _ h => h.elim))
     replace HK7 := Lib.hid (ho13.out.heap HK7.out (fun h => h))
     replace HK10 := Lib.hid (ho13.out.heap HK10.out (fun h => h))
     replace HTc1 := Lib.hid (HTc1.out.only ho13.out (fun _ h => h.elim))
     replace HL := Lib.hid (HL.out.only ho13.out (fun _ _ h => h.elim))
     replace HTJ := Lib.hid (HTJ.out.only ho13.out (fun _ _ h => h))
     clear ho13
     clear x1 x2 v1 v2
     have HALT2 := Lib.hid HL.out.lt
     clear HK7
     clear HK10
     clear HTc1
     go_wp2_with (refine wpl_pushP rfl (.tmp 63) (.tmp 73) 38 rfl elI rfl HL.out rfl HK73.out (lenI HTJ.out).1 (lenI HTJ.out).2 HTJ.out w2.heap.size HAL2.out (by omega) (fun x hx => ⟨by omega, by omega, fun hx2 => (HAB.out x hx2).elim (fun h8 => by have := HALT.out x h8; omega) (fun h8 => by omega)⟩) (by omega) (by omega) (by omega) ?_)
     refine ⟨fun A2 c2n w14 HLn ho14 HAn HAb => ?_⟩
     have hs14 := ho14.out.size
     clear HL HTJ HK73 HAL HALT HAB
     have HAL := HAL2
     have HALT := HALT2
     clear HAL2 HALT2
     replace HW : Hid (OnlyB b w w14) := Lib.hid (HW.out.then_ ho14.out (fun i hi h => by have := HAL.out _ h; have := HALT.out _ h; omega))
     replace HR := Lib.hid (HR.out.only ho14.out (fun h => by have := HAL.out _ h; have := HALT.out _ h; omega))
     replace HK5 := Lib.hid (ho14.out.heap HK5.out (fun h => by have := HAL.out _ h; have := HALT.out _ h; omega))
     replace HTcR := Lib.hid (HTcR.out.only ho14.out (fun i h => by have := HAL.out _ h; have := HALT.out _ h; omega))
     clear ho14
     have HL := HLn
     have HAL2 := HAn
     clear HLn HAn HAb HALT
     go_wp2_with fail
     go_wp2_with fail
     refine (accept_any HR.out _).mono ?_
     rintro e w15 ⟨om, m15, rfl, hr, ho, hy, hn⟩
     replace HR := Lib.hid hr
     have HOx := Lib.hid ho
     have hs15 := HOx.out.size
     clear hr ho
     replace HW : Hid (OnlyB b w w15) := Lib.hid (HW.out.then_ HOx.out (fun _ _ h => h))
     replace HK5 := Lib.hid (HOx.out.heap HK5.out (by omega))
     replace HTcR := Lib.hid (HTcR.out.only HOx.out (fun i (h : i = b) => by omega))
     replace HL := Lib.hid (HL.out.only HOx.out (fun i hi (h : i = b) => by omega))
     clear HOx
     cases om with
     | false =>
      have HME := Lib.hid (hn rfl)
      clear hy hn
      go_wp2_with fail
      refine (must_any HR.out _).mono ?_
      rintro e w16 ⟨rfl, m16, hr, ho, hm⟩
      have hle16 : m16 ≤ m15 := by omega
      have HM16 := Lib.hid hm
      clear hm
      replace HR := Lib.hid hr
      have HOx := Lib.hid ho
      have hs16 := HOx.out.size
      clear hr ho
      replace HW : Hid (OnlyB b w w16) := Lib.hid (HW.out.then_ HOx.out (fun _ _ h => h))
      replace HK5 := Lib.hid (HOx.out.heap HK5.out (by omega))
      replace HTcR := Lib.hid (HTcR.out.only HOx.out (fun i (h : i = b) => by omega))
      replace HL := Lib.hid (HL.out.only HOx.out (fun i hi (h : i = b) => by omega))
      clear HOx
      go_wp2_with fail
      go_ret
      exact ⟨A2, (n + 1 + 1), c2n, _, m16, rfl, HR.out, HW.out, HL.out.done.wide (by omega) (by omega), by have := HM4.out; have := HME.out; omega, by have := HTX.out; have := HSP2.out; have := HM4.out; have := HME.out; have := HM16.out; have := HM9.out; have h9 := @catL_snoc_len T n tx; have h8 := @catL_snoc_len (snocF T n tx) (n + 1) ty; have h7 := HTL.out; have h6 := HTL2.out; simp only [KK, List.length_append, List.length_cons, List.length_nil] at *; omega⟩
     | true =>
      obtain ⟨hp15, hl15⟩ := hy rfl
      clear hy hn
      go_wp2_with fail
      have hlt9 : m15 < go := by have := HM4.out; omega
      go_roundg m15
      case measure => omega
      case rel => exact ⟨A2, (n + 1 + 1), c2n, _, rfl, by omega, Lib.hid ⟨HR.out, HW.out, HK5.out, HTcR.out, HL.out, HAL2.out, by omega, by have := HTX.out; have := HSP2.out; have := HM4.out; have := HM9.out; have h9 := @catL_snoc_len T n tx; have h8 := @catL_snoc_len (snocF T n tx) (n + 1) ty; have h7 := HTL.out; have h6 := HTL2.out; simp only [KK, List.length_append, List.length_cons, List.length_nil] at *; omega, by omega⟩⟩
   | false =>
    go_wp2_with fail
    refine (accept_any HR.out _).mono ?_
    rintro e w7 ⟨og, m7, rfl, hr, ho, hy, hn⟩
    replace HR := Lib.hid hr
    have HOx := Lib.hid ho
    have hs7 := HOx.out.size
    clear hr ho
    replace HW : Hid (OnlyB b w w7) := Lib.hid (HW.out.then_ HOx.out (fun _ _ h => h))
    replace HQ : Hid (OnlyB b wo w7) := Lib.hid (HQ.out.then_ HOx.out (fun _ _ h => h))
    replace HK5 := Lib.hid (HOx.out.heap HK5.out (by omega))
    replace HTcR := Lib.hid (HTcR.out.only HOx.out (fun i (h : i = b) => by omega))
    replace HK7 := Lib.hid (HOx.out.heap HK7.out (by omega))
    clear HOx
    cases og with
    | false =>
     obtain rfl : m7 = m4 := hn rfl
     clear hy hn
     go_wp2_with (refine wpl_alloc rfl 56 rfl (some 10) rfl Tryd.zeroValue56 ?_)
     refine ⟨fun w8 b10 HK10 ho8 ha10 hb10 => ?_⟩
     have hs8 := ho8.out.size
     replace HW : Hid (OnlyB b w w8) := Lib.hid (HW.out.then_ ho8.out (fun _ _ h => h.elim))
     replace HQ : Hid (OnlyB b wo w8) := Lib.hid (HQ.out.then_ ho8.out (fun _ _ h => h.elim))
     replace HR := Lib.hid (HR.out.only ho8.out (fun h => h))
     replace HK5 := Lib.hid (ho8.out.heap HK5.out (fun h => h))
     replace HTcR := Lib.hid (HTcR.out.only ho8.out (fun _ h => h.elim))
     replace HK7 := Lib.hid (ho8.out.heap HK7.out (fun h => h))
     clear ho8
     obtain ⟨zq, hzq⟩ : ∃ x, x = w8.heap.size := ⟨_, rfl⟩
     have hzq2 : zq ≤ w8.heap.size := by omega
     have hzq3 : w8.heap.size ≤ zq := by omega
     clear hzq
     have HTI : Hid (TrP FI (fun x => (w.heap.size ≤ x ∧ x < w1.heap.size) ∨ (wo.heap.size ≤ x ∧ x < zq)) w8 (cellsI (⟨1, (at_x : Int), nm, [], cR, zRL, false, zEL, zEL, false, zSL, none, 0, 0, none, 0, 0, none, 0, 0, [], none, 0, 0, false, [], none, 0, 0⟩ : ItV)) ([119, 105, 114, 101, 32] ++ spanT r ++ nm ++ [59, 10])) := Lib.hid (tri_mk (x := (⟨1, (at_x : Int), nm, [], cR, zRL, false, zEL, zEL, false, zSL, none, 0, 0, none, 0, 0, none, 0, 0, [], none, 0, 0, false, [], none, 0, 0⟩ : ItV)) (r := r) (wd := (false, [123, 125], [123, 125])) (tV := ([123, 125], 0)) (tG := ([123, 125], 0)) (tB := []) ⟨(show (1 : Int) ≤ 1 ∧ (1 : Int) ≤ 9 by omega), (show nm.length ≤ 100000 by omega), (by simp), (by simp), (by simp), (fun h => by cases h), (fun h => by have h9 : (1 : Int) = 8 := h; omega), okB_zero⟩ (HTcR.out.imp (fun x _ hx => .inl hx)) trr_zero tre_zero tre_zero (fun h => by have h9 : (1 : Int) = 6 := h; omega) (LfP.nil (T := (fun _ => (([], false, []) : BiT)))) (LfP.nil (T := (fun _ => (([], false, []) : BiT)))) (LfP.nil (T := (fun _ => ([], 0)))) (LfP.nil (T := fun _ => ([] : LB))) (LfP.nil (T := fun _ => ([] : LB))) (show 0 ≤ 3000000 ∧ 0 ≤ 3000000 ∧ 0 ≤ 3000000 ∧ 0 ≤ 3000000 ∧ 0 ≤ 3000000 by omega))
     obtain ⟨tx, htx⟩ : ∃ t : LB, t = ([119, 105, 114, 101, 32] ++ spanT r ++ nm ++ [59, 10]) := ⟨_, rfl⟩
     rw [← htx] at HTI
     have HTL : Hid (tx.length = (([119, 105, 114, 101, 32] ++ spanT r ++ nm ++ [59, 10])).length) := Lib.hid (by rw [htx])
     clear htx
     obtain ⟨cI, hcI⟩ : ∃ c, c = (cellsI (⟨1, (at_x : Int), nm, [], cR, zRL, false, zEL, zEL, false, zSL, none, 0, 0, none, 0, 0, none, 0, 0, [], none, 0, 0, false, [], none, 0, 0⟩ : ItV)) := ⟨_, rfl⟩
     rw [← hcI] at HTI HK7
     have HCI := Lib.hid hcI
     clear hcI
     have HALT := Lib.hid HL0.out.lt
     go_wp2_with (first | (refine wpl_load rfl 75 (.tmp 7) rfl b7 rfl HK7.out stI (by simp [(lenI HTI.out).1]) ?_) | (refine wpl_slice rfl 38 75 1 _ rfl (some 56) rfl Tryd.underlying38 cI.toArray (built65 (lenI HTI.out).1) ?_))
     refine ⟨fun w9 b56 HK56 ho9 ha56 hb56 => ?_⟩
     have hs9 := ho9.out.size
     replace HW : Hid (OnlyB b w w9) := Lib.hid (HW.out.then_ ho9.out (fun _ _ h => h.elim))
     replace HQ : Hid (OnlyB b wo w9) := Lib.hid (HQ.out.then_ ho9.out (fun _ _ h => h.elim))
     replace HR := Lib.hid (HR.out.only ho9.out (fun h => h))
     replace HK5 := Lib.hid (ho9.out.heap HK5.out (fun h => h))
     replace HTcR := Lib.hid (HTcR.out.only ho9.out (fun _ h => h.elim))
     replace HK7 := Lib.hid (ho9.out.heap HK7.out (fun h => h))
     replace HK10 := Lib.hid (ho9.out.heap HK10.out (fun h => h))
     replace HTI := Lib.hid (HTI.out.only ho9.out (fun _ _ h => h))
     clear ho9
     have HL := Lib.hid (HL0.out.only HQ.out (fun i hi (h : i = b) => by omega))
     clear HQ HL0
     go_wp2_with (refine wpl_pushP rfl (.tmp 54) (.tmp 56) 38 rfl elI rfl HL.out rfl HK56.out (lenI HTI.out).1 (lenI HTI.out).2 HTI.out w2.heap.size HAL.out (by omega) (fun x hx => ⟨by omega, by omega, fun hx2 => by have := HAL.out x hx2; have := HALT.out x hx2; omega⟩) (by omega) (by omega) (by omega) ?_)
     refine ⟨fun A1 c1n w10 HLn ho10 HAn HAb => ?_⟩
     have hs10 := ho10.out.size
     clear HL HTI HK56
     replace HW : Hid (OnlyB b w w10) := Lib.hid (HW.out.then_ ho10.out (fun i hi h => by have := HAL.out _ h; have := HALT.out _ h; omega))
     replace HR := Lib.hid (HR.out.only ho10.out (fun h => by have := HAL.out _ h; have := HALT.out _ h; omega))
     replace HK5 := Lib.hid (ho10.out.heap HK5.out (fun h => by have := HAL.out _ h; have := HALT.out _ h; omega))
     replace HTcR := Lib.hid (HTcR.out.only ho10.out (fun i h => by have := HAL.out _ h; have := HALT.out _ h; omega))
     replace HK7 := Lib.hid (ho10.out.heap HK7.out (fun h => by have := HAL.out _ h; have := HALT.out _ h; omega))
     replace HK10 := Lib.hid (ho10.out.heap HK10.out (fun h => by have := HAL.out _ h; have := HALT.out _ h; omega))
     clear ho10
     clear HK7
     clear HK10
     have HL := HLn
     have HAL2 := HAn
     clear HLn HAn HAb HALT
     go_wp2_with fail
     go_wp2_with fail
     refine (accept_any HR.out _).mono ?_
     rintro e w11 ⟨om, m11, rfl, hr, ho, hy, hn⟩
     replace HR := Lib.hid hr
     have HOx := Lib.hid ho
     have hs11 := HOx.out.size
     clear hr ho
     replace HW : Hid (OnlyB b w w11) := Lib.hid (HW.out.then_ HOx.out (fun _ _ h => h))
     replace HK5 := Lib.hid (HOx.out.heap HK5.out (by omega))
     replace HTcR := Lib.hid (HTcR.out.only HOx.out (fun i (h : i = b) => by omega))
     replace HL := Lib.hid (HL.out.only HOx.out (fun i hi (h : i = b) => by omega))
     clear HOx
     cases om with
     | false =>
      have HME := Lib.hid (hn rfl)
      clear hy hn
      go_wp2_with fail
      refine (must_any HR.out _).mono ?_
      rintro e w12 ⟨rfl, m12, hr, ho, hm⟩
      have hle12 : m12 ≤ m11 := by omega
      have HM12 := Lib.hid hm
      clear hm
      replace HR := Lib.hid hr
      have HOx := Lib.hid ho
      have hs12 := HOx.out.size
      clear hr ho
      replace HW : Hid (OnlyB b w w12) := Lib.hid (HW.out.then_ HOx.out (fun _ _ h => h))
      replace HK5 := Lib.hid (HOx.out.heap HK5.out (by omega))
      replace HTcR := Lib.hid (HTcR.out.only HOx.out (fun i (h : i = b) => by omega))
      replace HL := Lib.hid (HL.out.only HOx.out (fun i hi (h : i = b) => by omega))
      clear HOx
      go_wp2_with fail
      go_ret
      exact ⟨A1, (n + 1), c1n, _, m12, rfl, HR.out, HW.out, HL.out.done.wide (by omega) (by omega), by have := HM4.out; have := HME.out; omega, by have := HTX.out; have := HSP2.out; have := HM4.out; have := HME.out; have := HM12.out; have h9 := @catL_snoc_len T n tx; have h7 := HTL.out; simp only [KK, List.length_append, List.length_cons, List.length_nil] at *; omega⟩
     | true =>
      obtain ⟨hp11, hl11⟩ := hy rfl
      clear hy hn
      go_wp2_with fail
      have hlt9 : m11 < go := by have := HM4.out; omega
      go_roundg m11
      case measure => omega
      case rel => exact ⟨A1, (n + 1), c1n, _, rfl, by omega, Lib.hid ⟨HR.out, HW.out, HK5.out, HTcR.out, HL.out, HAL2.out, by omega, by have := HTX.out; have := HSP2.out; have := HM4.out; have h9 := @catL_snoc_len T n tx; have h7 := HTL.out; simp only [KK, List.length_append, List.length_cons, List.length_nil] at *; omega, by omega⟩⟩
    | true =>
     obtain ⟨hp7, hl7⟩ := hy rfl
     clear hy hn
     go_wp2_with (refine wpl_alloc rfl 56 rfl (some 10) rfl Tryd.zeroValue56 ?_)
     refine ⟨fun w8 b10 HK10 ho8 ha10 hb10 => ?_⟩
     have hs8 := ho8.out.size
     replace HW : Hid (OnlyB b w w8) := Lib.hid (HW.out.then_ ho8.out (fun _ _ h => h.elim))
     replace HQ : Hid (OnlyB b wo w8) := Lib.hid (HQ.out.then_ ho8.out (fun _ _ h => h.elim))
     replace HR := Lib.hid (HR.out.only ho8.out (fun h => h))
     replace HK5 := Lib.hid (ho8.out.heap HK5.out (fun h => h))
     replace HTcR := Lib.hid (HTcR.out.only ho8.out (fun _ h => h.elim))
     replace HK7 := Lib.hid (ho8.out.heap HK7.out (fun h => h))
     clear ho8
     go_wp2_with fail
     refine (expr_any HR.out).mono ?_
     rintro e w9 ⟨c1, t1, kd9, m9, rfl, hr, ho, ht, hm⟩
     have hle9 : m9 ≤ m7 := by omega
     have HM9 := Lib.hid hm
     have HTc1 := Lib.hid ht
     clear hm ht
     replace HR := Lib.hid hr
     have HOx := Lib.hid ho
     have hs9 := HOx.out.size
     clear hr ho
     replace HW : Hid (OnlyB b w w9) := Lib.hid (HW.out.then_ HOx.out (fun _ _ h => h))
     replace HQ : Hid (OnlyB b wo w9) := Lib.hid (HQ.out.then_ HOx.out (fun _ _ h => h))
     replace HK5 := Lib.hid (HOx.out.heap HK5.out (by omega))
     replace HTcR := Lib.hid (HTcR.out.only HOx.out (fun i (h : i = b) => by omega))
     replace HK7 := Lib.hid (HOx.out.heap HK7.out (by omega))
     replace HK10 := Lib.hid (HOx.out.heap HK10.out (by omega))
     clear HOx
     go_wp2_with (refine wpl_store rfl 56 (.tmp 10) (.tmp 46) rfl b10 rfl (cells := c1.toArray) rfl HK10.out stE HTc1.out.size rfl HTc1.out.ones ?_)
     clear HK10
     refine ⟨fun w10 HK10 ho10 => ?_⟩
     have hs10 := ho10.out.size
     replace HW : Hid (OnlyB b w w10) := Lib.hid (HW.out.then_ ho10.out (fun i hi (h : i = b10) => by omega))
     replace HQ : Hid (OnlyB b wo w10) := Lib.hid (HQ.out.then_ ho10.out (fun i hi (h : i = b10) => by omega))
     replace HR := Lib.hid (HR.out.only ho10.out (by omega))
     replace HK5 := Lib.hid (ho10.out.heap HK5.out (by omega))
     replace HTcR := Lib.hid (HTcR.out.only ho10.out (fun i (h : i = b10) => by omega))
     replace HK7 := Lib.hid (ho10.out.heap HK7.out (by omega))
     replace HTc1 := Lib.hid (HTc1.out.only ho10.out (fun i (h : i = b10) => by omega))
     clear ho10
     obtain ⟨zq, hzq⟩ : ∃ x, x = w10.heap.size := ⟨_, rfl⟩
     have hzq2 : zq ≤ w10.heap.size := by omega
     have hzq3 : w10.heap.size ≤ zq := by omega
     clear hzq
     have HTI : Hid (TrP FI (fun x => (w.heap.size ≤ x ∧ x < w1.heap.size) ∨ (wo.heap.size ≤ x ∧ x < zq)) w10 (cellsI (⟨1, (at_x : Int), nm, [], cR, zRL, false, zEL, zEL, false, zSL, none, 0, 0, none, 0, 0, none, 0, 0, [], none, 0, 0, false, [], none, 0, 0⟩ : ItV)) ([119, 105, 114, 101, 32] ++ spanT r ++ nm ++ [59, 10])) := Lib.hid (tri_mk (x := (⟨1, (at_x : Int), nm, [], cR, zRL, false, zEL, zEL, false, zSL, none, 0, 0, none, 0, 0, none, 0, 0, [], none, 0, 0, false, [], none, 0, 0⟩ : ItV)) (r := r) (wd := (false, [123, 125], [123, 125])) (tV := ([123, 125], 0)) (tG := ([123, 125], 0)) (tB := []) ⟨(show (1 : Int) ≤ 1 ∧ (1 : Int) ≤ 9 by omega), (show nm.length ≤ 100000 by omega), (by simp), (by simp), (by simp), (fun h => by cases h), (fun h => by have h9 : (1 : Int) = 8 := h; omega), okB_zero⟩ (HTcR.out.imp (fun x _ hx => .inl hx)) trr_zero tre_zero tre_zero (fun h => by have h9 : (1 : Int) = 6 := h; omega) (LfP.nil (T := (fun _ => (([], false, []) : BiT)))) (LfP.nil (T := (fun _ => (([], false, []) : BiT)))) (LfP.nil (T := (fun _ => ([], 0)))) (LfP.nil (T := fun _ => ([] : LB))) (LfP.nil (T := fun _ => ([] : LB))) (show 0 ≤ 3000000 ∧ 0 ≤ 3000000 ∧ 0 ≤ 3000000 ∧ 0 ≤ 3000000 ∧ 0 ≤ 3000000 by omega))
     obtain ⟨tx, htx⟩ : ∃ t : LB, t = ([119, 105, 114, 101, 32] ++ spanT r ++ nm ++ [59, 10]) := ⟨_, rfl⟩
     rw [← htx] at HTI
     have HTL : Hid (tx.length = (([119, 105, 114, 101, 32] ++ spanT r ++ nm ++ [59, 10])).length) := Lib.hid (by rw [htx])
     clear htx
     obtain ⟨cI, hcI⟩ : ∃ c, c = (cellsI (⟨1, (at_x : Int), nm, [], cR, zRL, false, zEL, zEL, false, zSL, none, 0, 0, none, 0, 0, none, 0, 0, [], none, 0, 0, false, [], none, 0, 0⟩ : ItV)) := ⟨_, rfl⟩
     rw [← hcI] at HTI HK7
     have HCI := Lib.hid hcI
     clear hcI
     have HALT := Lib.hid HL0.out.lt
     go_wp2_with (first | (refine wpl_load rfl 75 (.tmp 7) rfl b7 rfl HK7.out stI (by simp [(lenI HTI.out).1]) ?_) | (refine wpl_slice rfl 38 75 1 _ rfl (some 56) rfl Tryd.underlying38 cI.toArray (built65 (lenI HTI.out).1) ?_))
     refine ⟨fun w11 b56 HK56 ho11 ha56 hb56 => ?_⟩
     have hs11 := ho11.out.size
     replace HW : Hid (OnlyB b w w11) := Lib.hid (HW.out.then_ ho11.out (fun _ _ h => h.elim))
     replace HQ : Hid (OnlyB b wo w11) := Lib.hid (HQ.out.then_ ho11.out (fun _ _ h => h.elim))
     replace HR := Lib.hid (HR.out.only ho11.out (fun h => h))
     replace HK5 := Lib.hid (ho11.out.heap HK5.out (fun h => h))
     replace HTcR := Lib.hid (HTcR.out.only ho11.out (fun _ h => h.elim))
     replace HK7 := Lib.hid (ho11.out.heap HK7.out (fun h => h))
     replace HK10 := Lib.hid (ho11.out.heap HK10.out (fun h => h))
     replace HTc1 := Lib.hid (HTc1.out.only ho11.out (fun _ h => h.elim))
     replace HTI := Lib.hid (HTI.out.only ho11.out (fun _ _ h => h))
     clear ho11
     have HL := Lib.hid (HL0.out.only HQ.out (fun i hi (h : i = b) => by omega))
     clear HQ HL0
     go_wp2_with (refine wpl_pushP rfl (.tmp 54) (.tmp 56) 38 rfl elI rfl HL.out rfl HK56.out (lenI HTI.out).1 (lenI HTI.out).2 HTI.out w2.heap.size HAL.out (by omega) (fun x hx => ⟨by omega, by omega, fun hx2 => by have := HAL.out x hx2; have := HALT.out x hx2; omega⟩) (by omega) (by omega) (by omega) ?_)
     refine ⟨fun A1 c1n w12 HLn ho12 HAn HAb => ?_⟩
     have hs12 := ho12.out.size
     clear HL HTI HK56
     replace HW : Hid (OnlyB b w w12) := Lib.hid (HW.out.then_ ho12.out (fun i hi h => by have := HAL.out _ h; have := HALT.out _ h; omega))
     replace HR := Lib.hid (HR.out.only ho12.out (fun h => by have := HAL.out _ h; have := HALT.out _ h; omega))
     replace HK5 := Lib.hid (ho12.out.heap HK5.out (fun h => by have := HAL.out _ h; have := HALT.out _ h; omega))
     replace HTcR := Lib.hid (HTcR.out.only ho12.out (fun i h => by have := HAL.out _ h; have := HALT.out _ h; omega))
     replace HK7 := Lib.hid (ho12.out.heap HK7.out (fun h => by have := HAL.out _ h; have := HALT.out _ h; omega))
     replace HK10 := Lib.hid (ho12.out.heap HK10.out (fun h => by have := HAL.out _ h; have := HALT.out _ h; omega))
     replace HTc1 := Lib.hid (HTc1.out.only ho12.out (fun i h => by have := HAL.out _ h; have := HALT.out _ h; omega))
     clear ho12
     rw [HCI.out] at HK7
     have HL := HLn
     have HAL2 := HAn
     have HAB := HAb
     clear HLn HAn HAb
     obtain ⟨x1, v1⟩ : w12.cell? ⟨b7, 1, none⟩ = some (.int .i64 (at_x : Int)) ∧ w12.frozen? ⟨b7, 1, none⟩ = false := cell_at HK7.out rfl
     obtain ⟨x2, v2⟩ : w12.cell? ⟨b7, 2, none⟩ = some (.string (bstr nm)) ∧ w12.frozen? ⟨b7, 2, none⟩ = false := cell_at HK7.out rfl
     have HTJ : Hid (TrP FI (fun x => wo.heap.size ≤ x ∧ x < zq) w12 (cellsI (⟨5, (at_x : Int), [], [], zRL, zRL, false, c1, (cellsE 2 (at_x : Int) 0 0 0 nm none 0 0), false, zSL, none, 0, 0, none, 0, 0, none, 0, 0, [], none, 0, 0, false, [], none, 0, 0⟩ : ItV)) ([97, 115, 115, 105, 103, 110, 32] ++ nm ++ [32, 61, 32] ++ t1 ++ [59, 10])) := Lib.hid (tri_mk (x := (⟨5, (at_x : Int), [], [], zRL, zRL, false, c1, (cellsE 2 (at_x : Int) 0 0 0 nm none 0 0), false, zSL, none, 0, 0, none, 0, 0, none, 0, 0, [], none, 0, 0, false, [], none, 0, 0⟩ : ItV)) (r := (false, [123, 125], [123, 125])) (wd := (false, [123, 125], [123, 125])) (tV := (t1, kd9)) (tG := (nm, 2)) (tB := []) ⟨(show (1 : Int) ≤ 5 ∧ (5 : Int) ≤ 9 by omega), (by simp), (by simp), (by simp), (by simp), (fun h => by cases h), (fun h => by have h9 : (5 : Int) = 8 := h; omega), okB_zero⟩ trr_zero trr_zero (HTc1.out.wide (by omega) (by omega)) (tre_name (by omega)) (fun h => by have h9 : (5 : Int) = 6 := h; omega) (LfP.nil (T := (fun _ => (([], false, []) : BiT)))) (LfP.nil (T := (fun _ => (([], false, []) : BiT)))) (LfP.nil (T := (fun _ => ([], 0)))) (LfP.nil (T := fun _ => ([] : LB))) (LfP.nil (T := fun _ => ([] : LB))) (show 0 ≤ 3000000 ∧ 0 ≤ 3000000 ∧ 0 ≤ 3000000 ∧ 0 ≤ 3000000 ∧ 0 ≤ 3000000 by omega))
     obtain ⟨ty, hty⟩ : ∃ t : LB, t = ([97, 115, 115, 105, 103, 110, 32] ++ nm ++ [32, 61, 32] ++ t1 ++ [59, 10]) := ⟨_, rfl⟩
     rw [← hty] at HTJ
     have HTL2 : Hid (ty.length = (([97, 115, 115, 105, 103, 110, 32] ++ nm ++ [32, 61, 32] ++ t1 ++ [59, 10])).length) := Lib.hid (by rw [hty])
     clear hty
     have hbn := built_asn HTc1.out.len (at_x : Int) (at_x : Int) nm
     obtain ⟨cJ, hcJ⟩ : ∃ c, c = (cellsI (⟨5, (at_x : Int), [], [], zRL, zRL, false, c1, (cellsE 2 (at_x : Int) 0 0 0 nm none 0 0), false, zSL, none, 0, 0, none, 0, 0, none, 0, 0, [], none, 0, 0, false, [], none, 0, 0⟩ : ItV)) := ⟨_, rfl⟩
     rw [← hcJ] at HTJ hbn
     have HBN := Lib.hid hbn
     clear hbn hcJ
     go_wp2_with (first | (refine wpl_load rfl 56 (.tmp 10) rfl b10 rfl HK10.out stE HTc1.out.size ?_) | (refine wpl_build rfl 75 [(0, .const (.int .i64 5)), (1, .tmp 65), (8, .tmp 70), (7, .tmp 71)] rfl (some 72) rfl cJ.toArray HBN.out ?_) | (refine wpl_slice rfl 38 75 1 _ rfl (some 73) rfl Tryd.underlying38 cJ.toArray (built65 (lenI HTJ.out).1) ?_))
     refine ⟨fun w13 b73 HK73 ho13 ha73 hb73 => ?_⟩
     have hs13 := ho13.out.size
     replace HW : Hid (OnlyB b w w13) := Lib.hid (HW.out.then_ ho13.out (fun _ _ h => h.elim))
     replace HR := Lib.hid (HR.out.only ho13.out (fun h => h))
     replace HK5 := Lib.hid (ho13.out.heap HK5.out (fun h => h))
     replace HTcR := Lib.hid (HTcR.out.only ho13.out (fun _ h => h.elim))
     replace HK7 := Lib.hid (ho13.out.heap HK7.out (fun h => h))
     replace HK10 := Lib.hid (ho13.out.heap HK10.out (fun h => h))
     replace HTc1 := Lib.hid (HTc1.out.only ho13.out (fun _ h => h.elim))
     replace HL := Lib.hid (HL.out.only ho13.out (fun _ _ h => h.elim))
     replace HTJ := Lib.hid (HTJ.out.only ho13.out (fun _ _ h => h))
     clear ho13
     clear x1 x2 v1 v2
     have HALT2 := Lib.hid HL.out.lt
     clear HK7
     clear HK10
     clear HTc1
     go_wp2_with (refine wpl_pushP rfl (.tmp 63) (.tmp 73) 38 rfl elI rfl HL.out rfl HK73.out (lenI HTJ.out).1 (lenI HTJ.out).2 HTJ.out w2.heap.size HAL2.out (by omega) (fun x hx => ⟨by omega, by omega, fun hx2 => (HAB.out x hx2).elim (fun h8 => by have := HALT.out x h8; omega) (fun h8 => by omega)⟩) (by omega) (by omega) (by omega) ?_)
     refine ⟨fun A2 c2n w14 HLn ho14 HAn HAb => ?_⟩
     have hs14 := ho14.out.size
     clear HL HTJ HK73 HAL HALT HAB
     have HAL := HAL2
     have HALT := HALT2
     clear HAL2 HALT2
     replace HW : Hid (OnlyB b w w14) := Lib.hid (HW.out.then_ ho14.out (fun i hi h => by have := HAL.out _ h; have := HALT.out _ h; omega))
     replace HR := Lib.hid (HR.out.only ho14.out (fun h => by have := HAL.out _ h; have := HALT.out _ h; omega))
     replace HK5 := Lib.hid (ho14.out.heap HK5.out (fun h => by have := HAL.out _ h; have := HALT.out _ h; omega))
     replace HTcR := Lib.hid (HTcR.out.only ho14.out (fun i h => by have := HAL.out _ h; have := HALT.out _ h; omega))
     clear ho14
     have HL := HLn
     have HAL2 := HAn
     clear HLn HAn HAb HALT
     go_wp2_with fail
     go_wp2_with fail
     refine (accept_any HR.out _).mono ?_
     rintro e w15 ⟨om, m15, rfl, hr, ho, hy, hn⟩
     replace HR := Lib.hid hr
     have HOx := Lib.hid ho
     have hs15 := HOx.out.size
     clear hr ho
     replace HW : Hid (OnlyB b w w15) := Lib.hid (HW.out.then_ HOx.out (fun _ _ h => h))
     replace HK5 := Lib.hid (HOx.out.heap HK5.out (by omega))
     replace HTcR := Lib.hid (HTcR.out.only HOx.out (fun i (h : i = b) => by omega))
     replace HL := Lib.hid (HL.out.only HOx.out (fun i hi (h : i = b) => by omega))
     clear HOx
     cases om with
     | false =>
      have HME := Lib.hid (hn rfl)
      clear hy hn
      go_wp2_with fail
      refine (must_any HR.out _).mono ?_
      rintro e w16 ⟨rfl, m16, hr, ho, hm⟩
      have hle16 : m16 ≤ m15 := by omega
      have HM16 := Lib.hid hm
      clear hm
      replace HR := Lib.hid hr
      have HOx := Lib.hid ho
      have hs16 := HOx.out.size
      clear hr ho
      replace HW : Hid (OnlyB b w w16) := Lib.hid (HW.out.then_ HOx.out (fun _ _ h => h))
      replace HK5 := Lib.hid (HOx.out.heap HK5.out (by omega))
      replace HTcR := Lib.hid (HTcR.out.only HOx.out (fun i (h : i = b) => by omega))
      replace HL := Lib.hid (HL.out.only HOx.out (fun i hi (h : i = b) => by omega))
      clear HOx
      go_wp2_with fail
      go_ret
      exact ⟨A2, (n + 1 + 1), c2n, _, m16, rfl, HR.out, HW.out, HL.out.done.wide (by omega) (by omega), by have := HM4.out; have := HME.out; omega, by have := HTX.out; have := HSP2.out; have := HM4.out; have := HME.out; have := HM16.out; have := HM9.out; have h9 := @catL_snoc_len T n tx; have h8 := @catL_snoc_len (snocF T n tx) (n + 1) ty; have h7 := HTL.out; have h6 := HTL2.out; simp only [KK, List.length_append, List.length_cons, List.length_nil] at *; omega⟩
     | true =>
      obtain ⟨hp15, hl15⟩ := hy rfl
      clear hy hn
      go_wp2_with fail
      have hlt9 : m15 < go := by have := HM4.out; omega
      go_roundg m15
      case measure => omega
      case rel => exact ⟨A2, (n + 1 + 1), c2n, _, rfl, by omega, Lib.hid ⟨HR.out, HW.out, HK5.out, HTcR.out, HL.out, HAL2.out, by omega, by have := HTX.out; have := HSP2.out; have := HM4.out; have := HM9.out; have h9 := @catL_snoc_len T n tx; have h8 := @catL_snoc_len (snocF T n tx) (n + 1) ty; have h7 := HTL.out; have h6 := HTL2.out; simp only [KK, List.length_append, List.length_cons, List.length_nil] at *; omega, by omega⟩⟩
  ·
   have hci : ((codex : Int) == 0) = false := by rw [beq_eq_false_iff_ne]; omega
   have hg0 : go = 0 := HF.out.hm.trans (rdM_bad hc)
   have HG := Lib.hid hg0
   clear hc HF hg0
   have HL := Lib.hid (HL0.out.only HQ.out (fun i hi (h : i = b) => by omega))
   clear HQ HL0
   go_wp2_with fail
   refine (must_any HR.out _).mono ?_
   rintro e w3 ⟨rfl, m3, hr, ho, hm⟩
   have hle3 : m3 ≤ go := by omega
   have HM3 := Lib.hid hm
   clear hm
   replace HR := Lib.hid hr
   have HOx := Lib.hid ho
   have hs3 := HOx.out.size
   clear hr ho
   replace HW : Hid (OnlyB b w w3) := Lib.hid (HW.out.then_ HOx.out (fun _ _ h => h))
   replace HK5 := Lib.hid (HOx.out.heap HK5.out (by omega))
   replace HTcR := Lib.hid (HTcR.out.only HOx.out (fun i (h : i = b) => by omega))
   replace HL := Lib.hid (HL.out.only HOx.out (fun i hi (h : i = b) => by omega))
   clear HOx
   go_wp2_with fail
   go_ret
   exact ⟨A, n, c, T, m3, rfl, HR.out, HW.out, HL.out.done.wide (by omega) (by omega), by omega, by have := HM3.out; have := HG.out; omega⟩
end Go.Proofs.YtbdcpealkllfnaaDoor
