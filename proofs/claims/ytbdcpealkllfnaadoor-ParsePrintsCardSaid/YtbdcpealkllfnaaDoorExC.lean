/- The reference's Reader: unary, binary, expr, walked; all of them, by how much may still be taken. Condition: the text is shorter than 1000000 bytes. -/
import Derived.Test.YtbdcpealkllfnaaDoorExB
namespace Go.Proofs.YtbdcpealkllfnaaDoor
open Go.RowKit Go.Deep

theorem TrP.cells {p : Nat → Prop} {w : World} {cs : List Value} {t : LB × Int} (h : TrP FE p w cs t) : ∃ (kd at_ op wd : Int) (num : Nat) (nm : ByteArray) (A : Option Addr) (n c : Nat), cs = [.int .i64 kd, .int .i64 at_, .int .i64 op, .int .i64 wd, .int .u64 (num : Int), .string nm, .slice A n c] := by
 obtain ⟨d, h⟩ := h
 cases d with
 | zero => exact h.elim
 | succ d =>
  obtain ⟨a, o, wd, nu, nm, A, n, c, T, e, _⟩ := h
  exact ⟨_, a, o, wd, nu, _, A, n, c, e⟩
def st7 (W : World) (b : Nat) (x0 x1 x2 x3 x4 x5 x6 : Value) : World := ((((((W.setCell ⟨b, 0, none⟩ x0).setCell ⟨b, 1, none⟩ x1).setCell ⟨b, 2, none⟩ x2).setCell ⟨b, 3, none⟩ x3).setCell ⟨b, 4, none⟩ x4).setCell ⟨b, 5, none⟩ x5).setCell ⟨b, 6, none⟩ x6
theorem st7_only (W : World) (b : Nat) (x0 x1 x2 x3 x4 x5 x6 : Value) : Only (fun k => k = b) W (st7 W b x0 x1 x2 x3 x4 x5 x6) :=
 (((((((Only.refl (fun k => k = b) W).setCell (p := ⟨b, 0, none⟩) (fun _ => rfl) x0).setCell (p := ⟨b, 1, none⟩) (fun _ => rfl) x1).setCell (p := ⟨b, 2, none⟩) (fun _ => rfl) x2).setCell (p := ⟨b, 3, none⟩) (fun _ => rfl) x3).setCell (p := ⟨b, 4, none⟩) (fun _ => rfl) x4).setCell (p := ⟨b, 5, none⟩) (fun _ => rfl) x5).setCell (p := ⟨b, 6, none⟩) (fun _ => rfl) x6
theorem set7_0 {w : World} {b : Nat} {x0 x1 x2 x3 x4 x5 x6 : Value} {t : TypeId} (h : w.heap[b]? = some (.cells #[x0, x1, x2, x3, x4, x5, x6] t)) (v : Value) : (w.setCell ⟨b, 0, none⟩ v).heap[b]? = some (.cells #[v, x1, x2, x3, x4, x5, x6] t) := by simp [World.setCell, Array.getElem?_modify, h]
theorem set7_1 {w : World} {b : Nat} {x0 x1 x2 x3 x4 x5 x6 : Value} {t : TypeId} (h : w.heap[b]? = some (.cells #[x0, x1, x2, x3, x4, x5, x6] t)) (v : Value) : (w.setCell ⟨b, 1, none⟩ v).heap[b]? = some (.cells #[x0, v, x2, x3, x4, x5, x6] t) := by simp [World.setCell, Array.getElem?_modify, h]
theorem set7_2 {w : World} {b : Nat} {x0 x1 x2 x3 x4 x5 x6 : Value} {t : TypeId} (h : w.heap[b]? = some (.cells #[x0, x1, x2, x3, x4, x5, x6] t)) (v : Value) : (w.setCell ⟨b, 2, none⟩ v).heap[b]? = some (.cells #[x0, x1, v, x3, x4, x5, x6] t) := by simp [World.setCell, Array.getElem?_modify, h]
theorem set7_3 {w : World} {b : Nat} {x0 x1 x2 x3 x4 x5 x6 : Value} {t : TypeId} (h : w.heap[b]? = some (.cells #[x0, x1, x2, x3, x4, x5, x6] t)) (v : Value) : (w.setCell ⟨b, 3, none⟩ v).heap[b]? = some (.cells #[x0, x1, x2, v, x4, x5, x6] t) := by simp [World.setCell, Array.getElem?_modify, h]
theorem set7_4 {w : World} {b : Nat} {x0 x1 x2 x3 x4 x5 x6 : Value} {t : TypeId} (h : w.heap[b]? = some (.cells #[x0, x1, x2, x3, x4, x5, x6] t)) (v : Value) : (w.setCell ⟨b, 4, none⟩ v).heap[b]? = some (.cells #[x0, x1, x2, x3, v, x5, x6] t) := by simp [World.setCell, Array.getElem?_modify, h]
theorem set7_5 {w : World} {b : Nat} {x0 x1 x2 x3 x4 x5 x6 : Value} {t : TypeId} (h : w.heap[b]? = some (.cells #[x0, x1, x2, x3, x4, x5, x6] t)) (v : Value) : (w.setCell ⟨b, 5, none⟩ v).heap[b]? = some (.cells #[x0, x1, x2, x3, x4, v, x6] t) := by simp [World.setCell, Array.getElem?_modify, h]
theorem set7_6 {w : World} {b : Nat} {x0 x1 x2 x3 x4 x5 x6 : Value} {t : TypeId} (h : w.heap[b]? = some (.cells #[x0, x1, x2, x3, x4, x5, x6] t)) (v : Value) : (w.setCell ⟨b, 6, none⟩ v).heap[b]? = some (.cells #[x0, x1, x2, x3, x4, x5, v] t) := by simp [World.setCell, Array.getElem?_modify, h]
theorem st7_heap {W : World} {b : Nat} {y0 y1 y2 y3 y4 y5 y6 : Value} {t : TypeId} (h : W.heap[b]? = some (.cells #[y0, y1, y2, y3, y4, y5, y6] t)) (x0 x1 x2 x3 x4 x5 x6 : Value) : (st7 W b x0 x1 x2 x3 x4 x5 x6).heap[b]? = some (.cells #[x0, x1, x2, x3, x4, x5, x6] t) :=
 set7_6 (set7_5 (set7_4 (set7_3 (set7_2 (set7_1 (set7_0 h x0) x1) x2) x3) x4) x5) x6
theorem box7 {W : World} {b : Nat} {x0 x1 x2 x3 x4 x5 x6 : Value} {t : TypeId} (h : W.heap[b]? = some (.cells #[x0, x1, x2, x3, x4, x5, x6] t)) : (W.cell? ⟨b, 0, none⟩ = some x0 ∧ W.cell? ⟨b, 1, none⟩ = some x1 ∧ W.cell? ⟨b, 2, none⟩ = some x2 ∧ W.cell? ⟨b, 3, none⟩ = some x3 ∧ W.cell? ⟨b, 4, none⟩ = some x4 ∧ W.cell? ⟨b, 5, none⟩ = some x5 ∧ W.cell? ⟨b, 6, none⟩ = some x6) ∧ ∀ j, W.frozen? ⟨b, j, none⟩ = false := by
 refine ⟨⟨?_, ?_, ?_, ?_, ?_, ?_, ?_⟩, fun j => by simp [World.frozen?, h]⟩
 all_goals (rw [cell_of_row W b _ _ _ _ h]; rfl)
structure UnI (s : ByteArray) (b m : Nat) (w : World) (b2 b9 : Nat) (wr : World) : Prop where
 rd : RdS s b wr m
 ol : OnlyB b w wr
 k2 : wr.heap[b2]? = some (.cells #[.int .i64 0, .int .i64 0, .int .i64 0, .int .i64 0, .int .u64 0, .string ⟨#[]⟩, .slice none 0 0] 56)
 st : StrB wr b9 6
 it : IntB wr (b9 + 1) 6
set_option maxRecDepth 100000 in
set_option maxHeartbeats 8000000 in
theorem unary_any {s : ByteArray} {b m : Nat} {w : World} (HI : Hid (ExI s b m)) (HP : Hid (∀ {w : World}, RdS s b w m → Calls Tryd.prog 69 #[.pointer (some ⟨b, 0, none⟩)] w (ExOut s b m w))) (HR : Hid (RdS s b w m)) : Calls Tryd.prog 54 #[.pointer (some ⟨b, 0, none⟩)] w (ExOut s b m w) := by
 have hlt := HR.out.lt
 have HW : Hid (OnlyB b w w) := Lib.hid (Only.refl _ w)
 go_enter Tryd.func54, Tryd.ntmps54
 go_wp2_with (refine wpl_alloc rfl 56 rfl (some 2) rfl Tryd.zeroValue56 ?_)
 refine ⟨fun w1 b2 HK2 ho1 ha2 hb2 => ?_⟩
 have hs1 := ho1.out.size
 replace HW : Hid (OnlyB b w w1) := Lib.hid (HW.out.then_ ho1.out (fun _ _ h => h.elim))
 replace HR := Lib.hid (HR.out.only ho1.out (fun h => h))
 clear ho1
 have hst : StrB (w1.alloc (.cells #[.string ⟨#[126]⟩, .string ⟨#[33]⟩, .string ⟨#[45]⟩, .string ⟨#[38]⟩, .string ⟨#[124]⟩, .string ⟨#[94]⟩] 9)) w1.heap.size 6 := strB_new w1 [⟨#[126]⟩, ⟨#[33]⟩, ⟨#[45]⟩, ⟨#[38]⟩, ⟨#[124]⟩, ⟨#[94]⟩]
 have hit : IntB ((w1.alloc (.cells #[.string ⟨#[126]⟩, .string ⟨#[33]⟩, .string ⟨#[45]⟩, .string ⟨#[38]⟩, .string ⟨#[124]⟩, .string ⟨#[94]⟩] 9)).alloc (.cells #[.int .i64 1, .int .i64 2, .int .i64 3, .int .i64 4, .int .i64 5, .int .i64 6] 3)) (w1.alloc (.cells #[.string ⟨#[126]⟩, .string ⟨#[33]⟩, .string ⟨#[45]⟩, .string ⟨#[38]⟩, .string ⟨#[124]⟩, .string ⟨#[94]⟩] 9)).heap.size 6 := intB_new (w1.alloc (.cells #[.string ⟨#[126]⟩, .string ⟨#[33]⟩, .string ⟨#[45]⟩, .string ⟨#[38]⟩, .string ⟨#[124]⟩, .string ⟨#[94]⟩] 9)) [1, 2, 3, 4, 5, 6] (by decide)
 have ho : Only (fun _ => False) w1 ((w1.alloc (.cells #[.string ⟨#[126]⟩, .string ⟨#[33]⟩, .string ⟨#[45]⟩, .string ⟨#[38]⟩, .string ⟨#[124]⟩, .string ⟨#[94]⟩] 9)).alloc (.cells #[.int .i64 1, .int .i64 2, .int .i64 3, .int .i64 4, .int .i64 5, .int .i64 6] 3)) := ((Only.refl _ w1).alloc _).alloc _
 replace hst : StrB ((w1.alloc (.cells #[.string ⟨#[126]⟩, .string ⟨#[33]⟩, .string ⟨#[45]⟩, .string ⟨#[38]⟩, .string ⟨#[124]⟩, .string ⟨#[94]⟩] 9)).alloc (.cells #[.int .i64 1, .int .i64 2, .int .i64 3, .int .i64 4, .int .i64 5, .int .i64 6] 3)) w1.heap.size 6 := hst.only ((Only.refl (fun _ => False) _).alloc _) (fun h => h)
 rw [show (w1.alloc (.cells #[.string ⟨#[126]⟩, .string ⟨#[33]⟩, .string ⟨#[45]⟩, .string ⟨#[38]⟩, .string ⟨#[124]⟩, .string ⟨#[94]⟩] 9)).heap.size = w1.heap.size + 1 by simp] at hit
 have HST := Lib.hid hst
 have HIT := Lib.hid hit
 have HO := Lib.hid ho
 clear hst hit ho
 go_wp2_with fail
 generalize (w1.alloc (.cells #[.string ⟨#[126]⟩, .string ⟨#[33]⟩, .string ⟨#[45]⟩, .string ⟨#[38]⟩, .string ⟨#[124]⟩, .string ⟨#[94]⟩] 9)).alloc (.cells #[.int .i64 1, .int .i64 2, .int .i64 3, .int .i64 4, .int .i64 5, .int .i64 6] 3) = w2 at *
 obtain ⟨b9, hb9⟩ : ∃ x, x = w1.heap.size := ⟨_, rfl⟩
 rw [← hb9] at HST HIT ⊢
 have hl9 : w1.heap.size ≤ b9 := by omega
 clear hb9
 have hs2 := HO.out.size
 replace HW : Hid (OnlyB b w w2) := Lib.hid (HW.out.then_ HO.out (fun _ _ h => h.elim))
 replace HR := Lib.hid (HR.out.only HO.out (fun h => h))
 replace HK2 := Lib.hid (HO.out.heap HK2.out (fun h => h))
 clear HO
 have H0 : Hid (UnI s b m w b2 b9 w2) := Lib.hid ⟨HR.out, HW.out, HK2.out, HST.out, HIT.out⟩
 clear HR HW HK2 HST HIT
 go_loopw [5] (fun vi wr => ∃ i : Nat, i ≤ 6 ∧ vi = .int .i64 i ∧ w2.heap.size ≤ wr.heap.size ∧ Hid (UnI s b m w b2 b9 wr)) (fun vi _ => 6 - (intOf vi).toNat)
 case atStart => exact ⟨0, by omega, rfl, Nat.le_refl _, H0⟩
 case round =>
  clear H0
  obtain ⟨i, hi6, rfl, hsr, HU⟩ := hrel
  obtain ⟨wo, hwo⟩ : ∃ x, x = wr := ⟨_, rfl⟩
  subst hwo
  have HR := Lib.hid HU.out.rd
  have HW := Lib.hid HU.out.ol
  have HK2 := Lib.hid HU.out.k2
  have HST := Lib.hid HU.out.st
  have HIT := Lib.hid HU.out.it
  clear HU
  by_cases hlt : i < 6
  ·
   obtain ⟨kd, at_, wd, T, num, q, code, fat, hrf⟩ := HR.out
   have HF := Lib.hid hrf
   clear hrf
   obtain ⟨y2, z2⟩ := HF.out.c2
   obtain ⟨sg, hsg⟩ := HST.out.at_ hlt
   go_wp2_with fail
   clear y2 z2 hsg HF
   go_wp2_with fail
   refine (accept_any HR.out _).mono ?_
   rintro e w3 ⟨ok, m3, rfl, hr, ho, hy, hn⟩
   replace HR := Lib.hid hr
   have HOx := Lib.hid ho
   have hs3 := HOx.out.size
   clear hr ho
   replace HW : Hid (OnlyB b w w3) := Lib.hid (HW.out.then_ HOx.out (fun _ _ h => h))
   replace HK2 := Lib.hid (HOx.out.heap HK2.out (by omega))
   replace HST := Lib.hid (HST.out.only HOx.out (by omega))
   replace HIT := Lib.hid (HIT.out.only HOx.out (by omega))
   clear HOx
   cases ok with
   | false =>
    obtain rfl : m3 = m := hn rfl
    clear hy hn
    go_wp2_with fail
    exact ⟨⟨i + 1, by omega, by go_num, by omega, Lib.hid ⟨HR.out, HW.out, HK2.out, HST.out, HIT.out⟩⟩, by simp [intOf]; omega⟩
   | true =>
    obtain ⟨hp3, hl3⟩ := hy rfl
    clear hy hn HST
    go_wp2_with fail
    refine (HI.out.unary _ _ (by omega) HR.out).mono ?_
    rintro e w4 ⟨c1, t1, kd4, m4, rfl, hr, ho, ht, hm⟩
    have hle4 : m4 ≤ m3 := by omega
    have HM4 := Lib.hid hm
    have HTc1 := Lib.hid ht
    clear hm ht
    replace HR := Lib.hid hr
    have HOx := Lib.hid ho
    have hs4 := HOx.out.size
    clear hr ho
    replace HW : Hid (OnlyB b w w4) := Lib.hid (HW.out.then_ HOx.out (fun _ _ h => h))
    replace HK2 := Lib.hid (HOx.out.heap HK2.out (by omega))
    replace HIT := Lib.hid (HIT.out.only HOx.out (by omega))
    clear HOx
    go_wp2_with (refine wpl_box rfl rfl 56 rfl 8 rfl (.tmp 30) rfl rfl Tryd.zeroValue56 (cells := c1.toArray) (fun _ => rfl) (fun _ => rfl) stE HTc1.out.size rfl HTc1.out.ones ?_)
    refine ⟨fun w5 b8 HK8 ho5 ha8 hb8 => ?_⟩
    have hs5 := ho5.out.size
    replace HW : Hid (OnlyB b w w5) := Lib.hid (HW.out.then_ ho5.out (fun _ _ h => h.elim))
    replace HR := Lib.hid (HR.out.only ho5.out (fun h => h))
    replace HK2 := Lib.hid (ho5.out.heap HK2.out (fun h => h))
    replace HIT := Lib.hid (HIT.out.only ho5.out (fun h => h))
    replace HTc1 := Lib.hid (HTc1.out.only ho5.out (fun _ h => h.elim))
    clear ho5
    obtain ⟨kda, ata, opa, wda, numa, nma, Aa, na, ca, ea⟩ := HTc1.out.cells
    subst ea
    obtain ⟨ov, ho1, ho2, hov⟩ := HIT.out.at_ hlt
    have HOV := Lib.hid (And.intro ho1 ho2)
    have HOC := Lib.hid hov
    clear ho1 ho2 hov HIT
    obtain ⟨⟨va0, va1, va2, va3, va4, va5, va6⟩, _⟩ := box7 HK8.out
    have hov := HOC.out
    go_wp2_with fail
    refine wp_region_z (fun w' => w'.cell? ⟨(b9 + 1), i, none⟩ = some (.int .i64 ov) ∧ w'.cell? ⟨b8, 0, none⟩ = some (.int .i64 kda) ∧ w'.cell? ⟨b8, 1, none⟩ = some (.int .i64 ata) ∧ w'.cell? ⟨b8, 2, none⟩ = some (.int .i64 opa) ∧ w'.cell? ⟨b8, 3, none⟩ = some (.int .i64 wda) ∧ w'.cell? ⟨b8, 4, none⟩ = some (.int .u64 (numa : Int)) ∧ w'.cell? ⟨b8, 5, none⟩ = some (.string nma) ∧ w'.cell? ⟨b8, 6, none⟩ = some (.slice Aa na ca)) [0, 1, 2, 3, 4, 5] [8] (by kernel_rfl) (by kernel_rfl) (by kernel_rfl) (by rfl) (fun _ _ _ _ e h => ⟨e.symm.trans h.1, h.2⟩) ⟨hov, va0, va1, va2, va3, va4, va5, va6⟩ ?_
    iterate 6
     refine Heads.step (v := ?_) rfl (by first | (go_simp; done) | rfl) (fun W hW => ?_) ?_
     rotate_left
     ·
      (obtain ⟨t0, t1, t2, t3, t4, t5, t6, t7⟩ := hW; go_simp; try with_reducible rfl)
    have HD : Hid ((w5.alloc (.cells #[.int .i64 kda, .int .i64 ata, .int .i64 opa, .int .i64 wda, .int .u64 (numa : Int), .string nma, .slice Aa na ca] 56)).drew.heap[w5.heap.size]? = some (.cells #[.int .i64 kda, .int .i64 ata, .int .i64 opa, .int .i64 wda, .int .u64 (numa : Int), .string nma, .slice Aa na ca] 56)) := Lib.hid (heap_alloc_new w5 (.cells #[.int .i64 kda, .int .i64 ata, .int .i64 opa, .int .i64 wda, .int .u64 (numa : Int), .string nma, .slice Aa na ca] 56))
    have HOD : Hid (Only (fun _ => False) w5 (w5.alloc (.cells #[.int .i64 kda, .int .i64 ata, .int .i64 opa, .int .i64 wda, .int .u64 (numa : Int), .string nma, .slice Aa na ca] 56)).drew) := Lib.hid (((Only.refl _ w5).alloc _).drew)
    have hzD : ((w5.alloc (.cells #[.int .i64 kda, .int .i64 ata, .int .i64 opa, .int .i64 wda, .int .u64 (numa : Int), .string nma, .slice Aa na ca] 56)).drew).heap.size = w5.heap.size + 1 := (by simp : (w5.alloc (.cells #[.int .i64 kda, .int .i64 ata, .int .i64 opa, .int .i64 wda, .int .u64 (numa : Int), .string nma, .slice Aa na ca] 56)).heap.size = w5.heap.size + 1)
    refine AnyZ.one (i := 6) (by kernel_rfl) rfl (fun K hK => ?_)
    go_simp
    clear hov va0 va1 va2 va3 va4 va5 va6
    generalize (w5.alloc (.cells #[.int .i64 kda, .int .i64 ata, .int .i64 opa, .int .i64 wda, .int .u64 (numa : Int), .string nma, .slice Aa na ca] 56)).drew = w6 at *
    obtain ⟨bD, hbD⟩ : ∃ x, x = w5.heap.size := ⟨_, rfl⟩
    rw [← hbD] at HD
    try rw [← hbD]
    have haD : w5.heap.size ≤ bD := by omega
    have hbD2 : bD < w6.heap.size := by omega
    clear hbD hzD
    have hs6 := HOD.out.size
    replace HW : Hid (OnlyB b w w6) := Lib.hid (HW.out.then_ HOD.out (fun _ _ h => h.elim))
    replace HR := Lib.hid (HR.out.only HOD.out (fun h => h))
    replace HK2 := Lib.hid (HOD.out.heap HK2.out (fun h => h))
    replace HTc1 := Lib.hid (HTc1.out.only HOD.out (fun _ h => h.elim))
    replace HK8 := Lib.hid (HOD.out.heap HK8.out (fun h => h))
    replace HOC := Lib.hid (HOD.out.cell HOC.out (fun h => h))
    clear HOD
    obtain ⟨⟨va0, va1, va2, va3, va4, va5, va6⟩, _⟩ := box7 HK8.out
    have hov := HOC.out
    refine hK _ _ (fun _ => ⟨hov, va0, va1, va2, va3, va4, va5, va6⟩) ?_
    clear hK
    refine AnyZ.mid [7] [8] 1 rfl (by kernel_rfl) (by kernel_rfl) (by kernel_rfl) (fun _ _ _ _ e h => ⟨e.symm.trans h.1, h.2⟩) ⟨hov, va0, va1, va2, va3, va4, va5, va6⟩ ?_
    iterate 1
     refine Heads.step (v := ?_) rfl (by first | (go_simp; done) | rfl) (fun W hW => ?_) ?_
     rotate_left
     ·
      (obtain ⟨t0, t1, t2, t3, t4, t5, t6, t7⟩ := hW; go_simp; try with_reducible rfl)
    obtain ⟨⟨u0, u1, u2, u3, u4, u5, u6⟩, uz⟩ := box7 HK2.out
    have z0 := uz 0
    have z1 := uz 1
    have z2 := uz 2
    have z3 := uz 3
    have z4 := uz 4
    have z5 := uz 5
    have z6 := uz 6
    clear uz
    have HS7 : Hid ((((((((w6.setCell ⟨b2, 0, none⟩ (.int .i64 5)).setCell ⟨b2, 1, none⟩ (.int .i64 (at_ : Int))).setCell ⟨b2, 2, none⟩ (.int .i64 ov)).setCell ⟨b2, 3, none⟩ (.int .i64 0)).setCell ⟨b2, 4, none⟩ (.int .u64 0)).setCell ⟨b2, 5, none⟩ (.string ⟨#[]⟩)).setCell ⟨b2, 6, none⟩ (.slice (some ⟨bD, 0, none⟩) 1 1)).heap[b2]? = some (.cells #[.int .i64 5, .int .i64 (at_ : Int), .int .i64 ov, .int .i64 0, .int .u64 0, .string ⟨#[]⟩, .slice (some ⟨bD, 0, none⟩) 1 1] 56)) := Lib.hid (st7_heap HK2.out (.int .i64 5) (.int .i64 (at_ : Int)) (.int .i64 ov) (.int .i64 0) (.int .u64 0) (.string ⟨#[]⟩) (.slice (some ⟨bD, 0, none⟩) 1 1))
    have HOS : Hid (Only (fun k => k = b2) w6 (((((((w6.setCell ⟨b2, 0, none⟩ (.int .i64 5)).setCell ⟨b2, 1, none⟩ (.int .i64 (at_ : Int))).setCell ⟨b2, 2, none⟩ (.int .i64 ov)).setCell ⟨b2, 3, none⟩ (.int .i64 0)).setCell ⟨b2, 4, none⟩ (.int .u64 0)).setCell ⟨b2, 5, none⟩ (.string ⟨#[]⟩)).setCell ⟨b2, 6, none⟩ (.slice (some ⟨bD, 0, none⟩) 1 1))) := Lib.hid (st7_only w6 b2 (.int .i64 5) (.int .i64 (at_ : Int)) (.int .i64 ov) (.int .i64 0) (.int .u64 0) (.string ⟨#[]⟩) (.slice (some ⟨bD, 0, none⟩) 1 1))
    refine AnyZ.one (i := 8) (by kernel_rfl) rfl (fun K hK => ?_)
    go_simp
    clear u0 u1 u2 u3 u4 u5 u6 z0 z1 z2 z3 z4 z5 z6 HK2
    generalize ((((((w6.setCell ⟨b2, 0, none⟩ (.int .i64 5)).setCell ⟨b2, 1, none⟩ (.int .i64 (at_ : Int))).setCell ⟨b2, 2, none⟩ (.int .i64 ov)).setCell ⟨b2, 3, none⟩ (.int .i64 0)).setCell ⟨b2, 4, none⟩ (.int .u64 0)).setCell ⟨b2, 5, none⟩ (.string ⟨#[]⟩)).setCell ⟨b2, 6, none⟩ (.slice (some ⟨bD, 0, none⟩) 1 1) = w7 at *
    refine hK _ _ (fun h => by cases h) ?_
    clear hK
    refine AnyZ.done (by kernel_rfl) ?_
    clear hov va0 va1 va2 va3 va4 va5 va6
    have HK2 := HS7
    clear HS7
    have hs7 := HOS.out.size
    clear HOC
    replace HW : Hid (OnlyB b w w7) := Lib.hid (HW.out.then_ HOS.out (fun i hi (h : i = b2) => by omega))
    replace HR := Lib.hid (HR.out.only HOS.out (by omega))
    replace HTc1 := Lib.hid (HTc1.out.only HOS.out (fun i (h : i = b2) => by omega))
    replace HK8 := Lib.hid (HOS.out.heap HK8.out (by omega))
    replace HD := Lib.hid (HOS.out.heap HD.out (by omega))
    clear HOS
    go_wp2_with fail
    exact bodyPost_ret (ret_box rfl _ rfl HK2.out stE rfl) rfl (ExOut.mk HR.out HW.out (tre_un HOV.out (lf1 HD.out (by omega) (HTc1.out.wide (by omega) (by omega))) rfl) (by have := HM4.out; have := sgnL_len ov; have := innL_len kd4 t1; simp only [List.length_append]; omega) rfl)
  ·
   obtain rfl : i = 6 := by omega
   clear HST HIT
   rw [show ((6 : Nat) : Int) = 6 from rfl]
   go_wp2_with fail
   refine (HP.out HR.out).mono ?_
   rintro e w3 ⟨c1, t1, kd3, m3, rfl, hr, ho, ht, hm⟩
   have hle3 : m3 ≤ m := by omega
   have HM3 := Lib.hid hm
   have HTc1 := Lib.hid ht
   clear hm ht
   replace HR := Lib.hid hr
   have HOx := Lib.hid ho
   have hs3 := HOx.out.size
   clear hr ho
   replace HW : Hid (OnlyB b w w3) := Lib.hid (HW.out.then_ HOx.out (fun _ _ h => h))
   replace HK2 := Lib.hid (HOx.out.heap HK2.out (by omega))
   clear HOx
   go_wp2_with (refine wpl_store rfl 56 (.tmp 2) (.tmp 40) rfl b2 rfl (cells := c1.toArray) rfl HK2.out stE HTc1.out.size rfl HTc1.out.ones ?_)
   clear HK2
   refine ⟨fun w4 HK2 ho4 => ?_⟩
   have hs4 := ho4.out.size
   replace HW : Hid (OnlyB b w w4) := Lib.hid (HW.out.then_ ho4.out (fun i hi (h : i = b2) => by omega))
   replace HR := Lib.hid (HR.out.only ho4.out (by omega))
   replace HTc1 := Lib.hid (HTc1.out.only ho4.out (fun i (h : i = b2) => by omega))
   clear ho4
   go_wp2_with fail
   exact bodyPost_ret (ret_box rfl _ rfl HK2.out stE HTc1.out.size) rfl (ExOut.mk HR.out HW.out (HTc1.out.wide (by omega) (by omega)) (HM3.out) rfl)
set_option maxRecDepth 100000 in
set_option maxHeartbeats 8000000 in
theorem binary_top {s : ByteArray} {b m : Nat} {w : World} (HU : Hid (∀ {w : World}, RdS s b w m → Calls Tryd.prog 54 #[.pointer (some ⟨b, 0, none⟩)] w (ExOut s b m w))) (HR : Hid (RdS s b w m)) : Calls Tryd.prog 36 #[.pointer (some ⟨b, 0, none⟩), .int .i64 10] w (ExOut s b m w) := by
 have hlt := HR.out.lt
 have HW : Hid (OnlyB b w w) := Lib.hid (Only.refl _ w)
 go_enter Tryd.func36, Tryd.ntmps36
 go_wp2_with (refine wpl_alloc rfl 56 rfl (some 4) rfl Tryd.zeroValue56 ?_)
 refine ⟨fun w1 b4 HK4 ho1 ha4 hb4 => ?_⟩
 have hs1 := ho1.out.size
 replace HW : Hid (OnlyB b w w1) := Lib.hid (HW.out.then_ ho1.out (fun _ _ h => h.elim))
 replace HR := Lib.hid (HR.out.only ho1.out (fun h => h))
 clear ho1
 go_wp2_with fail
 refine (HU.out HR.out).mono ?_
 rintro e w2 ⟨c1, t1, kd2, m2, rfl, hr, ho, ht, hm⟩
 have hle2 : m2 ≤ m := by omega
 have HM2 := Lib.hid hm
 have HTc1 := Lib.hid ht
 clear hm ht
 replace HR := Lib.hid hr
 have HOx := Lib.hid ho
 have hs2 := HOx.out.size
 clear hr ho
 replace HW : Hid (OnlyB b w w2) := Lib.hid (HW.out.then_ HOx.out (fun _ _ h => h))
 replace HK4 := Lib.hid (HOx.out.heap HK4.out (by omega))
 clear HOx
 go_wp2_with (refine wpl_store rfl 56 (.tmp 4) (.tmp 16) rfl b4 rfl (cells := c1.toArray) rfl HK4.out stE HTc1.out.size rfl HTc1.out.ones ?_)
 clear HK4
 refine ⟨fun w3 HK4 ho3 => ?_⟩
 have hs3 := ho3.out.size
 replace HW : Hid (OnlyB b w w3) := Lib.hid (HW.out.then_ ho3.out (fun i hi (h : i = b4) => by omega))
 replace HR := Lib.hid (HR.out.only ho3.out (by omega))
 replace HTc1 := Lib.hid (HTc1.out.only ho3.out (fun i (h : i = b4) => by omega))
 clear ho3
 go_wp2_with fail
 exact bodyPost_ret (ret_box rfl _ rfl HK4.out stE HTc1.out.size) rfl (ExOut.mk HR.out HW.out (HTc1.out.wide (by omega) (by omega)) (HM2.out) rfl)
def KvP (n : Nat) (P : Prop) (v : Value) : Prop := v = .int .i64 (-1) ∨ ∃ j : Nat, j < n ∧ v = .int .i64 (j : Int) ∧ P
structure BiI (s : ByteArray) (b m : Nat) (w : World) (Z b4 b5 d1 d2 n : Nat) (g : Nat) (wr : World) (cs : List Value) (t : LB) (kd : Int) : Prop where
 rd : RdS s b wr g
 ol : OnlyB b w wr
 k4 : wr.heap[b4]? = some (.cells #[.int .i64 0, .int .i64 0, .int .i64 0, .int .i64 0, .int .u64 0, .string ⟨#[]⟩, .slice none 0 0] 56)
 k5 : wr.heap[b5]? = some (.cells cs.toArray 56)
 st : StrB wr d1 n
 it : IntB wr d2 n
 tr : TrP FE (fun x => Z ≤ x ∧ x < wr.heap.size ∧ x ≠ b5) wr cs (t, kd)
 tx : g = 0 ∨ (g < m ∧ t.length + 60 * g ≤ 60 * m)
set_option maxRecDepth 100000 in
set_option maxHeartbeats 8000000 in
theorem binary_step {s : ByteArray} {b m : Nat} {w : World} (l : Nat) (hl : l ≤ 9) (HB : Hid (∀ {w : World}, RdS s b w m → Calls Tryd.prog 36 #[.pointer (some ⟨b, 0, none⟩), .int .i64 ((l : Int) + 1)] w (ExOut s b m w))) (HBN : Hid (∀ {w : World} {m' : Nat}, m' < m → RdS s b w m' → Calls Tryd.prog 36 #[.pointer (some ⟨b, 0, none⟩), .int .i64 ((l : Int) + 1)] w (ExOut s b m' w))) (HR : Hid (RdS s b w m)) : Calls Tryd.prog 36 #[.pointer (some ⟨b, 0, none⟩), .int .i64 (l : Int)] w (ExOut s b m w) := by
 have hli : ¬ (9 : Int) < (l : Int) := by omega
 have hlt := HR.out.lt
 have HW : Hid (OnlyB b w w) := Lib.hid (Only.refl _ w)
 go_enter Tryd.func36, Tryd.ntmps36
 go_wp2_with (refine wpl_alloc rfl 56 rfl (some 4) rfl Tryd.zeroValue56 ?_)
 refine ⟨fun w1 b4 HK4 ho1 ha4 hb4 => ?_⟩
 have hs1 := ho1.out.size
 replace HW : Hid (OnlyB b w w1) := Lib.hid (HW.out.then_ ho1.out (fun _ _ h => h.elim))
 replace HR := Lib.hid (HR.out.only ho1.out (fun h => h))
 clear ho1
 go_wp2_with fail
 refine (HB.out HR.out).mono ?_
 rintro e w2 ⟨c1, t1, kd2, m2, rfl, hr, ho, ht, hm⟩
 have hle2 : m2 ≤ m := by omega
 have HM2 := Lib.hid hm
 have HTc1 := Lib.hid ht
 clear hm ht
 replace HR := Lib.hid hr
 have HOx := Lib.hid ho
 have hs2 := HOx.out.size
 clear hr ho
 replace HW : Hid (OnlyB b w w2) := Lib.hid (HW.out.then_ HOx.out (fun _ _ h => h))
 replace HK4 := Lib.hid (HOx.out.heap HK4.out (by omega))
 clear HOx
 go_wp2_with (refine wpl_box rfl rfl 56 rfl 5 rfl (.tmp 20) rfl rfl Tryd.zeroValue56 (cells := c1.toArray) (fun _ => rfl) (fun _ => rfl) stE HTc1.out.size rfl HTc1.out.ones ?_)
 refine ⟨fun w3 b5 HK5 ho3 ha5 hb5 => ?_⟩
 have hs3 := ho3.out.size
 replace HW : Hid (OnlyB b w w3) := Lib.hid (HW.out.then_ ho3.out (fun _ _ h => h.elim))
 replace HR := Lib.hid (HR.out.only ho3.out (fun h => h))
 replace HK4 := Lib.hid (ho3.out.heap HK4.out (fun h => h))
 replace HTc1 := Lib.hid (HTc1.out.only ho3.out (fun _ h => h.elim))
 clear ho3
 go_wp2_with fail
 refine (ops_any l hl _).mono ?_
 rintro e w4 ⟨n, d1, d2, rfl, hn6, hst, hit, ho, hd1, hd2, hd3, hd4⟩
 have HST := Lib.hid hst
 have HIT := Lib.hid hit
 have HO := Lib.hid ho
 have hs4 := ho.size
 clear hst hit ho
 replace HW : Hid (OnlyB b w w4) := Lib.hid (HW.out.then_ HO.out (fun _ _ h => h.elim))
 replace HR := Lib.hid (HR.out.only HO.out (fun h => h))
 replace HK4 := Lib.hid (HO.out.heap HK4.out (fun h => h))
 replace HTc1 := Lib.hid (HTc1.out.only HO.out (fun _ h => h.elim))
 replace HK5 := Lib.hid (HO.out.heap HK5.out (fun h => h))
 clear HO
 go_wp2_with fail
 have H0 : Hid (BiI s b m w w1.heap.size b4 b5 d1 d2 n m2 w4 c1 t1 kd2) := Lib.hid ⟨HR.out, HW.out, HK4.out, HK5.out, HST.out, HIT.out, HTc1.out.imp (fun x _ hx => ⟨by omega, by omega, by omega⟩), HM2.out⟩
 clear HR HW HK4 HK5 HST HIT HTc1
 go_loopg [8] m2 (fun g _ wr => ∃ cs t kd, w4.heap.size ≤ wr.heap.size ∧ Hid (BiI s b m w w1.heap.size b4 b5 d1 d2 n g wr cs t kd))
 case atStart => exact ⟨_, _, _, Nat.le_refl _, H0⟩
 case round =>
  clear H0
  obtain ⟨c2, t2, kd2, hsr, HU⟩ := hrel
  obtain ⟨wo, hwo⟩ : ∃ x, x = wr := ⟨_, rfl⟩
  subst hwo
  have HR := Lib.hid HU.out.rd
  have HW := Lib.hid HU.out.ol
  have HK4 := Lib.hid HU.out.k4
  have HK5 := Lib.hid HU.out.k5
  have HST := Lib.hid HU.out.st
  have HIT := Lib.hid HU.out.it
  have HTc2 := Lib.hid HU.out.tr
  have HTX := Lib.hid HU.out.tx
  clear HU
  obtain ⟨kd, at_, wd, T, num, q, code, fat, hrf⟩ := HR.out
  have HF := Lib.hid hrf
  clear hrf
  obtain ⟨y7, z7⟩ := HF.out.c7
  by_cases hc : code = 0
  ·
   subst hc
   clear HF
   go_wp2_with fail
   clear y7 z7
   go_loopw [8, 9] (fun vk vi wi => ∃ i : Nat, i ≤ n ∧ vi = .int .i64 i ∧ wi = wo ∧ Hid (KvP n (RdK s b wo gk 3 ∧ 0 < gk) vk)) (fun _ vi _ => n - (intOf vi).toNat)
   case atStart => exact ⟨0, by omega, rfl, rfl, Lib.hid (.inl rfl)⟩
   case round =>
    obtain ⟨i, hin, rfl, hwi, HKV⟩ := hrel
    obtain rfl := hwi.symm
    by_cases hlt : i < n
    ·
     obtain ⟨sg, hsg⟩ := HST.out.at_ hlt
     go_wp2_with fail
     clear hsg
     refine (is_any HR.out _).mono ?_
     rintro e wz ⟨ok, rfl, hwe, hik⟩
     obtain rfl := hwe.symm
     cases ok with
     | false =>
      clear hik
      go_wp2_with fail
      exact ⟨⟨i + 1, by omega, by go_num, trivial, HKV⟩, by simp [intOf]; omega⟩
     | true =>
      have HKV2 : Hid (KvP n (RdK s b wo gk 3 ∧ 0 < gk) (.int .i64 (i : Int))) := Lib.hid (.inr ⟨i, hlt, rfl, hik rfl⟩)
      clear hik HKV
      go_wp2_with fail
      exact ⟨⟨i + 1, by omega, by go_num, trivial, HKV2⟩, by simp [intOf]; omega⟩
    ·
     obtain rfl : i = n := by omega
     rcases HKV.out with hv | ⟨jv, hjn, hv, hrk, hpos⟩
     ·
      subst hv
      clear HKV HST HIT
      go_wp2_with (first | (refine wpl_load rfl 56 (.tmp 5) rfl b5 rfl HK5.out stE HTc2.out.size ?_) | (refine wpl_store rfl 56 (.tmp 4) (.tmp 48) rfl b4 rfl (cells := c2.toArray) rfl HK4.out stE HTc2.out.size rfl HTc2.out.ones ?_))
      clear HK4
      refine ⟨fun w5 HK4 ho5 => ?_⟩
      have hs5 := ho5.out.size
      replace HW : Hid (OnlyB b w w5) := Lib.hid (HW.out.then_ ho5.out (fun i hi (h : i = b4) => by omega))
      replace HR := Lib.hid (HR.out.only ho5.out (by omega))
      replace HK5 := Lib.hid (ho5.out.heap HK5.out (by omega))
      replace HTc2 := Lib.hid (HTc2.out.only ho5.out (fun i hx (h : i = b4) => by omega))
      clear ho5
      go_wp2_with fail
      exact bodyPost_ret (ret_box rfl _ rfl HK4.out stE HTc2.out.size) rfl (ExOut.mk HR.out HW.out (HTc2.out.imp (fun x _ hx => ⟨by omega, by omega⟩)) (HTX.out) rfl)
     ·
      subst hv
      clear HKV
      obtain ⟨a1, a2, a3, a4, a5, a6, a7, hk3⟩ := hrk
      have HK := Lib.hid hk3
      clear hk3
      obtain ⟨y2, z2⟩ := HK.out.c2
      have hjneg : ¬ ((jv : Int) < 0) := by omega
      go_wp2_with fail
      clear y2 z2
      refine (stepK_any HK.out).mono ?_
      rintro e w5 ⟨rfl, mk, hr, ho, hk1, hk2, hk3⟩
      have hlk := hk3 (by omega) hpos
      have hp2 := hk2 hpos
      clear hk1 hk2 hk3 HK
      replace HR := Lib.hid hr
      have HOx := Lib.hid ho
      have hs5 := HOx.out.size
      clear hr ho
      replace HW : Hid (OnlyB b w w5) := Lib.hid (HW.out.then_ HOx.out (fun _ _ h => h))
      replace HK4 := Lib.hid (HOx.out.heap HK4.out (by omega))
      replace HK5 := Lib.hid (HOx.out.heap HK5.out (by omega))
      replace HTc2 := Lib.hid (HTc2.out.only HOx.out (fun i hx (h : i = b) => by omega))
      replace HIT := Lib.hid (HIT.out.only HOx.out (by omega))
      replace HST := Lib.hid (HST.out.only HOx.out (by omega))
      clear HOx
      have hmm : mk < m := by have := HTX.out; omega
      go_wp2_with fail
      refine (HBN.out hmm HR.out).mono ?_
      rintro e w6 ⟨c3, t3, kd6, m6, rfl, hr, ho, ht, hm⟩
      have hle6 : m6 ≤ mk := by omega
      have HM6 := Lib.hid hm
      have HTc3 := Lib.hid ht
      clear hm ht
      replace HR := Lib.hid hr
      have HOx := Lib.hid ho
      have hs6 := HOx.out.size
      clear hr ho
      replace HW : Hid (OnlyB b w w6) := Lib.hid (HW.out.then_ HOx.out (fun _ _ h => h))
      replace HK4 := Lib.hid (HOx.out.heap HK4.out (by omega))
      replace HK5 := Lib.hid (HOx.out.heap HK5.out (by omega))
      replace HTc2 := Lib.hid (HTc2.out.only HOx.out (fun i hx (h : i = b) => by omega))
      replace HIT := Lib.hid (HIT.out.only HOx.out (by omega))
      replace HST := Lib.hid (HST.out.only HOx.out (by omega))
      clear HOx
      go_wp2_with (refine wpl_box rfl rfl 56 rfl 12 rfl (.tmp 59) rfl rfl Tryd.zeroValue56 (cells := c3.toArray) (fun _ => rfl) (fun _ => rfl) stE HTc3.out.size rfl HTc3.out.ones ?_)
      refine ⟨fun w7 b12 HK12 ho7 ha12 hb12 => ?_⟩
      have hs7 := ho7.out.size
      replace HW : Hid (OnlyB b w w7) := Lib.hid (HW.out.then_ ho7.out (fun _ _ h => h.elim))
      replace HR := Lib.hid (HR.out.only ho7.out (fun h => h))
      replace HK4 := Lib.hid (ho7.out.heap HK4.out (fun h => h))
      replace HK5 := Lib.hid (ho7.out.heap HK5.out (fun h => h))
      replace HTc2 := Lib.hid (HTc2.out.only ho7.out (fun _ _ h => h))
      replace HIT := Lib.hid (HIT.out.only ho7.out (fun h => h))
      replace HST := Lib.hid (HST.out.only ho7.out (fun h => h))
      replace HTc3 := Lib.hid (HTc3.out.only ho7.out (fun _ h => h.elim))
      clear ho7
      obtain ⟨ov, ho1, ho2, hov⟩ := HIT.out.at_ hjn
      have HOV := Lib.hid (And.intro ho1 ho2)
      have HOC := Lib.hid hov
      clear ho1 ho2 hov
      obtain ⟨kda, ata, opa, wda, numa, nma, Aa, na, ca, ea⟩ := HTc2.out.cells
      subst ea
      obtain ⟨kdb, atb, opb, wdb, numb, nmb, Ab, nb, cb, eb⟩ := HTc3.out.cells
      subst eb
      obtain ⟨⟨va0, va1, va2, va3, va4, va5, va6⟩, _⟩ := box7 HK5.out
      obtain ⟨⟨vb0, vb1, vb2, vb3, vb4, vb5, vb6⟩, _⟩ := box7 HK12.out
      have hov := HOC.out
      go_wp2_with fail
      refine wp_region_z (fun w' => w'.cell? ⟨d2, jv, none⟩ = some (.int .i64 ov) ∧ w'.cell? ⟨b5, 0, none⟩ = some (.int .i64 kda) ∧ w'.cell? ⟨b5, 1, none⟩ = some (.int .i64 ata) ∧ w'.cell? ⟨b5, 2, none⟩ = some (.int .i64 opa) ∧ w'.cell? ⟨b5, 3, none⟩ = some (.int .i64 wda) ∧ w'.cell? ⟨b5, 4, none⟩ = some (.int .u64 (numa : Int)) ∧ w'.cell? ⟨b5, 5, none⟩ = some (.string nma) ∧ w'.cell? ⟨b5, 6, none⟩ = some (.slice Aa na ca) ∧ w'.cell? ⟨b12, 0, none⟩ = some (.int .i64 kdb) ∧ w'.cell? ⟨b12, 1, none⟩ = some (.int .i64 atb) ∧ w'.cell? ⟨b12, 2, none⟩ = some (.int .i64 opb) ∧ w'.cell? ⟨b12, 3, none⟩ = some (.int .i64 wdb) ∧ w'.cell? ⟨b12, 4, none⟩ = some (.int .u64 (numb : Int)) ∧ w'.cell? ⟨b12, 5, none⟩ = some (.string nmb) ∧ w'.cell? ⟨b12, 6, none⟩ = some (.slice Ab nb cb)) [0, 1, 2, 3, 4, 5, 6] [9] (by kernel_rfl) (by kernel_rfl) (by kernel_rfl) (by rfl) (fun _ _ _ _ e h => ⟨e.symm.trans h.1, h.2⟩) ⟨hov, va0, va1, va2, va3, va4, va5, va6, vb0, vb1, vb2, vb3, vb4, vb5, vb6⟩ ?_
      iterate 7
       refine Heads.step (v := ?_) rfl (by first | (go_simp; done) | rfl) (fun W hW => ?_) ?_
       rotate_left
       ·
        (obtain ⟨t0, t1, t2, t3, t4, t5, t6, t7, t8, t9, t10, t11, t12, t13, t14⟩ := hW; go_simp; try with_reducible rfl)
      have HD : Hid ((w7.alloc (.cells #[.int .i64 kda, .int .i64 ata, .int .i64 opa, .int .i64 wda, .int .u64 (numa : Int), .string nma, .slice Aa na ca, .int .i64 kdb, .int .i64 atb, .int .i64 opb, .int .i64 wdb, .int .u64 (numb : Int), .string nmb, .slice Ab nb cb] 56)).drew.heap[w7.heap.size]? = some (.cells #[.int .i64 kda, .int .i64 ata, .int .i64 opa, .int .i64 wda, .int .u64 (numa : Int), .string nma, .slice Aa na ca, .int .i64 kdb, .int .i64 atb, .int .i64 opb, .int .i64 wdb, .int .u64 (numb : Int), .string nmb, .slice Ab nb cb] 56)) := Lib.hid (heap_alloc_new w7 (.cells #[.int .i64 kda, .int .i64 ata, .int .i64 opa, .int .i64 wda, .int .u64 (numa : Int), .string nma, .slice Aa na ca, .int .i64 kdb, .int .i64 atb, .int .i64 opb, .int .i64 wdb, .int .u64 (numb : Int), .string nmb, .slice Ab nb cb] 56))
      have HOD : Hid (Only (fun _ => False) w7 (w7.alloc (.cells #[.int .i64 kda, .int .i64 ata, .int .i64 opa, .int .i64 wda, .int .u64 (numa : Int), .string nma, .slice Aa na ca, .int .i64 kdb, .int .i64 atb, .int .i64 opb, .int .i64 wdb, .int .u64 (numb : Int), .string nmb, .slice Ab nb cb] 56)).drew) := Lib.hid (((Only.refl _ w7).alloc _).drew)
      have hzD : ((w7.alloc (.cells #[.int .i64 kda, .int .i64 ata, .int .i64 opa, .int .i64 wda, .int .u64 (numa : Int), .string nma, .slice Aa na ca, .int .i64 kdb, .int .i64 atb, .int .i64 opb, .int .i64 wdb, .int .u64 (numb : Int), .string nmb, .slice Ab nb cb] 56)).drew).heap.size = w7.heap.size + 1 := (by simp : (w7.alloc (.cells #[.int .i64 kda, .int .i64 ata, .int .i64 opa, .int .i64 wda, .int .u64 (numa : Int), .string nma, .slice Aa na ca, .int .i64 kdb, .int .i64 atb, .int .i64 opb, .int .i64 wdb, .int .u64 (numb : Int), .string nmb, .slice Ab nb cb] 56)).heap.size = w7.heap.size + 1)
      refine AnyZ.one (i := 7) (by kernel_rfl) rfl (fun K hK => ?_)
      go_simp
      clear hov va0 va1 va2 va3 va4 va5 va6 vb0 vb1 vb2 vb3 vb4 vb5 vb6
      generalize (w7.alloc (.cells #[.int .i64 kda, .int .i64 ata, .int .i64 opa, .int .i64 wda, .int .u64 (numa : Int), .string nma, .slice Aa na ca, .int .i64 kdb, .int .i64 atb, .int .i64 opb, .int .i64 wdb, .int .u64 (numb : Int), .string nmb, .slice Ab nb cb] 56)).drew = w8 at *
      obtain ⟨bD, hbD⟩ : ∃ x, x = w7.heap.size := ⟨_, rfl⟩
      rw [← hbD] at HD
      try rw [← hbD]
      have haD : w7.heap.size ≤ bD := by omega
      have hbD2 : bD < w8.heap.size := by omega
      clear hbD hzD
      have hs8 := HOD.out.size
      replace HW : Hid (OnlyB b w w8) := Lib.hid (HW.out.then_ HOD.out (fun _ _ h => h.elim))
      replace HR := Lib.hid (HR.out.only HOD.out (fun h => h))
      replace HK4 := Lib.hid (HOD.out.heap HK4.out (fun h => h))
      replace HK5 := Lib.hid (HOD.out.heap HK5.out (fun h => h))
      replace HTc2 := Lib.hid (HTc2.out.only HOD.out (fun _ _ h => h))
      replace HIT := Lib.hid (HIT.out.only HOD.out (fun h => h))
      replace HST := Lib.hid (HST.out.only HOD.out (fun h => h))
      replace HTc3 := Lib.hid (HTc3.out.only HOD.out (fun _ h => h.elim))
      replace HK12 := Lib.hid (HOD.out.heap HK12.out (fun h => h))
      replace HOC := Lib.hid (HOD.out.cell HOC.out (fun h => h))
      clear HOD
      obtain ⟨⟨va0, va1, va2, va3, va4, va5, va6⟩, _⟩ := box7 HK5.out
      obtain ⟨⟨vb0, vb1, vb2, vb3, vb4, vb5, vb6⟩, _⟩ := box7 HK12.out
      have hov := HOC.out
      refine hK _ _ (fun _ => ⟨hov, va0, va1, va2, va3, va4, va5, va6, vb0, vb1, vb2, vb3, vb4, vb5, vb6⟩) ?_
      clear hK
      refine AnyZ.mid [8] [9] 1 rfl (by kernel_rfl) (by kernel_rfl) (by kernel_rfl) (fun _ _ _ _ e h => ⟨e.symm.trans h.1, h.2⟩) ⟨hov, va0, va1, va2, va3, va4, va5, va6, vb0, vb1, vb2, vb3, vb4, vb5, vb6⟩ ?_
      iterate 1
       refine Heads.step (v := ?_) rfl (by first | (go_simp; done) | rfl) (fun W hW => ?_) ?_
       rotate_left
       ·
        (obtain ⟨t0, t1, t2, t3, t4, t5, t6, t7, t8, t9, t10, t11, t12, t13, t14⟩ := hW; go_simp; try with_reducible rfl)
      obtain ⟨⟨u0, u1, u2, u3, u4, u5, u6⟩, uz⟩ := box7 HK5.out
      have z0 := uz 0
      have z1 := uz 1
      have z2 := uz 2
      have z3 := uz 3
      have z4 := uz 4
      have z5 := uz 5
      have z6 := uz 6
      clear uz
      have HS7 : Hid ((((((((w8.setCell ⟨b5, 0, none⟩ (.int .i64 6)).setCell ⟨b5, 1, none⟩ (.int .i64 (a1 : Int))).setCell ⟨b5, 2, none⟩ (.int .i64 ov)).setCell ⟨b5, 3, none⟩ (.int .i64 0)).setCell ⟨b5, 4, none⟩ (.int .u64 0)).setCell ⟨b5, 5, none⟩ (.string ⟨#[]⟩)).setCell ⟨b5, 6, none⟩ (.slice (some ⟨bD, 0, none⟩) 2 2)).heap[b5]? = some (.cells #[.int .i64 6, .int .i64 (a1 : Int), .int .i64 ov, .int .i64 0, .int .u64 0, .string ⟨#[]⟩, .slice (some ⟨bD, 0, none⟩) 2 2] 56)) := Lib.hid (st7_heap HK5.out (.int .i64 6) (.int .i64 (a1 : Int)) (.int .i64 ov) (.int .i64 0) (.int .u64 0) (.string ⟨#[]⟩) (.slice (some ⟨bD, 0, none⟩) 2 2))
      have HOS : Hid (Only (fun k => k = b5) w8 (((((((w8.setCell ⟨b5, 0, none⟩ (.int .i64 6)).setCell ⟨b5, 1, none⟩ (.int .i64 (a1 : Int))).setCell ⟨b5, 2, none⟩ (.int .i64 ov)).setCell ⟨b5, 3, none⟩ (.int .i64 0)).setCell ⟨b5, 4, none⟩ (.int .u64 0)).setCell ⟨b5, 5, none⟩ (.string ⟨#[]⟩)).setCell ⟨b5, 6, none⟩ (.slice (some ⟨bD, 0, none⟩) 2 2))) := Lib.hid (st7_only w8 b5 (.int .i64 6) (.int .i64 (a1 : Int)) (.int .i64 ov) (.int .i64 0) (.int .u64 0) (.string ⟨#[]⟩) (.slice (some ⟨bD, 0, none⟩) 2 2))
      refine AnyZ.one (i := 9) (by kernel_rfl) rfl (fun K hK => ?_)
      go_simp
      clear u0 u1 u2 u3 u4 u5 u6 z0 z1 z2 z3 z4 z5 z6 HK5
      generalize ((((((w8.setCell ⟨b5, 0, none⟩ (.int .i64 6)).setCell ⟨b5, 1, none⟩ (.int .i64 (a1 : Int))).setCell ⟨b5, 2, none⟩ (.int .i64 ov)).setCell ⟨b5, 3, none⟩ (.int .i64 0)).setCell ⟨b5, 4, none⟩ (.int .u64 0)).setCell ⟨b5, 5, none⟩ (.string ⟨#[]⟩)).setCell ⟨b5, 6, none⟩ (.slice (some ⟨bD, 0, none⟩) 2 2) = w9 at *
      refine hK _ _ (fun h => by cases h) ?_
      clear hK
      refine AnyZ.done (by kernel_rfl) ?_
      clear hov va0 va1 va2 va3 va4 va5 va6 vb0 vb1 vb2 vb3 vb4 vb5 vb6
      have HK5 := HS7
      clear HS7
      have hs9 := HOS.out.size
      clear HOC
      replace HW : Hid (OnlyB b w w9) := Lib.hid (HW.out.then_ HOS.out (fun i hi (h : i = b5) => by omega))
      replace HR := Lib.hid (HR.out.only HOS.out (by omega))
      replace HK4 := Lib.hid (HOS.out.heap HK4.out (by omega))
      replace HTc2 := Lib.hid (HTc2.out.only HOS.out (fun i hx (h : i = b5) => by omega))
      replace HIT := Lib.hid (HIT.out.only HOS.out (by omega))
      replace HST := Lib.hid (HST.out.only HOS.out (by omega))
      replace HTc3 := Lib.hid (HTc3.out.only HOS.out (fun i (h : i = b5) => by omega))
      replace HK12 := Lib.hid (HOS.out.heap HK12.out (by omega))
      replace HD := Lib.hid (HOS.out.heap HD.out (by omega))
      clear HOS
      go_wp2_with fail
      go_roundg m6
      case measure => omega
      case rel => exact ⟨_, _, _, by omega, Lib.hid ⟨HR.out, HW.out, HK4.out, HK5.out, HST.out, HIT.out, tre_bin (at_ := (a1 : Int)) HOV.out (lf2 HD.out ⟨by omega, by omega, by omega⟩ (HTc2.out.imp (fun x _ hx => ⟨by omega, by omega, by omega⟩)) (HTc3.out.imp (fun x _ hx => ⟨by omega, by omega, by omega⟩))) rfl rfl, by have := HTX.out; have := HM6.out; have := sgnL_len ov; have := innL_len kd2 t2; have := innL_len kd6 t3; simp only [List.length_append, List.length_cons, List.length_nil]; omega⟩⟩
  ·
   have hci : ((code : Int) == 0) = false := by rw [beq_eq_false_iff_ne]; omega
   have hg0 : gk = 0 := HF.out.hm.trans (rdM_bad hc)
   have HG := Lib.hid hg0
   clear hc hg0 HF HST HIT
   go_wp2_with (first | (refine wpl_load rfl 56 (.tmp 5) rfl b5 rfl HK5.out stE HTc2.out.size ?_) | (refine wpl_store rfl 56 (.tmp 4) (.tmp 69) rfl b4 rfl (cells := c2.toArray) rfl HK4.out stE HTc2.out.size rfl HTc2.out.ones ?_))
   clear HK4
   refine ⟨fun w5 HK4 ho5 => ?_⟩
   have hs5 := ho5.out.size
   replace HW : Hid (OnlyB b w w5) := Lib.hid (HW.out.then_ ho5.out (fun i hi (h : i = b4) => by omega))
   replace HR := Lib.hid (HR.out.only ho5.out (by omega))
   replace HK5 := Lib.hid (ho5.out.heap HK5.out (by omega))
   replace HTc2 := Lib.hid (HTc2.out.only ho5.out (fun i hx (h : i = b4) => by omega))
   clear ho5
   go_wp2_with fail
   exact bodyPost_ret (ret_box rfl _ rfl HK4.out stE HTc2.out.size) rfl (ExOut.mk HR.out HW.out (HTc2.out.imp (fun x _ hx => ⟨by omega, by omega⟩)) (.inl HG.out) rfl)
set_option maxRecDepth 100000 in
set_option maxHeartbeats 8000000 in
theorem expr_step {s : ByteArray} {b m : Nat} {w : World} (HI : Hid (ExI s b m)) (HB : Hid (∀ {w : World}, RdS s b w m → Calls Tryd.prog 36 #[.pointer (some ⟨b, 0, none⟩), .int .i64 0] w (ExOut s b m w))) (HR : Hid (RdS s b w m)) : Calls Tryd.prog 18 #[.pointer (some ⟨b, 0, none⟩)] w (ExOut s b m w) := by
 have hlt := HR.out.lt
 have HW : Hid (OnlyB b w w) := Lib.hid (Only.refl _ w)
 go_enter Tryd.func18, Tryd.ntmps18
 go_wp2_with (refine wpl_alloc rfl 56 rfl (some 2) rfl Tryd.zeroValue56 ?_)
 refine ⟨fun w1 b2 HK2 ho1 ha2 hb2 => ?_⟩
 have hs1 := ho1.out.size
 replace HW : Hid (OnlyB b w w1) := Lib.hid (HW.out.then_ ho1.out (fun _ _ h => h.elim))
 replace HR := Lib.hid (HR.out.only ho1.out (fun h => h))
 clear ho1
 go_wp2_with fail
 refine (HB.out HR.out).mono ?_
 rintro e w2 ⟨c1, t1, kd2, m2, rfl, hr, ho, ht, hm⟩
 have hle2 : m2 ≤ m := by omega
 have HM2 := Lib.hid hm
 have HTc1 := Lib.hid ht
 clear hm ht
 replace HR := Lib.hid hr
 have HOx := Lib.hid ho
 have hs2 := HOx.out.size
 clear hr ho
 replace HW : Hid (OnlyB b w w2) := Lib.hid (HW.out.then_ HOx.out (fun _ _ h => h))
 replace HK2 := Lib.hid (HOx.out.heap HK2.out (by omega))
 clear HOx
 go_wp2_with (refine wpl_box rfl rfl 56 rfl 3 rfl (.tmp 9) rfl rfl Tryd.zeroValue56 (cells := c1.toArray) (fun _ => rfl) (fun _ => rfl) stE HTc1.out.size rfl HTc1.out.ones ?_)
 refine ⟨fun w3 b3 HK3 ho3 ha3 hb3 => ?_⟩
 have hs3 := ho3.out.size
 replace HW : Hid (OnlyB b w w3) := Lib.hid (HW.out.then_ ho3.out (fun _ _ h => h.elim))
 replace HR := Lib.hid (HR.out.only ho3.out (fun h => h))
 replace HK2 := Lib.hid (ho3.out.heap HK2.out (fun h => h))
 replace HTc1 := Lib.hid (HTc1.out.only ho3.out (fun _ h => h.elim))
 clear ho3
 obtain ⟨kd, at_, wd, T, num, q, code, fat, hrf⟩ := HR.out
 have HF := Lib.hid hrf
 clear hrf
 obtain ⟨y2, z2⟩ := HF.out.c2
 go_wp2_with fail
 clear y2 z2 HF
 go_wp2_with fail
 refine (accept_any HR.out _).mono ?_
 rintro e w4 ⟨ok, m4, rfl, hr, ho, hy, hn⟩
 replace HR := Lib.hid hr
 have HOx := Lib.hid ho
 have hs4 := HOx.out.size
 clear hr ho
 replace HW : Hid (OnlyB b w w4) := Lib.hid (HW.out.then_ HOx.out (fun _ _ h => h))
 replace HK2 := Lib.hid (HOx.out.heap HK2.out (by omega))
 replace HTc1 := Lib.hid (HTc1.out.only HOx.out (fun i (h : i = b) => by omega))
 replace HK3 := Lib.hid (HOx.out.heap HK3.out (by omega))
 clear HOx
 cases ok with
 | false =>
  have hme := hn rfl
  have HME := Lib.hid hme
  clear hy hn hme
  go_wp2_with (first | (refine wpl_load rfl 56 (.tmp 3) rfl b3 rfl HK3.out stE HTc1.out.size ?_) | (refine wpl_store rfl 56 (.tmp 2) (.tmp 19) rfl b2 rfl (cells := c1.toArray) rfl HK2.out stE HTc1.out.size rfl HTc1.out.ones ?_))
  clear HK2
  refine ⟨fun w5 HK2 ho5 => ?_⟩
  have hs5 := ho5.out.size
  replace HW : Hid (OnlyB b w w5) := Lib.hid (HW.out.then_ ho5.out (fun i hi (h : i = b2) => by omega))
  replace HR := Lib.hid (HR.out.only ho5.out (by omega))
  replace HTc1 := Lib.hid (HTc1.out.only ho5.out (fun i (h : i = b2) => by omega))
  replace HK3 := Lib.hid (ho5.out.heap HK3.out (by omega))
  clear ho5
  go_wp2_with fail
  exact bodyPost_ret (ret_box rfl _ rfl HK2.out stE HTc1.out.size) rfl (ExOut.mk HR.out HW.out (HTc1.out.wide (by omega) (by omega)) (by rw [HME.out]; exact HM2.out) rfl)
 | true =>
  obtain ⟨hp4, hl4⟩ := hy rfl
  clear hy hn
  have hmm : m4 < m := by have := HM2.out; omega
  go_wp2_with fail
  refine (HI.out.expr _ _ hmm HR.out).mono ?_
  rintro e w5 ⟨c2, t2, kd5, m5, rfl, hr, ho, ht, hm⟩
  have hle5 : m5 ≤ m4 := by omega
  have HM5 := Lib.hid hm
  have HTc2 := Lib.hid ht
  clear hm ht
  replace HR := Lib.hid hr
  have HOx := Lib.hid ho
  have hs5 := HOx.out.size
  clear hr ho
  replace HW : Hid (OnlyB b w w5) := Lib.hid (HW.out.then_ HOx.out (fun _ _ h => h))
  replace HK2 := Lib.hid (HOx.out.heap HK2.out (by omega))
  replace HTc1 := Lib.hid (HTc1.out.only HOx.out (fun i (h : i = b) => by omega))
  replace HK3 := Lib.hid (HOx.out.heap HK3.out (by omega))
  clear HOx
  go_wp2_with (refine wpl_box rfl rfl 56 rfl 6 rfl (.tmp 21) rfl rfl Tryd.zeroValue56 (cells := c2.toArray) (fun _ => rfl) (fun _ => rfl) stE HTc2.out.size rfl HTc2.out.ones ?_)
  refine ⟨fun w6 b6 HK6 ho6 ha6 hb6 => ?_⟩
  have hs6 := ho6.out.size
  replace HW : Hid (OnlyB b w w6) := Lib.hid (HW.out.then_ ho6.out (fun _ _ h => h.elim))
  replace HR := Lib.hid (HR.out.only ho6.out (fun h => h))
  replace HK2 := Lib.hid (ho6.out.heap HK2.out (fun h => h))
  replace HTc1 := Lib.hid (HTc1.out.only ho6.out (fun _ h => h.elim))
  replace HK3 := Lib.hid (ho6.out.heap HK3.out (fun h => h))
  replace HTc2 := Lib.hid (HTc2.out.only ho6.out (fun _ h => h.elim))
  clear ho6
  go_wp2_with fail
  refine (must_any HR.out _).mono ?_
  rintro e w7 ⟨rfl, m7, hr, ho, hm⟩
  have hle7 : m7 ≤ m5 := by omega
  have HM7 := Lib.hid hm
  clear hm
  replace HR := Lib.hid hr
  have HOx := Lib.hid ho
  have hs7 := HOx.out.size
  clear hr ho
  replace HW : Hid (OnlyB b w w7) := Lib.hid (HW.out.then_ HOx.out (fun _ _ h => h))
  replace HK2 := Lib.hid (HOx.out.heap HK2.out (by omega))
  replace HTc1 := Lib.hid (HTc1.out.only HOx.out (fun i (h : i = b) => by omega))
  replace HK3 := Lib.hid (HOx.out.heap HK3.out (by omega))
  replace HTc2 := Lib.hid (HTc2.out.only HOx.out (fun i (h : i = b) => by omega))
  replace HK6 := Lib.hid (HOx.out.heap HK6.out (by omega))
  clear HOx
  have hm2 : m7 < m := by omega
  go_wp2_with fail
  refine (HI.out.expr _ _ hm2 HR.out).mono ?_
  rintro e w8 ⟨c3, t3, kd8, m8, rfl, hr, ho, ht, hm⟩
  have hle8 : m8 ≤ m7 := by omega
  have HM8 := Lib.hid hm
  have HTc3 := Lib.hid ht
  clear hm ht
  replace HR := Lib.hid hr
  have HOx := Lib.hid ho
  have hs8 := HOx.out.size
  clear hr ho
  replace HW : Hid (OnlyB b w w8) := Lib.hid (HW.out.then_ HOx.out (fun _ _ h => h))
  replace HK2 := Lib.hid (HOx.out.heap HK2.out (by omega))
  replace HTc1 := Lib.hid (HTc1.out.only HOx.out (fun i (h : i = b) => by omega))
  replace HK3 := Lib.hid (HOx.out.heap HK3.out (by omega))
  replace HTc2 := Lib.hid (HTc2.out.only HOx.out (fun i (h : i = b) => by omega))
  replace HK6 := Lib.hid (HOx.out.heap HK6.out (by omega))
  clear HOx
  go_wp2_with (refine wpl_box rfl rfl 56 rfl 7 rfl (.tmp 25) rfl rfl Tryd.zeroValue56 (cells := c3.toArray) (fun _ => rfl) (fun _ => rfl) stE HTc3.out.size rfl HTc3.out.ones ?_)
  refine ⟨fun w9 b7 HK7 ho9 ha7 hb7 => ?_⟩
  have hs9 := ho9.out.size
  replace HW : Hid (OnlyB b w w9) := Lib.hid (HW.out.then_ ho9.out (fun _ _ h => h.elim))
  replace HR := Lib.hid (HR.out.only ho9.out (fun h => h))
  replace HK2 := Lib.hid (ho9.out.heap HK2.out (fun h => h))
  replace HTc1 := Lib.hid (HTc1.out.only ho9.out (fun _ h => h.elim))
  replace HK3 := Lib.hid (ho9.out.heap HK3.out (fun h => h))
  replace HTc2 := Lib.hid (HTc2.out.only ho9.out (fun _ h => h.elim))
  replace HK6 := Lib.hid (ho9.out.heap HK6.out (fun h => h))
  replace HTc3 := Lib.hid (HTc3.out.only ho9.out (fun _ h => h.elim))
  clear ho9
  go_wp2_with (first | (refine wpl_load rfl 56 (.tmp 3) rfl b3 rfl HK3.out stE HTc1.out.size ?_) | (refine wpl_load rfl 56 (.tmp 6) rfl b6 rfl HK6.out stE HTc2.out.size ?_) | (refine wpl_load rfl 56 (.tmp 7) rfl b7 rfl HK7.out stE HTc3.out.size ?_) | (refine wpl_slice rfl 54 56 3 _ rfl (some 30) rfl Tryd.underlying54 (c1 ++ (c2 ++ c3)).toArray (builtE3 HTc1.out.len HTc2.out.len HTc3.out.len) ?_))
  refine ⟨fun w10 b30 HK30 ho10 ha30 hb30 => ?_⟩
  have hs10 := ho10.out.size
  replace HW : Hid (OnlyB b w w10) := Lib.hid (HW.out.then_ ho10.out (fun _ _ h => h.elim))
  replace HR := Lib.hid (HR.out.only ho10.out (fun h => h))
  replace HK2 := Lib.hid (ho10.out.heap HK2.out (fun h => h))
  replace HTc1 := Lib.hid (HTc1.out.only ho10.out (fun _ h => h.elim))
  replace HK3 := Lib.hid (ho10.out.heap HK3.out (fun h => h))
  replace HTc2 := Lib.hid (HTc2.out.only ho10.out (fun _ h => h.elim))
  replace HK6 := Lib.hid (ho10.out.heap HK6.out (fun h => h))
  replace HTc3 := Lib.hid (HTc3.out.only ho10.out (fun _ h => h.elim))
  replace HK7 := Lib.hid (ho10.out.heap HK7.out (fun h => h))
  clear ho10
  go_wp2_with (refine wpl_store rfl 56 (.tmp 2) (.tmp 31) rfl b2 rfl (cells := #[.int .i64 7, .int .i64 (at_ : Int), .int .i64 0, .int .i64 0, .int .u64 0, .string ⟨#[]⟩, .slice (some ⟨b30, 0, none⟩) 3 3]) rfl HK2.out stE rfl rfl (ones rfl) ?_)
  clear HK2
  refine ⟨fun w11 HK2 ho11 => ?_⟩
  have hs11 := ho11.out.size
  replace HW : Hid (OnlyB b w w11) := Lib.hid (HW.out.then_ ho11.out (fun i hi (h : i = b2) => by omega))
  replace HR := Lib.hid (HR.out.only ho11.out (by omega))
  replace HTc1 := Lib.hid (HTc1.out.only ho11.out (fun i (h : i = b2) => by omega))
  replace HK3 := Lib.hid (ho11.out.heap HK3.out (by omega))
  replace HTc2 := Lib.hid (HTc2.out.only ho11.out (fun i (h : i = b2) => by omega))
  replace HK6 := Lib.hid (ho11.out.heap HK6.out (by omega))
  replace HTc3 := Lib.hid (HTc3.out.only ho11.out (fun i (h : i = b2) => by omega))
  replace HK7 := Lib.hid (ho11.out.heap HK7.out (by omega))
  replace HK30 := Lib.hid (ho11.out.heap HK30.out (by omega))
  clear ho11
  go_wp2_with fail
  exact bodyPost_ret (ret_box rfl _ rfl HK2.out stE rfl) rfl (ExOut.mk HR.out HW.out (tre_cond (lf3 HK30.out ⟨by omega, by omega⟩ (HTc1.out.wide (by omega) (by omega)) (HTc2.out.wide (by omega) (by omega)) (HTc3.out.wide (by omega) (by omega))) rfl rfl rfl) (by have := HM2.out; have := HM5.out; have := HM7.out; have := HM8.out; have := innL_len kd2 t1; have := innL_len kd5 t2; have := innL_len kd8 t3; simp only [List.length_append, List.length_cons, List.length_nil]; omega) rfl)
/-- all of them -/
structure ExAll (s : ByteArray) (b m : Nat) : Prop where
 expr : ∀ w, RdS s b w m → Calls Tryd.prog 18 #[.pointer (some ⟨b, 0, none⟩)] w (ExOut s b m w)
 unary : ∀ w, RdS s b w m → Calls Tryd.prog 54 #[.pointer (some ⟨b, 0, none⟩)] w (ExOut s b m w)
 binary : ∀ w l, l ≤ 10 → RdS s b w m → Calls Tryd.prog 36 #[.pointer (some ⟨b, 0, none⟩), .int .i64 ((l : Nat) : Int)] w (ExOut s b m w)
 braces : ∀ w x, 0 < m → RdS s b w m → Calls Tryd.prog 79 #[.pointer (some ⟨b, 0, none⟩), .bool x] w (ExOut s b m w)
theorem ex_all (s : ByteArray) (b m : Nat) : ExAll s b m := by
 induction m using Nat.strongRecOn with
 | _ m ih =>
  have HI : Hid (ExI s b m) := Lib.hid ⟨fun w m' h hr => (ih m' h).expr w hr, fun w m' h hr => (ih m' h).unary w hr, fun w m' l h hl hr => (ih m' h).binary w l hl hr, fun w m' x h hp hr => (ih m' h).braces w x hp hr⟩
  have hb : ∀ w x, 0 < m → RdS s b w m → Calls Tryd.prog 79 #[.pointer (some ⟨b, 0, none⟩), .bool x] w (ExOut s b m w) := fun w x hp hr => braces_any HI hp x (Lib.hid hr)
  have hp : ∀ w, RdS s b w m → Calls Tryd.prog 69 #[.pointer (some ⟨b, 0, none⟩)] w (ExOut s b m w) := fun w hr => primary_any HI (Lib.hid fun hr hp => hb _ false hp hr) (Lib.hid hr)
  have hu : ∀ w, RdS s b w m → Calls Tryd.prog 54 #[.pointer (some ⟨b, 0, none⟩)] w (ExOut s b m w) := fun w hr => unary_any HI (Lib.hid fun hr => hp _ hr) (Lib.hid hr)
  have h10 : ∀ w, RdS s b w m → Calls Tryd.prog 36 #[.pointer (some ⟨b, 0, none⟩), .int .i64 ((10 : Nat) : Int)] w (ExOut s b m w) := fun w hr => binary_top (Lib.hid fun hr => hu _ hr) (Lib.hid hr)
  have hst : ∀ l, l ≤ 9 → (∀ w, RdS s b w m → Calls Tryd.prog 36 #[.pointer (some ⟨b, 0, none⟩), .int .i64 ((l + 1 : Nat) : Int)] w (ExOut s b m w)) → ∀ w, RdS s b w m → Calls Tryd.prog 36 #[.pointer (some ⟨b, 0, none⟩), .int .i64 ((l : Nat) : Int)] w (ExOut s b m w) := fun l hl hn w hr =>
   binary_step l hl (Lib.hid fun hr => hn _ hr) (Lib.hid fun h hr => HI.out.binary _ _ (l + 1) h (by omega) hr) (Lib.hid hr)
  have hd : ∀ k l, l + k = 10 → ∀ w, RdS s b w m → Calls Tryd.prog 36 #[.pointer (some ⟨b, 0, none⟩), .int .i64 ((l : Nat) : Int)] w (ExOut s b m w) := by
   intro k
   induction k with
   | zero =>
    intro l h
    obtain rfl : l = 10 := by omega
    exact h10
   | succ k ihk =>
    intro l h
    exact hst l (by omega) (ihk (l + 1) (by omega))
  exact ⟨fun w hr => expr_step HI (Lib.hid fun hr => hd 10 0 (by omega) _ hr) (Lib.hid hr), hu, fun w l hl hr => hd (10 - l) l (by omega) w hr, hb⟩
theorem ex_I (s : ByteArray) (b m : Nat) : ExI s b m :=
 ⟨fun w m' _ hr => (ex_all s b m').expr w hr, fun w m' _ hr => (ex_all s b m').unary w hr, fun w m' l _ hl hr => (ex_all s b m').binary w l hl hr, fun w m' x _ hp hr => (ex_all s b m').braces w x hp hr⟩
theorem expr_any {s : ByteArray} {b m : Nat} {w : World} (hr : RdS s b w m) : Calls Tryd.prog 18 #[.pointer (some ⟨b, 0, none⟩)] w (ExOut s b m w) := (ex_all s b m).expr w hr
theorem placeR_any {s : ByteArray} {b m : Nat} {w : World} (hr : RdS s b w m) : Calls Tryd.prog 70 #[.pointer (some ⟨b, 0, none⟩)] w (ExOut s b m w) := place_any (Lib.hid (ex_I s b m)) (Lib.hid hr)
end Go.Proofs.YtbdcpealkllfnaaDoor
