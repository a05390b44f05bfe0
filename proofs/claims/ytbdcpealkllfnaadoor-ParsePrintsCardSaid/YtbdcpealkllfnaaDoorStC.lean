/- The reference's Reader: stmt, walked. Condition: the text is shorter than 1000000 bytes. -/
import Derived.Test.YtbdcpealkllfnaaDoorStB
namespace Go.Proofs.YtbdcpealkllfnaaDoor
open Go.RowKit Go.Deep

theorem catB_snoc_len (T : Nat → LB) (n : Nat) (t : LB) : (catL (fun i => snocF T n t i ++ [32]) (n + 1)).length = (catL (fun i => T i ++ [32]) n).length + t.length + 1 := by
 simp only [catL]
 rw [catL_congr (T' := fun i => T i ++ [32]) n (fun i hi => by rw [snocF_lt _ _ hi]), snocF_at]
 simp only [List.length_append, List.length_cons, List.length_nil]
 omega
structure BkI (s : ByteArray) (b m : Nat) (w : World) (Z b2 b3 at_ : Nat) (g : Nat) (wr : World) (A : Option Addr) (n c : Nat) (T : Nat → LB) : Prop where
 rd : RdS s b wr g
 ol : OnlyB b w wr
 k2 : wr.heap[b2]? = some (.cells #[.int .i64 0, .int .i64 0, .bool false, .string ⟨#[]⟩, .slice none 0 0, .slice none 0 0, .slice none 0 0] 73)
 k3 : wr.heap[b3]? = some (.cells #[.int .i64 2, .int .i64 (at_ : Int), .bool false, .string ⟨#[]⟩, .slice none 0 0, .slice A n c, .slice none 0 0] 73)
 ls : Ls FS 73 7 Z b wr A n c T
 nn : n + g ≤ m + 1
 tx : g = 0 ∨ (g < m ∧ (catL (fun i => T i ++ [32]) n).length + 60 * g + 40 ≤ 60 * m)
 sz : Z ≤ wr.heap.size
set_option maxRecDepth 100000 in
set_option maxHeartbeats 8000000 in
theorem stmt_step {s : ByteArray} {b m : Nat} {w : World} (HI : Hid (∀ {w : World} {m1 : Nat}, m1 < m → RdS s b w m1 → Calls Tryd.prog 58 #[.pointer (some ⟨b, 0, none⟩)] w (StOut s b m1 w))) (HR : Hid (RdS s b w m)) : Calls Tryd.prog 58 #[.pointer (some ⟨b, 0, none⟩)] w (StOut s b m w) := by
 have HR0 := HR
 have hlt := HR.out.lt
 have HW : Hid (OnlyB b w w) := Lib.hid (Only.refl _ w)
 go_enter Tryd.func58, Tryd.ntmps58
 go_wp2_with (refine wpl_alloc rfl 73 rfl (some 2) rfl Tryd.zeroValue73 ?_)
 refine ⟨fun w1 b2 HK2 ho1 ha2 hb2 => ?_⟩
 have hs1 := ho1.out.size
 replace HW : Hid (OnlyB b w w1) := Lib.hid (HW.out.then_ ho1.out (fun _ _ h => h.elim))
 replace HR := Lib.hid (HR.out.only ho1.out (fun h => h))
 clear ho1
 obtain ⟨kd, at_, wd, T, num, q, code, fat, hrf⟩ := HR.out
 have HF := Lib.hid hrf
 clear hrf
 obtain ⟨y2, z2⟩ := HF.out.c2
 go_wp2_with (refine wpl_box rfl rfl 73 rfl 3 rfl (.tmp 16) rfl rfl Tryd.zeroValue73 (cells := #[.int .i64 0, .int .i64 (at_ : Int), .bool false, .string ⟨#[]⟩, .slice none 0 0, .slice none 0 0, .slice none 0 0]) (fun _ => rfl) (fun _ => rfl) stSt rfl rfl (ones rfl) ?_)
 refine ⟨fun w2 b3 HK3 ho2 ha3 hb3 => ?_⟩
 have hs2 := ho2.out.size
 replace HW : Hid (OnlyB b w w2) := Lib.hid (HW.out.then_ ho2.out (fun _ _ h => h.elim))
 replace HR := Lib.hid (HR.out.only ho2.out (fun h => h))
 replace HK2 := Lib.hid (ho2.out.heap HK2.out (fun h => h))
 clear ho2
 clear y2 z2 HF
 go_wp2_with fail
 refine (accept_any HR.out _).mono ?_
 rintro e w3 ⟨ok, m3, rfl, hr, ho, hy, hn⟩
 replace HR := Lib.hid hr
 have HOx := Lib.hid ho
 have hs3 := HOx.out.size
 clear hr ho
 replace HW : Hid (OnlyB b w w3) := Lib.hid (HW.out.then_ HOx.out (fun _ _ h => h))
 replace HK2 := Lib.hid (HOx.out.heap HK2.out (by omega))
 replace HK3 := Lib.hid (HOx.out.heap HK3.out (by omega))
 clear HOx
 cases ok with
 | true =>
  obtain ⟨hp3, hl3⟩ := hy rfl
  clear hy hn
  go_wp2_with (refine wpl_set rfl 3 (.tmp 43) (.const (.int .i64 1)) rfl b3 0 rfl (v := .int .i64 1) rfl Tryd.sizeOf3 rfl rfl HK3.out (by simp) ?_)
  clear HK3
  refine ⟨fun w4 HK3 ho4 => ?_⟩
  have hs4 := ho4.out.size
  replace HK3 : Hid (w4.heap[b3]? = some (.cells #[.int .i64 1, .int .i64 (at_ : Int), .bool false, .string ⟨#[]⟩, .slice none 0 0, .slice none 0 0, .slice none 0 0] _)) := HK3
  replace HW : Hid (OnlyB b w w4) := Lib.hid (HW.out.then_ ho4.out (fun i hi (h : i = b3) => by omega))
  replace HR := Lib.hid (HR.out.only ho4.out (by omega))
  replace HK2 := Lib.hid (ho4.out.heap HK2.out (by omega))
  clear ho4
  go_wp2_with (first | (refine wpl_load rfl 73 (.tmp 3) rfl b3 rfl HK3.out stSt rfl ?_) | (refine wpl_store rfl 73 (.tmp 2) (.tmp 129) rfl b2 rfl (cells := #[.int .i64 1, .int .i64 (at_ : Int), .bool false, .string ⟨#[]⟩, .slice none 0 0, .slice none 0 0, .slice none 0 0]) rfl HK2.out stSt rfl rfl (ones rfl) ?_))
  clear HK2
  refine ⟨fun w5 HK2 ho5 => ?_⟩
  have hs5 := ho5.out.size
  replace HW : Hid (OnlyB b w w5) := Lib.hid (HW.out.then_ ho5.out (fun i hi (h : i = b2) => by omega))
  replace HR := Lib.hid (HR.out.only ho5.out (by omega))
  replace HK3 := Lib.hid (ho5.out.heap HK3.out (by omega))
  clear ho5
  go_wp2_with fail
  exact bodyPost_ret (ret_box rfl _ rfl HK2.out stSt rfl) rfl (StOut.mk HR.out HW.out (trs_mk (kd := 1) (nm := []) (AE := none) (ne := 0) (cE := 0) (TE := (fun _ => ([], 0))) (AS := none) (ns := 0) (cS := 0) (TS := (fun _ => ([] : LB))) (AR := none) (na := 0) (cR := 0) (TR := (fun _ => ([] : LB))) LfP.nil LfP.nil LfP.nil (by omega) (by omega) (by omega) ⟨by omega, by simp, fun h => by omega, fun h => by omega, fun h => by omega, fun h => by omega⟩) (.inr ⟨by omega, by show ([59] : LB).length + _ + _ ≤ _; simp only [List.length_cons, List.length_nil]; omega⟩) rfl)
 | false =>
  obtain rfl : m = m3 := (hn rfl).symm
  clear hy hn
  go_wp2_with fail
  refine (accept_any HR.out _).mono ?_
  rintro e w4 ⟨ok, m4, rfl, hr, ho, hy, hn⟩
  replace HR := Lib.hid hr
  have HOx := Lib.hid ho
  have hs4 := HOx.out.size
  clear hr ho
  replace HW : Hid (OnlyB b w w4) := Lib.hid (HW.out.then_ HOx.out (fun _ _ h => h))
  replace HK2 := Lib.hid (HOx.out.heap HK2.out (by omega))
  replace HK3 := Lib.hid (HOx.out.heap HK3.out (by omega))
  clear HOx
  cases ok with
  | true =>
   obtain ⟨hp4, hl4⟩ := hy rfl
   clear hy hn
   go_wp2_with (refine wpl_set rfl 3 (.tmp 47) (.const (.int .i64 2)) rfl b3 0 rfl (v := .int .i64 2) rfl Tryd.sizeOf3 rfl rfl HK3.out (by simp) ?_)
   clear HK3
   refine ⟨fun w5 HK3 ho5 => ?_⟩
   have hs5 := ho5.out.size
   replace HK3 : Hid (w5.heap[b3]? = some (.cells #[.int .i64 2, .int .i64 (at_ : Int), .bool false, .string ⟨#[]⟩, .slice none 0 0, .slice none 0 0, .slice none 0 0] _)) := HK3
   replace HW : Hid (OnlyB b w w5) := Lib.hid (HW.out.then_ ho5.out (fun i hi (h : i = b3) => by omega))
   replace HR := Lib.hid (HR.out.only ho5.out (by omega))
   replace HK2 := Lib.hid (ho5.out.heap HK2.out (by omega))
   clear ho5
   go_wp2_with fail
   have H0 : Hid (BkI s b m w w5.heap.size b2 b3 at_ m4 w5 none 0 0 (fun _ => ([] : LB))) := Lib.hid ⟨HR.out, HW.out, HK2.out, HK3.out, Ls.nil, by omega, by simp only [catL, List.length_nil]; omega, by omega⟩
   clear HR HW HK2 HK3
   go_loopg [48] m4 (fun g _ wr => ∃ A n c T, Hid (BkI s b m w w5.heap.size b2 b3 at_ g wr A n c T))
   case atStart => exact ⟨_, _, _, _, H0⟩
   case round =>
    clear H0
    obtain ⟨A, n, c, TS, HB⟩ := hrel
    have HR := Lib.hid HB.out.rd
    have HW := Lib.hid HB.out.ol
    have HK2 := Lib.hid HB.out.k2
    have HK3 := Lib.hid HB.out.k3
    have HL := Lib.hid HB.out.ls
    have hnn := HB.out.nn
    have HTX := Lib.hid HB.out.tx
    have hsr := HB.out.sz
    clear HB
    have hmm := HR0.out.le
    obtain ⟨kdx, at_x, wdx, Tx, numx, qx, codex, fatx, hrf⟩ := HR.out
    have HFx := Lib.hid hrf
    clear hrf
    have HF := HFx
    clear HFx
    obtain ⟨y7, z7⟩ := HF.out.c7
    by_cases hc : codex = 0
    ·
     subst hc
     have hg0 : 0 < gk := by rw [HF.out.hm]; exact rdM_pos
     clear HF
     go_wp2_with fail
     clear y7 z7
     go_wp2_with fail
     refine (is_any HR.out _).mono ?_
     rintro e w6 ⟨ok, rfl, hwe, hik⟩
     obtain rfl := hwe.symm
     cases ok with
     | true =>
      clear hik
      go_wp2_with fail
      refine (must_any HR.out _).mono ?_
      rintro e w7 ⟨rfl, m7, hr, ho, hm⟩
      have hle7 : m7 ≤ gk := by omega
      have HM7 := Lib.hid hm
      clear hm
      replace HR := Lib.hid hr
      have HOx := Lib.hid ho
      have hs7 := HOx.out.size
      clear hr ho
      replace HW : Hid (OnlyB b w w7) := Lib.hid (HW.out.then_ HOx.out (fun _ _ h => h))
      replace HK3 := Lib.hid (HOx.out.heap HK3.out (by omega))
      replace HK2 := Lib.hid (HOx.out.heap HK2.out (by omega))
      replace HL := Lib.hid (HL.out.only HOx.out (fun i hi (h : i = b) => by omega))
      clear HOx
      go_wp2_with (first | (refine wpl_load rfl 73 (.tmp 3) rfl b3 rfl HK3.out stSt rfl ?_) | (refine wpl_store rfl 73 (.tmp 2) (.tmp 129) rfl b2 rfl (cells := #[.int .i64 2, .int .i64 (at_ : Int), .bool false, .string ⟨#[]⟩, .slice none 0 0, .slice A n c, .slice none 0 0]) rfl HK2.out stSt rfl rfl (ones rfl) ?_))
      clear HK2
      refine ⟨fun w8 HK2 ho8 => ?_⟩
      have hs8 := ho8.out.size
      replace HW : Hid (OnlyB b w w8) := Lib.hid (HW.out.then_ ho8.out (fun i hi (h : i = b2) => by omega))
      replace HR := Lib.hid (HR.out.only ho8.out (by omega))
      replace HK3 := Lib.hid (ho8.out.heap HK3.out (by omega))
      replace HL := Lib.hid (HL.out.only ho8.out (fun i hi (h : i = b2) => by omega))
      clear ho8
      go_wp2_with fail
      exact bodyPost_ret (ret_box rfl _ rfl HK2.out stSt rfl) rfl (StOut.mk HR.out HW.out (trs_mk (kd := 2) (nm := []) (AE := none) (ne := 0) (cE := 0) (TE := (fun _ => ([], 0))) (AR := none) (na := 0) (cR := 0) (TR := (fun _ => ([] : LB))) LfP.nil (HL.out.done.wide (by omega) (by omega)) LfP.nil (by omega) (by omega) (by omega) ⟨by omega, by simp, fun h => by omega, fun h => by omega, fun h => by omega, fun h => by omega⟩) (by have := HTX.out; have := HM7.out; rw [show txS 2 false [] (fun i => ((fun _ => ([], 0)) i).1) n TS 0 (fun _ => ([] : LB)) = [98, 101, 103, 105, 110, 32] ++ catL (fun i => TS i ++ [32]) n ++ [101, 110, 100] from rfl]; simp only [List.length_append, List.length_cons, List.length_nil]; omega) rfl)
     | false =>
      clear hik
      have HLLT := Lib.hid HL.out.lt
      have hgm : gk < m := by have := HTX.out; omega
      go_wp2_with fail
      refine (HI.out hgm HR.out).mono ?_
      rintro e w7 ⟨c1, t1, m7, rfl, hr, ho, ht, hm⟩
      have hle7 : m7 ≤ gk := by omega
      have HM7 := Lib.hid hm
      have HTc1 := Lib.hid ht
      clear hm ht
      replace HR := Lib.hid hr
      have HOx := Lib.hid ho
      have hs7 := HOx.out.size
      clear hr ho
      replace HW : Hid (OnlyB b w w7) := Lib.hid (HW.out.then_ HOx.out (fun _ _ h => h))
      replace HK3 := Lib.hid (HOx.out.heap HK3.out (by omega))
      replace HK2 := Lib.hid (HOx.out.heap HK2.out (by omega))
      replace HL := Lib.hid (HL.out.only HOx.out (fun i hi (h : i = b) => by omega))
      clear HOx
      go_wp2_with (refine wpl_box rfl rfl 73 rfl 4 rfl (.tmp 60) rfl rfl Tryd.zeroValue73 (cells := c1.toArray) (fun _ => rfl) (fun _ => rfl) stSt (sizeS HTc1.out) rfl (onesS HTc1.out) ?_)
      refine ⟨fun w8 b4 HK4 ho8 ha4 hb4 => ?_⟩
      have hs8 := ho8.out.size
      replace HW : Hid (OnlyB b w w8) := Lib.hid (HW.out.then_ ho8.out (fun _ _ h => h.elim))
      replace HR := Lib.hid (HR.out.only ho8.out (fun h => h))
      replace HK3 := Lib.hid (ho8.out.heap HK3.out (fun h => h))
      replace HK2 := Lib.hid (ho8.out.heap HK2.out (fun h => h))
      replace HL := Lib.hid (HL.out.only ho8.out (fun _ _ h => h.elim))
      replace HTc1 := Lib.hid (HTc1.out.only ho8.out (fun _ h => h.elim))
      clear ho8
      obtain ⟨y6, z6⟩ : w8.cell? ⟨b3, 5, none⟩ = some (.slice A n c) ∧ w8.frozen? ⟨b3, 5, none⟩ = false := cell_at HK3.out rfl
      go_wp2_with (first | (refine wpl_load rfl 73 (.tmp 4) rfl b4 rfl HK4.out stSt (sizeS HTc1.out) ?_) | (refine wpl_slice rfl 70 73 1 _ rfl (some 64) rfl Tryd.underlying70 c1.toArray (builtS1 (lenS HTc1.out)) ?_))
      refine ⟨fun w9 b64 HK64 ho9 ha64 hb64 => ?_⟩
      have hs9 := ho9.out.size
      replace HW : Hid (OnlyB b w w9) := Lib.hid (HW.out.then_ ho9.out (fun _ _ h => h.elim))
      replace HR := Lib.hid (HR.out.only ho9.out (fun h => h))
      replace HK3 := Lib.hid (ho9.out.heap HK3.out (fun h => h))
      replace HK2 := Lib.hid (ho9.out.heap HK2.out (fun h => h))
      replace HL := Lib.hid (HL.out.only ho9.out (fun _ _ h => h.elim))
      replace HTc1 := Lib.hid (HTc1.out.only ho9.out (fun _ h => h.elim))
      replace HK4 := Lib.hid (ho9.out.heap HK4.out (fun h => h))
      clear ho9
      clear y6 z6
      go_wp2_with (refine wpl_push rfl (.tmp 62) (.tmp 64) 70 rfl elS rfl HL.out rfl HK64.out (lenS HTc1.out) (oneS HTc1.out) HTc1.out (by omega) (by omega) (fun k hk => by have := HLLT.out k hk; omega) (by omega) (by omega) (by omega) ?_)
      refine ⟨fun A2 c2 w10 HLn ho10 => ?_⟩
      have hs10 := ho10.out.size
      clear HL HTc1
      clear HK4
      clear HK64
      replace HW : Hid (OnlyB b w w10) := Lib.hid (HW.out.then_ ho10.out (fun i hi (h : w5.heap.size ≤ i) => by omega))
      replace HR := Lib.hid (HR.out.only ho10.out (by omega))
      replace HK3 := Lib.hid (ho10.out.heap HK3.out (by omega))
      replace HK2 := Lib.hid (ho10.out.heap HK2.out (by omega))
      clear ho10
      have HL := HLn
      clear HLn
      go_wp2_with (refine wpl_set rfl 70 (.tmp 66) (.tmp 65) rfl b3 5 rfl (v := .slice A2 (n + 1) c2) rfl Tryd.sizeOf70 rfl rfl HK3.out (by simp) ?_)
      clear HK3
      refine ⟨fun w11 HK3 ho11 => ?_⟩
      have hs11 := ho11.out.size
      replace HK3 : Hid (w11.heap[b3]? = some (.cells #[.int .i64 2, .int .i64 (at_ : Int), .bool false, .string ⟨#[]⟩, .slice none 0 0, .slice A2 (n + 1) c2, .slice none 0 0] _)) := HK3
      replace HW : Hid (OnlyB b w w11) := Lib.hid (HW.out.then_ ho11.out (fun i hi (h : i = b3) => by omega))
      replace HR := Lib.hid (HR.out.only ho11.out (by omega))
      replace HK2 := Lib.hid (ho11.out.heap HK2.out (by omega))
      replace HL := Lib.hid (HL.out.only ho11.out (fun i hi (h : i = b3) => by omega))
      clear ho11
      go_wp2_with fail
      have hlt9 : m7 < gk := by have := HM7.out; omega
      go_roundg m7
      case measure => omega
      case rel => exact ⟨A2, n + 1, c2, _, Lib.hid ⟨HR.out, HW.out, HK2.out, HK3.out, HL.out, by omega, by have := HTX.out; have := HM7.out; have := catB_snoc_len TS n t1; omega, by omega⟩⟩
    ·
     have hci : ((codex : Int) == 0) = false := by rw [beq_eq_false_iff_ne]; omega
     clear hc HF
     go_wp2_with fail
     refine (must_any HR.out _).mono ?_
     rintro e w6 ⟨rfl, m6, hr, ho, hm⟩
     have hle6 : m6 ≤ gk := by omega
     have HM6 := Lib.hid hm
     clear hm
     replace HR := Lib.hid hr
     have HOx := Lib.hid ho
     have hs6 := HOx.out.size
     clear hr ho
     replace HW : Hid (OnlyB b w w6) := Lib.hid (HW.out.then_ HOx.out (fun _ _ h => h))
     replace HK3 := Lib.hid (HOx.out.heap HK3.out (by omega))
     replace HK2 := Lib.hid (HOx.out.heap HK2.out (by omega))
     replace HL := Lib.hid (HL.out.only HOx.out (fun i hi (h : i = b) => by omega))
     clear HOx
     go_wp2_with (first | (refine wpl_load rfl 73 (.tmp 3) rfl b3 rfl HK3.out stSt rfl ?_) | (refine wpl_store rfl 73 (.tmp 2) (.tmp 129) rfl b2 rfl (cells := #[.int .i64 2, .int .i64 (at_ : Int), .bool false, .string ⟨#[]⟩, .slice none 0 0, .slice A n c, .slice none 0 0]) rfl HK2.out stSt rfl rfl (ones rfl) ?_))
     clear HK2
     refine ⟨fun w7 HK2 ho7 => ?_⟩
     have hs7 := ho7.out.size
     replace HW : Hid (OnlyB b w w7) := Lib.hid (HW.out.then_ ho7.out (fun i hi (h : i = b2) => by omega))
     replace HR := Lib.hid (HR.out.only ho7.out (by omega))
     replace HK3 := Lib.hid (ho7.out.heap HK3.out (by omega))
     replace HL := Lib.hid (HL.out.only ho7.out (fun i hi (h : i = b2) => by omega))
     clear ho7
     go_wp2_with fail
     exact bodyPost_ret (ret_box rfl _ rfl HK2.out stSt rfl) rfl (StOut.mk HR.out HW.out (trs_mk (kd := 2) (nm := []) (AE := none) (ne := 0) (cE := 0) (TE := (fun _ => ([], 0))) (AR := none) (na := 0) (cR := 0) (TR := (fun _ => ([] : LB))) LfP.nil (HL.out.done.wide (by omega) (by omega)) LfP.nil (by omega) (by omega) (by omega) ⟨by omega, by simp, fun h => by omega, fun h => by omega, fun h => by omega, fun h => by omega⟩) (by have := HTX.out; have := HM6.out; rw [show txS 2 false [] (fun i => ((fun _ => ([], 0)) i).1) n TS 0 (fun _ => ([] : LB)) = [98, 101, 103, 105, 110, 32] ++ catL (fun i => TS i ++ [32]) n ++ [101, 110, 100] from rfl]; simp only [List.length_append, List.length_cons, List.length_nil]; omega) rfl)
  | false =>
   obtain rfl : m = m4 := (hn rfl).symm
   clear hy hn
   go_wp2_with fail
   refine (accept_any HR.out _).mono ?_
   rintro e w5 ⟨ok, m5, rfl, hr, ho, hy, hn⟩
   replace HR := Lib.hid hr
   have HOx := Lib.hid ho
   have hs5 := HOx.out.size
   clear hr ho
   replace HW : Hid (OnlyB b w w5) := Lib.hid (HW.out.then_ HOx.out (fun _ _ h => h))
   replace HK2 := Lib.hid (HOx.out.heap HK2.out (by omega))
   replace HK3 := Lib.hid (HOx.out.heap HK3.out (by omega))
   clear HOx
   cases ok with
   | true =>
    obtain ⟨hp5, hl5⟩ := hy rfl
    clear hy hn
    go_wp2_with (refine wpl_set rfl 3 (.tmp 72) (.const (.int .i64 3)) rfl b3 0 rfl (v := .int .i64 3) rfl Tryd.sizeOf3 rfl rfl HK3.out (by simp) ?_)
    clear HK3
    refine ⟨fun w6 HK3 ho6 => ?_⟩
    have hs6 := ho6.out.size
    replace HK3 : Hid (w6.heap[b3]? = some (.cells #[.int .i64 3, .int .i64 (at_ : Int), .bool false, .string ⟨#[]⟩, .slice none 0 0, .slice none 0 0, .slice none 0 0] _)) := HK3
    replace HW : Hid (OnlyB b w w6) := Lib.hid (HW.out.then_ ho6.out (fun i hi (h : i = b3) => by omega))
    replace HR := Lib.hid (HR.out.only ho6.out (by omega))
    replace HK2 := Lib.hid (ho6.out.heap HK2.out (by omega))
    clear ho6
    go_wp2_with fail
    refine (must_any HR.out _).mono ?_
    rintro e w7 ⟨rfl, m7, hr, ho, hm⟩
    have hle7 : m7 ≤ m5 := by omega
    have HM7 := Lib.hid hm
    clear hm
    replace HR := Lib.hid hr
    have HOx := Lib.hid ho
    have hs7 := HOx.out.size
    clear hr ho
    replace HW : Hid (OnlyB b w w7) := Lib.hid (HW.out.then_ HOx.out (fun _ _ h => h))
    replace HK2 := Lib.hid (HOx.out.heap HK2.out (by omega))
    replace HK3 := Lib.hid (HOx.out.heap HK3.out (by omega))
    clear HOx
    go_wp2_with fail
    refine (expr_any HR.out).mono ?_
    rintro e w8 ⟨c1, t1, kd8, m8, rfl, hr, ho, ht, hm⟩
    have hle8 : m8 ≤ m7 := by omega
    have HM8 := Lib.hid hm
    have HTc1 := Lib.hid ht
    clear hm ht
    replace HR := Lib.hid hr
    have HOx := Lib.hid ho
    have hs8 := HOx.out.size
    clear hr ho
    replace HW : Hid (OnlyB b w w8) := Lib.hid (HW.out.then_ HOx.out (fun _ _ h => h))
    replace HK2 := Lib.hid (HOx.out.heap HK2.out (by omega))
    replace HK3 := Lib.hid (HOx.out.heap HK3.out (by omega))
    clear HOx
    go_wp2_with (refine wpl_box rfl rfl 56 rfl 5 rfl (.tmp 76) rfl rfl Tryd.zeroValue56 (cells := c1.toArray) (fun _ => rfl) (fun _ => rfl) stE HTc1.out.size rfl HTc1.out.ones ?_)
    refine ⟨fun w9 b5 HK5 ho9 ha5 hb5 => ?_⟩
    have hs9 := ho9.out.size
    replace HW : Hid (OnlyB b w w9) := Lib.hid (HW.out.then_ ho9.out (fun _ _ h => h.elim))
    replace HR := Lib.hid (HR.out.only ho9.out (fun h => h))
    replace HK2 := Lib.hid (ho9.out.heap HK2.out (fun h => h))
    replace HK3 := Lib.hid (ho9.out.heap HK3.out (fun h => h))
    replace HTc1 := Lib.hid (HTc1.out.only ho9.out (fun _ h => h.elim))
    clear ho9
    go_wp2_with fail
    refine (must_any HR.out _).mono ?_
    rintro e w10 ⟨rfl, m10, hr, ho, hm⟩
    have hle10 : m10 ≤ m8 := by omega
    have HM10 := Lib.hid hm
    clear hm
    replace HR := Lib.hid hr
    have HOx := Lib.hid ho
    have hs10 := HOx.out.size
    clear hr ho
    replace HW : Hid (OnlyB b w w10) := Lib.hid (HW.out.then_ HOx.out (fun _ _ h => h))
    replace HK2 := Lib.hid (HOx.out.heap HK2.out (by omega))
    replace HK3 := Lib.hid (HOx.out.heap HK3.out (by omega))
    replace HTc1 := Lib.hid (HTc1.out.only HOx.out (fun i (h : i = b) => by omega))
    replace HK5 := Lib.hid (HOx.out.heap HK5.out (by omega))
    clear HOx
    have HL : Hid (Ls FE 56 7 w7.heap.size b w10 none 0 0 (fun _ => ([], 0))) := Lib.hid Ls.nil
    have HLLT : Hid (∀ k, blockOf none k → k < w7.heap.size) := Lib.hid (fun k hk => by obtain ⟨_, h, _⟩ := hk; cases h)
    obtain ⟨y6, z6⟩ : w10.cell? ⟨b3, 4, none⟩ = some (.slice none 0 0) ∧ w10.frozen? ⟨b3, 4, none⟩ = false := cell_at HK3.out rfl
    go_wp2_with (first | (refine wpl_load rfl 56 (.tmp 5) rfl b5 rfl HK5.out stE HTc1.out.size ?_) | (refine wpl_slice rfl 54 56 1 _ rfl (some 82) rfl Tryd.underlying54 c1.toArray (builtE1 HTc1.out.len) ?_))
    refine ⟨fun w11 b82 HK82 ho11 ha82 hb82 => ?_⟩
    have hs11 := ho11.out.size
    replace HW : Hid (OnlyB b w w11) := Lib.hid (HW.out.then_ ho11.out (fun _ _ h => h.elim))
    replace HR := Lib.hid (HR.out.only ho11.out (fun h => h))
    replace HK2 := Lib.hid (ho11.out.heap HK2.out (fun h => h))
    replace HK3 := Lib.hid (ho11.out.heap HK3.out (fun h => h))
    replace HTc1 := Lib.hid (HTc1.out.only ho11.out (fun _ h => h.elim))
    replace HK5 := Lib.hid (ho11.out.heap HK5.out (fun h => h))
    replace HL := Lib.hid (HL.out.only ho11.out (fun _ _ h => h.elim))
    clear ho11
    clear y6 z6
    go_wp2_with (refine wpl_push rfl (.tmp 80) (.tmp 82) 54 rfl elE rfl HL.out rfl HK82.out HTc1.out.len HTc1.out.one HTc1.out (by omega) (by omega) (fun k hk => by have := HLLT.out k hk; omega) (by omega) (by omega) (by omega) ?_)
    refine ⟨fun A1 n1c w12 HLn ho12 => ?_⟩
    have hs12 := ho12.out.size
    clear HL HTc1
    clear HK5
    clear HK82
    replace HW : Hid (OnlyB b w w12) := Lib.hid (HW.out.then_ ho12.out (fun i hi (h : w7.heap.size ≤ i) => by omega))
    replace HR := Lib.hid (HR.out.only ho12.out (by omega))
    replace HK2 := Lib.hid (ho12.out.heap HK2.out (by omega))
    replace HK3 := Lib.hid (ho12.out.heap HK3.out (by omega))
    clear ho12
    have HL := HLn
    clear HLn
    replace HL : Hid (Ls FE 56 7 w7.heap.size b w12 A1 1 n1c (snocF (fun _ => ([], 0)) 0 (t1, kd8))) := HL
    have HLE := Lib.hid HL.out.done
    clear HL HLLT
    go_wp2_with (refine wpl_set rfl 54 (.tmp 84) (.tmp 83) rfl b3 4 rfl (v := .slice A1 1 n1c) rfl Tryd.sizeOf54 rfl rfl HK3.out (by simp) ?_)
    clear HK3
    refine ⟨fun w13 HK3 ho13 => ?_⟩
    have hs13 := ho13.out.size
    replace HK3 : Hid (w13.heap[b3]? = some (.cells #[.int .i64 3, .int .i64 (at_ : Int), .bool false, .string ⟨#[]⟩, .slice A1 1 n1c, .slice none 0 0, .slice none 0 0] _)) := HK3
    replace HW : Hid (OnlyB b w w13) := Lib.hid (HW.out.then_ ho13.out (fun i hi (h : i = b3) => by omega))
    replace HR := Lib.hid (HR.out.only ho13.out (by omega))
    replace HK2 := Lib.hid (ho13.out.heap HK2.out (by omega))
    replace HLE := Lib.hid (HLE.out.only ho13.out (fun i (h : i = b3) => by omega))
    clear ho13
    have hgm : m10 < m := by omega
    go_wp2_with fail
    refine (HI.out hgm HR.out).mono ?_
    rintro e w14 ⟨c2, t2, m14, rfl, hr, ho, ht, hm⟩
    have hle14 : m14 ≤ m10 := by omega
    have HM14 := Lib.hid hm
    have HTc2 := Lib.hid ht
    clear hm ht
    replace HR := Lib.hid hr
    have HOx := Lib.hid ho
    have hs14 := HOx.out.size
    clear hr ho
    replace HW : Hid (OnlyB b w w14) := Lib.hid (HW.out.then_ HOx.out (fun _ _ h => h))
    replace HK2 := Lib.hid (HOx.out.heap HK2.out (by omega))
    replace HK3 := Lib.hid (HOx.out.heap HK3.out (by omega))
    replace HLE := Lib.hid (HLE.out.only HOx.out (fun i (h : i = b) => by omega))
    clear HOx
    go_wp2_with (refine wpl_box rfl rfl 73 rfl 6 rfl (.tmp 86) rfl rfl Tryd.zeroValue73 (cells := c2.toArray) (fun _ => rfl) (fun _ => rfl) stSt (sizeS HTc2.out) rfl (onesS HTc2.out) ?_)
    refine ⟨fun w15 b6 HK6 ho15 ha6 hb6 => ?_⟩
    have hs15 := ho15.out.size
    replace HW : Hid (OnlyB b w w15) := Lib.hid (HW.out.then_ ho15.out (fun _ _ h => h.elim))
    replace HR := Lib.hid (HR.out.only ho15.out (fun h => h))
    replace HK2 := Lib.hid (ho15.out.heap HK2.out (fun h => h))
    replace HK3 := Lib.hid (ho15.out.heap HK3.out (fun h => h))
    replace HLE := Lib.hid (HLE.out.only ho15.out (fun _ h => h.elim))
    replace HTc2 := Lib.hid (HTc2.out.only ho15.out (fun _ h => h.elim))
    clear ho15
    have HL : Hid (Ls FS 73 7 w13.heap.size b6 w15 none 0 0 (fun _ => ([] : LB))) := Lib.hid Ls.nil
    have HLLT : Hid (∀ k, blockOf none k → k < w13.heap.size) := Lib.hid (fun k hk => by obtain ⟨_, h, _⟩ := hk; cases h)
    have HL0 := Lib.hid (lenS HTc2.out)
    obtain ⟨y6, z6⟩ : w15.cell? ⟨b3, 5, none⟩ = some (.slice none 0 0) ∧ w15.frozen? ⟨b3, 5, none⟩ = false := cell_at HK3.out rfl
    go_wp2_with (first | (refine wpl_load rfl 73 (.tmp 6) rfl b6 rfl HK6.out stSt (sizeS HTc2.out) ?_) | (refine wpl_slice rfl 70 73 1 _ rfl (some 90) rfl Tryd.underlying70 c2.toArray (builtS1 (lenS HTc2.out)) ?_))
    refine ⟨fun w16 b90 HK90 ho16 ha90 hb90 => ?_⟩
    have hs16 := ho16.out.size
    replace HW : Hid (OnlyB b w w16) := Lib.hid (HW.out.then_ ho16.out (fun _ _ h => h.elim))
    replace HR := Lib.hid (HR.out.only ho16.out (fun h => h))
    replace HK2 := Lib.hid (ho16.out.heap HK2.out (fun h => h))
    replace HK3 := Lib.hid (ho16.out.heap HK3.out (fun h => h))
    replace HLE := Lib.hid (HLE.out.only ho16.out (fun _ h => h.elim))
    replace HTc2 := Lib.hid (HTc2.out.only ho16.out (fun _ h => h.elim))
    replace HK6 := Lib.hid (ho16.out.heap HK6.out (fun h => h))
    replace HL := Lib.hid (HL.out.only ho16.out (fun _ _ h => h.elim))
    clear ho16
    clear y6 z6
    go_wp2_with (refine wpl_pushX rfl (.tmp 88) (.tmp 90) 70 rfl elS rfl HL.out rfl HK90.out (lenS HTc2.out) (oneS HTc2.out) HTc2.out (by omega) (by omega) (fun k hk => by have := HLLT.out k hk; omega) (by omega) (by omega) (by omega) ?_)
    refine ⟨fun A2 n2c w17 HLn ho17 => ?_⟩
    have hs17 := ho17.out.size
    clear HL HTc2
    clear HK90
    replace HW : Hid (OnlyB b w w17) := Lib.hid (HW.out.then_ ho17.out (fun i hi (h : w13.heap.size ≤ i ∧ i ≠ b6) => by omega))
    replace HR := Lib.hid (HR.out.only ho17.out (by omega))
    replace HK2 := Lib.hid (ho17.out.heap HK2.out (by omega))
    replace HK3 := Lib.hid (ho17.out.heap HK3.out (by omega))
    replace HLE := Lib.hid (HLE.out.only ho17.out (fun i (h : w13.heap.size ≤ i ∧ i ≠ b6) => by omega))
    replace HK6 := Lib.hid (ho17.out.heap HK6.out (by omega))
    clear ho17
    have HL := HLn
    clear HLn
    replace HL : Hid (Ls FS 73 7 w13.heap.size b6 w17 A2 1 n2c (snocF (fun _ => ([] : LB)) 0 t2)) := HL
    go_wp2_with (refine wpl_set rfl 70 (.tmp 92) (.tmp 91) rfl b3 5 rfl (v := .slice A2 1 n2c) rfl Tryd.sizeOf70 rfl rfl HK3.out (by simp) ?_)
    clear HK3
    refine ⟨fun w18 HK3 ho18 => ?_⟩
    have hs18 := ho18.out.size
    replace HK3 : Hid (w18.heap[b3]? = some (.cells #[.int .i64 3, .int .i64 (at_ : Int), .bool false, .string ⟨#[]⟩, .slice A1 1 n1c, .slice A2 1 n2c, .slice none 0 0] _)) := HK3
    replace HW : Hid (OnlyB b w w18) := Lib.hid (HW.out.then_ ho18.out (fun i hi (h : i = b3) => by omega))
    replace HR := Lib.hid (HR.out.only ho18.out (by omega))
    replace HK2 := Lib.hid (ho18.out.heap HK2.out (by omega))
    replace HLE := Lib.hid (HLE.out.only ho18.out (fun i (h : i = b3) => by omega))
    replace HK6 := Lib.hid (ho18.out.heap HK6.out (by omega))
    replace HL := Lib.hid (HL.out.only ho18.out (fun i hi (h : i = b3) => by omega))
    clear ho18
    go_wp2_with fail
    refine (accept_any HR.out _).mono ?_
    rintro e w19 ⟨oe, m19, rfl, hr, ho, hy, hn⟩
    replace HR := Lib.hid hr
    have HOx := Lib.hid ho
    have hs19 := HOx.out.size
    clear hr ho
    replace HW : Hid (OnlyB b w w19) := Lib.hid (HW.out.then_ HOx.out (fun _ _ h => h))
    replace HK2 := Lib.hid (HOx.out.heap HK2.out (by omega))
    replace HK3 := Lib.hid (HOx.out.heap HK3.out (by omega))
    replace HLE := Lib.hid (HLE.out.only HOx.out (fun i (h : i = b) => by omega))
    replace HK6 := Lib.hid (HOx.out.heap HK6.out (by omega))
    replace HL := Lib.hid (HL.out.only HOx.out (fun i hi (h : i = b) => by omega))
    clear HOx
    cases oe with
    | false =>
     have HME := Lib.hid (hn rfl)
     clear hy hn
     go_wp2_with (first | (refine wpl_load rfl 73 (.tmp 3) rfl b3 rfl HK3.out stSt rfl ?_) | (refine wpl_store rfl 73 (.tmp 2) (.tmp 129) rfl b2 rfl (cells := #[.int .i64 3, .int .i64 (at_ : Int), .bool false, .string ⟨#[]⟩, .slice A1 1 n1c, .slice A2 1 n2c, .slice none 0 0]) rfl HK2.out stSt rfl rfl (ones rfl) ?_))
     clear HK2
     refine ⟨fun w20 HK2 ho20 => ?_⟩
     have hs20 := ho20.out.size
     replace HW : Hid (OnlyB b w w20) := Lib.hid (HW.out.then_ ho20.out (fun i hi (h : i = b2) => by omega))
     replace HR := Lib.hid (HR.out.only ho20.out (by omega))
     replace HK3 := Lib.hid (ho20.out.heap HK3.out (by omega))
     replace HLE := Lib.hid (HLE.out.only ho20.out (fun i (h : i = b2) => by omega))
     replace HK6 := Lib.hid (ho20.out.heap HK6.out (by omega))
     replace HL := Lib.hid (HL.out.only ho20.out (fun i hi (h : i = b2) => by omega))
     clear ho20
     go_wp2_with fail
     exact bodyPost_ret (ret_box rfl _ rfl HK2.out stSt rfl) rfl (StOut.mk HR.out HW.out (trs_mk (kd := 3) (nm := []) (AR := none) (na := 0) (cR := 0) (TR := (fun _ => ([] : LB))) (HLE.out.wide (by omega) (by omega)) (HL.out.done.wide (by omega) (by omega)) LfP.nil (by omega) (by omega) (by omega) ⟨by omega, by simp, fun _ => ⟨rfl, by omega, by omega⟩, fun h => by omega, fun h => by omega, fun h => by omega⟩) (by have := HM7.out; have := HM8.out; have := HM10.out; have := HM14.out; have := HME.out; rw [show txS 3 false [] (fun i => (snocF (fun _ => ([], 0)) 0 (t1, kd8) i).1) 1 (snocF (fun _ => ([] : LB)) 0 t2) 0 (fun _ => ([] : LB)) = [105, 102, 32, 40] ++ t1 ++ [41, 32] ++ t2 ++ [] from rfl]; simp only [List.length_append, List.length_cons, List.length_nil]; omega) rfl)
    | true =>
     obtain ⟨hp19, hl19⟩ := hy rfl
     clear hy hn
     have HLLT2 := Lib.hid HL.out.lt
     clear HLLT
     have HLLT := HLLT2
     clear HLLT2
     have hgm3 : m19 < m := by omega
     go_wp2_with fail
     refine (HI.out hgm3 HR.out).mono ?_
     rintro e w20 ⟨c3, t3, m20, rfl, hr, ho, ht, hm⟩
     have hle20 : m20 ≤ m19 := by omega
     have HM20 := Lib.hid hm
     have HTc3 := Lib.hid ht
     clear hm ht
     replace HR := Lib.hid hr
     have HOx := Lib.hid ho
     have hs20 := HOx.out.size
     clear hr ho
     replace HW : Hid (OnlyB b w w20) := Lib.hid (HW.out.then_ HOx.out (fun _ _ h => h))
     replace HK2 := Lib.hid (HOx.out.heap HK2.out (by omega))
     replace HK3 := Lib.hid (HOx.out.heap HK3.out (by omega))
     replace HLE := Lib.hid (HLE.out.only HOx.out (fun i (h : i = b) => by omega))
     replace HK6 := Lib.hid (HOx.out.heap HK6.out (by omega))
     replace HL := Lib.hid (HL.out.only HOx.out (fun i hi (h : i = b) => by omega))
     clear HOx
     go_wp2_with (refine wpl_store rfl 73 (.tmp 6) (.tmp 97) rfl b6 rfl (cells := c3.toArray) rfl HK6.out stSt (sizeS HTc3.out) (by simpa using HL0.out) (onesS HTc3.out) ?_)
     clear HK6
     refine ⟨fun w21 HK6 ho21 => ?_⟩
     have hs21 := ho21.out.size
     replace HW : Hid (OnlyB b w w21) := Lib.hid (HW.out.then_ ho21.out (fun i hi (h : i = b6) => by omega))
     replace HR := Lib.hid (HR.out.only ho21.out (by omega))
     replace HK2 := Lib.hid (ho21.out.heap HK2.out (by omega))
     replace HK3 := Lib.hid (ho21.out.heap HK3.out (by omega))
     replace HLE := Lib.hid (HLE.out.only ho21.out (fun i (h : i = b6) => by omega))
     replace HL := Lib.hid (HL.out.only ho21.out (fun i hi (h : i = b6) => by omega))
     replace HTc3 := Lib.hid (HTc3.out.only ho21.out (fun i (h : i = b6) => by omega))
     clear ho21
     obtain ⟨y6, z6⟩ : w21.cell? ⟨b3, 5, none⟩ = some (.slice A2 1 n2c) ∧ w21.frozen? ⟨b3, 5, none⟩ = false := cell_at HK3.out rfl
     go_wp2_with (first | (refine wpl_load rfl 73 (.tmp 6) rfl b6 rfl HK6.out stSt (sizeS HTc3.out) ?_) | (refine wpl_slice rfl 70 73 1 _ rfl (some 101) rfl Tryd.underlying70 c3.toArray (builtS1 (lenS HTc3.out)) ?_))
     refine ⟨fun w22 b101 HK101 ho22 ha101 hb101 => ?_⟩
     have hs22 := ho22.out.size
     replace HW : Hid (OnlyB b w w22) := Lib.hid (HW.out.then_ ho22.out (fun _ _ h => h.elim))
     replace HR := Lib.hid (HR.out.only ho22.out (fun h => h))
     replace HK2 := Lib.hid (ho22.out.heap HK2.out (fun h => h))
     replace HK3 := Lib.hid (ho22.out.heap HK3.out (fun h => h))
     replace HLE := Lib.hid (HLE.out.only ho22.out (fun _ h => h.elim))
     replace HK6 := Lib.hid (ho22.out.heap HK6.out (fun h => h))
     replace HL := Lib.hid (HL.out.only ho22.out (fun _ _ h => h.elim))
     replace HTc3 := Lib.hid (HTc3.out.only ho22.out (fun _ h => h.elim))
     clear ho22
     clear y6 z6
     go_wp2_with (refine wpl_push rfl (.tmp 99) (.tmp 101) 70 rfl elS rfl HL.out rfl HK101.out (lenS HTc3.out) (oneS HTc3.out) HTc3.out (by omega) (by omega) (fun k hk => by have := HLLT.out k hk; omega) (by omega) (by omega) (by omega) ?_)
     refine ⟨fun A3 n3c w23 HLn ho23 => ?_⟩
     have hs23 := ho23.out.size
     clear HL HTc3
     clear HK101
     clear HK6
     replace HW : Hid (OnlyB b w w23) := Lib.hid (HW.out.then_ ho23.out (fun i hi (h : w13.heap.size ≤ i) => by omega))
     replace HR := Lib.hid (HR.out.only ho23.out (by omega))
     replace HK2 := Lib.hid (ho23.out.heap HK2.out (by omega))
     replace HK3 := Lib.hid (ho23.out.heap HK3.out (by omega))
     replace HLE := Lib.hid (HLE.out.only ho23.out (fun i (h : w13.heap.size ≤ i) => by omega))
     clear ho23
     have HL := HLn
     clear HLn
     replace HL : Hid (Ls FS 73 7 w13.heap.size b6 w23 A3 2 n3c (snocF (snocF (fun _ => ([] : LB)) 0 t2) 1 t3)) := HL
     go_wp2_with (refine wpl_set rfl 70 (.tmp 103) (.tmp 102) rfl b3 5 rfl (v := .slice A3 2 n3c) rfl Tryd.sizeOf70 rfl rfl HK3.out (by simp) ?_)
     clear HK3
     refine ⟨fun w24 HK3 ho24 => ?_⟩
     have hs24 := ho24.out.size
     replace HK3 : Hid (w24.heap[b3]? = some (.cells #[.int .i64 3, .int .i64 (at_ : Int), .bool false, .string ⟨#[]⟩, .slice A1 1 n1c, .slice A3 2 n3c, .slice none 0 0] _)) := HK3
     replace HW : Hid (OnlyB b w w24) := Lib.hid (HW.out.then_ ho24.out (fun i hi (h : i = b3) => by omega))
     replace HR := Lib.hid (HR.out.only ho24.out (by omega))
     replace HK2 := Lib.hid (ho24.out.heap HK2.out (by omega))
     replace HLE := Lib.hid (HLE.out.only ho24.out (fun i (h : i = b3) => by omega))
     replace HL := Lib.hid (HL.out.only ho24.out (fun i hi (h : i = b3) => by omega))
     clear ho24
     go_wp2_with (first | (refine wpl_load rfl 73 (.tmp 3) rfl b3 rfl HK3.out stSt rfl ?_) | (refine wpl_store rfl 73 (.tmp 2) (.tmp 129) rfl b2 rfl (cells := #[.int .i64 3, .int .i64 (at_ : Int), .bool false, .string ⟨#[]⟩, .slice A1 1 n1c, .slice A3 2 n3c, .slice none 0 0]) rfl HK2.out stSt rfl rfl (ones rfl) ?_))
     clear HK2
     refine ⟨fun w25 HK2 ho25 => ?_⟩
     have hs25 := ho25.out.size
     replace HW : Hid (OnlyB b w w25) := Lib.hid (HW.out.then_ ho25.out (fun i hi (h : i = b2) => by omega))
     replace HR := Lib.hid (HR.out.only ho25.out (by omega))
     replace HK3 := Lib.hid (ho25.out.heap HK3.out (by omega))
     replace HLE := Lib.hid (HLE.out.only ho25.out (fun i (h : i = b2) => by omega))
     replace HL := Lib.hid (HL.out.only ho25.out (fun i hi (h : i = b2) => by omega))
     clear ho25
     go_wp2_with fail
     exact bodyPost_ret (ret_box rfl _ rfl HK2.out stSt rfl) rfl (StOut.mk HR.out HW.out (trs_mk (kd := 3) (nm := []) (AR := none) (na := 0) (cR := 0) (TR := (fun _ => ([] : LB))) (HLE.out.wide (by omega) (by omega)) (HL.out.done.wide (by omega) (by omega)) LfP.nil (by omega) (by omega) (by omega) ⟨by omega, by simp, fun _ => ⟨rfl, by omega, by omega⟩, fun h => by omega, fun h => by omega, fun h => by omega⟩) (by have := HM7.out; have := HM8.out; have := HM10.out; have := HM14.out; have := HM20.out; rw [show txS 3 false [] (fun i => (snocF (fun _ => ([], 0)) 0 (t1, kd8) i).1) 2 (snocF (snocF (fun _ => ([] : LB)) 0 t2) 1 t3) 0 (fun _ => ([] : LB)) = [105, 102, 32, 40] ++ t1 ++ [41, 32] ++ t2 ++ ([32, 101, 108, 115, 101, 32] ++ t3) from rfl]; simp only [List.length_append, List.length_cons, List.length_nil]; omega) rfl)
   | false =>
    obtain rfl : m = m5 := (hn rfl).symm
    clear hy hn
    go_wp2_with fail
    refine (accept_any HR.out _).mono ?_
    rintro e w6 ⟨ok, m6, rfl, hr, ho, hy, hn⟩
    replace HR := Lib.hid hr
    have HOx := Lib.hid ho
    have hs6 := HOx.out.size
    clear hr ho
    replace HW : Hid (OnlyB b w w6) := Lib.hid (HW.out.then_ HOx.out (fun _ _ h => h))
    replace HK2 := Lib.hid (HOx.out.heap HK2.out (by omega))
    replace HK3 := Lib.hid (HOx.out.heap HK3.out (by omega))
    clear HOx
    cases ok with
    | true =>
     obtain ⟨hp6, hl6⟩ := hy rfl
     clear hy hn
     have HS : Hid (∀ {w : World} {m1 : Nat}, m1 ≤ m6 → RdS s b w m1 → Calls Tryd.prog 58 #[.pointer (some ⟨b, 0, none⟩)] w (StOut s b m1 w)) := Lib.hid (fun h hr => HI.out (by omega) hr)
     go_wp2_with (refine wpl_load rfl 73 (.tmp 3) rfl b3 rfl HK3.out stSt rfl ?_)
     refine (cases_any (at_ : Int) HS HR).mono ?_
     rintro e w7 ⟨c1, t1, m7, rfl, hr, ho, ht, hm⟩
     have hle7 : m7 ≤ m6 := by omega
     have HM7 := Lib.hid hm
     have HTc1 := Lib.hid ht
     clear hm ht
     replace HR := Lib.hid hr
     have HOx := Lib.hid ho
     have hs7 := HOx.out.size
     clear hr ho
     replace HW : Hid (OnlyB b w w7) := Lib.hid (HW.out.then_ HOx.out (fun _ _ h => h))
     replace HK2 := Lib.hid (HOx.out.heap HK2.out (by omega))
     replace HK3 := Lib.hid (HOx.out.heap HK3.out (by omega))
     clear HOx
     go_wp2_with (refine wpl_store rfl 73 (.tmp 2) (.tmp 109) rfl b2 rfl (cells := c1.toArray) rfl HK2.out stSt (sizeS HTc1.out) rfl (onesS HTc1.out) ?_)
     clear HK2
     refine ⟨fun w8 HK2 ho8 => ?_⟩
     have hs8 := ho8.out.size
     replace HW : Hid (OnlyB b w w8) := Lib.hid (HW.out.then_ ho8.out (fun i hi (h : i = b2) => by omega))
     replace HR := Lib.hid (HR.out.only ho8.out (by omega))
     replace HK3 := Lib.hid (ho8.out.heap HK3.out (by omega))
     replace HTc1 := Lib.hid (HTc1.out.only ho8.out (fun i (h : i = b2) => by omega))
     clear ho8
     go_wp2_with fail
     exact bodyPost_ret (ret_box rfl _ rfl HK2.out stSt (sizeS HTc1.out)) rfl (StOut.mk HR.out HW.out (HTc1.out.wide (by omega) (by omega)) (by have := HM7.out; omega) rfl)
    | false =>
     obtain rfl : m = m6 := (hn rfl).symm
     clear hy hn
     go_wp2_with fail
     refine (accept_any HR.out _).mono ?_
     rintro e w7 ⟨ok, m7, rfl, hr, ho, hy, hn⟩
     replace HR := Lib.hid hr
     have HOx := Lib.hid ho
     have hs7 := HOx.out.size
     clear hr ho
     replace HW : Hid (OnlyB b w w7) := Lib.hid (HW.out.then_ HOx.out (fun _ _ h => h))
     replace HK2 := Lib.hid (HOx.out.heap HK2.out (by omega))
     replace HK3 := Lib.hid (HOx.out.heap HK3.out (by omega))
     clear HOx
     cases ok with
     | true =>
      obtain ⟨hp7, hl7⟩ := hy rfl
      clear hy hn
      go_wp2_with (refine wpl_set rfl 3 (.tmp 113) (.const (.int .i64 6)) rfl b3 0 rfl (v := .int .i64 6) rfl Tryd.sizeOf3 rfl rfl HK3.out (by simp) ?_)
      clear HK3
      refine ⟨fun w8 HK3 ho8 => ?_⟩
      have hs8 := ho8.out.size
      replace HK3 : Hid (w8.heap[b3]? = some (.cells #[.int .i64 6, .int .i64 (at_ : Int), .bool false, .string ⟨#[]⟩, .slice none 0 0, .slice none 0 0, .slice none 0 0] _)) := HK3
      replace HW : Hid (OnlyB b w w8) := Lib.hid (HW.out.then_ ho8.out (fun i hi (h : i = b3) => by omega))
      replace HR := Lib.hid (HR.out.only ho8.out (by omega))
      replace HK2 := Lib.hid (ho8.out.heap HK2.out (by omega))
      clear ho8
      go_wp2_with fail
      refine (loop_any HR).mono ?_
      rintro e w9 ⟨nm, D0, u0, u1, u2, k0, k1, k2, m9, rfl, hnm, hr, ho, ht, hm⟩
      have hle9 : m9 ≤ m7 := by omega
      have HM9 := Lib.hid hm
      have HLP := Lib.hid ht
      clear hm ht
      replace HR := Lib.hid hr
      have HOx := Lib.hid ho
      have hs9 := HOx.out.size
      clear hr ho
      replace HW : Hid (OnlyB b w w9) := Lib.hid (HW.out.then_ HOx.out (fun _ _ h => h))
      replace HK2 := Lib.hid (HOx.out.heap HK2.out (by omega))
      replace HK3 := Lib.hid (HOx.out.heap HK3.out (by omega))
      clear HOx
      go_wp2_with (refine wpl_set rfl 9 (.tmp 119) (.tmp 117) rfl b3 3 rfl (v := .string (bstr nm)) rfl Tryd.sizeOf9 rfl rfl HK3.out (by simp) ?_)
      clear HK3
      refine ⟨fun w10 HK3 ho10 => ?_⟩
      have hs10 := ho10.out.size
      replace HK3 : Hid (w10.heap[b3]? = some (.cells #[.int .i64 6, .int .i64 (at_ : Int), .bool false, .string (bstr nm), .slice none 0 0, .slice none 0 0, .slice none 0 0] _)) := HK3
      replace HW : Hid (OnlyB b w w10) := Lib.hid (HW.out.then_ ho10.out (fun i hi (h : i = b3) => by omega))
      replace HR := Lib.hid (HR.out.only ho10.out (by omega))
      replace HK2 := Lib.hid (ho10.out.heap HK2.out (by omega))
      replace HLP := Lib.hid (HLP.out.only ho10.out (fun i (h : i = b3) => by omega))
      clear ho10
      go_wp2_with (refine wpl_set rfl 54 (.tmp 120) (.tmp 118) rfl b3 4 rfl (v := .slice (some ⟨D0, 0, none⟩) 3 3) rfl Tryd.sizeOf54 rfl rfl HK3.out (by simp) ?_)
      clear HK3
      refine ⟨fun w11 HK3 ho11 => ?_⟩
      have hs11 := ho11.out.size
      replace HK3 : Hid (w11.heap[b3]? = some (.cells #[.int .i64 6, .int .i64 (at_ : Int), .bool false, .string (bstr nm), .slice (some ⟨D0, 0, none⟩) 3 3, .slice none 0 0, .slice none 0 0] _)) := HK3
      replace HW : Hid (OnlyB b w w11) := Lib.hid (HW.out.then_ ho11.out (fun i hi (h : i = b3) => by omega))
      replace HR := Lib.hid (HR.out.only ho11.out (by omega))
      replace HK2 := Lib.hid (ho11.out.heap HK2.out (by omega))
      replace HLP := Lib.hid (HLP.out.only ho11.out (fun i (h : i = b3) => by omega))
      clear ho11
      have hgm : m9 < m := by omega
      go_wp2_with fail
      refine (HI.out hgm HR.out).mono ?_
      rintro e w12 ⟨c2, t2, m12, rfl, hr, ho, ht, hm⟩
      have hle12 : m12 ≤ m9 := by omega
      have HM12 := Lib.hid hm
      have HTc2 := Lib.hid ht
      clear hm ht
      replace HR := Lib.hid hr
      have HOx := Lib.hid ho
      have hs12 := HOx.out.size
      clear hr ho
      replace HW : Hid (OnlyB b w w12) := Lib.hid (HW.out.then_ HOx.out (fun _ _ h => h))
      replace HK2 := Lib.hid (HOx.out.heap HK2.out (by omega))
      replace HK3 := Lib.hid (HOx.out.heap HK3.out (by omega))
      replace HLP := Lib.hid (HLP.out.only HOx.out (fun i (h : i = b) => by omega))
      clear HOx
      go_wp2_with (refine wpl_box rfl rfl 73 rfl 8 rfl (.tmp 122) rfl rfl Tryd.zeroValue73 (cells := c2.toArray) (fun _ => rfl) (fun _ => rfl) stSt (sizeS HTc2.out) rfl (onesS HTc2.out) ?_)
      refine ⟨fun w13 b8 HK8 ho13 ha8 hb8 => ?_⟩
      have hs13 := ho13.out.size
      replace HW : Hid (OnlyB b w w13) := Lib.hid (HW.out.then_ ho13.out (fun _ _ h => h.elim))
      replace HR := Lib.hid (HR.out.only ho13.out (fun h => h))
      replace HK2 := Lib.hid (ho13.out.heap HK2.out (fun h => h))
      replace HK3 := Lib.hid (ho13.out.heap HK3.out (fun h => h))
      replace HLP := Lib.hid (HLP.out.only ho13.out (fun _ h => h.elim))
      replace HTc2 := Lib.hid (HTc2.out.only ho13.out (fun _ h => h.elim))
      clear ho13
      have HL : Hid (Ls FS 73 7 w11.heap.size b w13 none 0 0 (fun _ => ([] : LB))) := Lib.hid Ls.nil
      have HLLT : Hid (∀ k, blockOf none k → k < w11.heap.size) := Lib.hid (fun k hk => by obtain ⟨_, h, _⟩ := hk; cases h)
      obtain ⟨y6, z6⟩ : w13.cell? ⟨b3, 5, none⟩ = some (.slice none 0 0) ∧ w13.frozen? ⟨b3, 5, none⟩ = false := cell_at HK3.out rfl
      go_wp2_with (first | (refine wpl_load rfl 73 (.tmp 8) rfl b8 rfl HK8.out stSt (sizeS HTc2.out) ?_) | (refine wpl_slice rfl 70 73 1 _ rfl (some 126) rfl Tryd.underlying70 c2.toArray (builtS1 (lenS HTc2.out)) ?_))
      refine ⟨fun w14 b126 HK126 ho14 ha126 hb126 => ?_⟩
      have hs14 := ho14.out.size
      replace HW : Hid (OnlyB b w w14) := Lib.hid (HW.out.then_ ho14.out (fun _ _ h => h.elim))
      replace HR := Lib.hid (HR.out.only ho14.out (fun h => h))
      replace HK2 := Lib.hid (ho14.out.heap HK2.out (fun h => h))
      replace HK3 := Lib.hid (ho14.out.heap HK3.out (fun h => h))
      replace HLP := Lib.hid (HLP.out.only ho14.out (fun _ h => h.elim))
      replace HTc2 := Lib.hid (HTc2.out.only ho14.out (fun _ h => h.elim))
      replace HK8 := Lib.hid (ho14.out.heap HK8.out (fun h => h))
      replace HL := Lib.hid (HL.out.only ho14.out (fun _ _ h => h.elim))
      clear ho14
      clear y6 z6
      go_wp2_with (refine wpl_push rfl (.tmp 124) (.tmp 126) 70 rfl elS rfl HL.out rfl HK126.out (lenS HTc2.out) (oneS HTc2.out) HTc2.out (by omega) (by omega) (fun k hk => by have := HLLT.out k hk; omega) (by omega) (by omega) (by omega) ?_)
      refine ⟨fun A2 n2c w15 HLn ho15 => ?_⟩
      have hs15 := ho15.out.size
      clear HL HTc2
      clear HK126
      clear HK8
      replace HW : Hid (OnlyB b w w15) := Lib.hid (HW.out.then_ ho15.out (fun i hi (h : w11.heap.size ≤ i) => by omega))
      replace HR := Lib.hid (HR.out.only ho15.out (by omega))
      replace HK2 := Lib.hid (ho15.out.heap HK2.out (by omega))
      replace HK3 := Lib.hid (ho15.out.heap HK3.out (by omega))
      replace HLP := Lib.hid (HLP.out.only ho15.out (fun i (h : w11.heap.size ≤ i) => by omega))
      clear ho15
      have HL := HLn
      clear HLn
      replace HL : Hid (Ls FS 73 7 w11.heap.size b w15 A2 1 n2c (snocF (fun _ => ([] : LB)) 0 t2)) := HL
      go_wp2_with (refine wpl_set rfl 70 (.tmp 128) (.tmp 127) rfl b3 5 rfl (v := .slice A2 1 n2c) rfl Tryd.sizeOf70 rfl rfl HK3.out (by simp) ?_)
      clear HK3
      refine ⟨fun w16 HK3 ho16 => ?_⟩
      have hs16 := ho16.out.size
      replace HK3 : Hid (w16.heap[b3]? = some (.cells #[.int .i64 6, .int .i64 (at_ : Int), .bool false, .string (bstr nm), .slice (some ⟨D0, 0, none⟩) 3 3, .slice A2 1 n2c, .slice none 0 0] _)) := HK3
      replace HW : Hid (OnlyB b w w16) := Lib.hid (HW.out.then_ ho16.out (fun i hi (h : i = b3) => by omega))
      replace HR := Lib.hid (HR.out.only ho16.out (by omega))
      replace HK2 := Lib.hid (ho16.out.heap HK2.out (by omega))
      replace HLP := Lib.hid (HLP.out.only ho16.out (fun i (h : i = b3) => by omega))
      replace HL := Lib.hid (HL.out.only ho16.out (fun i hi (h : i = b3) => by omega))
      clear ho16
      go_wp2_with (first | (refine wpl_load rfl 73 (.tmp 3) rfl b3 rfl HK3.out stSt rfl ?_) | (refine wpl_store rfl 73 (.tmp 2) (.tmp 129) rfl b2 rfl (cells := #[.int .i64 6, .int .i64 (at_ : Int), .bool false, .string (bstr nm), .slice (some ⟨D0, 0, none⟩) 3 3, .slice A2 1 n2c, .slice none 0 0]) rfl HK2.out stSt rfl rfl (ones rfl) ?_))
      clear HK2
      refine ⟨fun w17 HK2 ho17 => ?_⟩
      have hs17 := ho17.out.size
      replace HW : Hid (OnlyB b w w17) := Lib.hid (HW.out.then_ ho17.out (fun i hi (h : i = b2) => by omega))
      replace HR := Lib.hid (HR.out.only ho17.out (by omega))
      replace HK3 := Lib.hid (ho17.out.heap HK3.out (by omega))
      replace HLP := Lib.hid (HLP.out.only ho17.out (fun i (h : i = b2) => by omega))
      replace HL := Lib.hid (HL.out.only ho17.out (fun i hi (h : i = b2) => by omega))
      clear ho17
      go_wp2_with fail
      exact bodyPost_ret (ret_box rfl _ rfl HK2.out stSt rfl) rfl (StOut.mk HR.out HW.out (trs_mk (kd := 6) (nm := nm) (AR := none) (na := 0) (cR := 0) (TR := (fun _ => ([] : LB))) (HLP.out.wide (by omega) (by omega)) (HL.out.done.wide (by omega) (by omega)) LfP.nil (by omega) (by omega) (by omega) ⟨by omega, by omega, fun h => by omega, fun h => by omega, fun h => by omega, fun _ => ⟨rfl, rfl⟩⟩) (by have := HM9.out; have := HM12.out; rw [show txS 6 false nm (fun i => (fn3 (u0, k0) (u1, k1) (u2, k2) i).1) 1 (snocF (fun _ => ([] : LB)) 0 t2) 0 (fun _ => ([] : LB)) = [102, 111, 114, 32, 40] ++ nm ++ [32, 61, 32] ++ u0 ++ [59, 32] ++ u1 ++ [59, 32] ++ nm ++ [32, 61, 32] ++ u2 ++ [41, 32] ++ t2 from rfl]; simp only [List.length_append, List.length_cons, List.length_nil]; omega) rfl)
     | false =>
      obtain rfl : m = m7 := (hn rfl).symm
      clear hy hn
      go_wp2_with (refine wpl_set rfl 3 (.tmp 17) (.const (.int .i64 5)) rfl b3 0 rfl (v := .int .i64 5) rfl Tryd.sizeOf3 rfl rfl HK3.out (by simp) ?_)
      clear HK3
      refine ⟨fun w8 HK3 ho8 => ?_⟩
      have hs8 := ho8.out.size
      replace HK3 : Hid (w8.heap[b3]? = some (.cells #[.int .i64 5, .int .i64 (at_ : Int), .bool false, .string ⟨#[]⟩, .slice none 0 0, .slice none 0 0, .slice none 0 0] _)) := HK3
      replace HW : Hid (OnlyB b w w8) := Lib.hid (HW.out.then_ ho8.out (fun i hi (h : i = b3) => by omega))
      replace HR := Lib.hid (HR.out.only ho8.out (by omega))
      replace HK2 := Lib.hid (ho8.out.heap HK2.out (by omega))
      clear ho8
      go_wp2_with fail
      refine (target_any HR.out).mono ?_
      rintro e w9 ⟨c1, t1, kd9, m9, rfl, hr, ho, ht, hm⟩
      have hle9 : m9 ≤ m := by omega
      have HM9 := Lib.hid hm
      have HTc1 := Lib.hid ht
      clear hm ht
      replace HR := Lib.hid hr
      have HOx := Lib.hid ho
      have hs9 := HOx.out.size
      clear hr ho
      replace HW : Hid (OnlyB b w w9) := Lib.hid (HW.out.then_ HOx.out (fun _ _ h => h))
      replace HK2 := Lib.hid (HOx.out.heap HK2.out (by omega))
      replace HK3 := Lib.hid (HOx.out.heap HK3.out (by omega))
      clear HOx
      go_wp2_with (refine wpl_box rfl rfl 56 rfl 9 rfl (.tmp 19) rfl rfl Tryd.zeroValue56 (cells := c1.toArray) (fun _ => rfl) (fun _ => rfl) stE HTc1.out.size rfl HTc1.out.ones ?_)
      refine ⟨fun w10 b9 HK9 ho10 ha9 hb9 => ?_⟩
      have hs10 := ho10.out.size
      replace HW : Hid (OnlyB b w w10) := Lib.hid (HW.out.then_ ho10.out (fun _ _ h => h.elim))
      replace HR := Lib.hid (HR.out.only ho10.out (fun h => h))
      replace HK2 := Lib.hid (ho10.out.heap HK2.out (fun h => h))
      replace HK3 := Lib.hid (ho10.out.heap HK3.out (fun h => h))
      replace HTc1 := Lib.hid (HTc1.out.only ho10.out (fun _ h => h.elim))
      clear ho10
      go_wp2_with fail
      refine (is_any HR.out _).mono ?_
      rintro e w11 ⟨lt, rfl, hwe, hik⟩
      obtain rfl := hwe.symm
      cases lt with
      | true =>
       obtain ⟨hrk0, hpk⟩ := hik rfl
       clear hik
       have HRK := Lib.hid hrk0
       clear hrk0
       go_wp2_with (refine wpl_set rfl 4 (.tmp 22) (.tmp 21) rfl b3 2 rfl (v := .bool true) rfl Tryd.sizeOf4 rfl rfl HK3.out (by simp) ?_)
       clear HK3
       refine ⟨fun w12 HK3 ho12 => ?_⟩
       have hs12 := ho12.out.size
       replace HK3 : Hid (w12.heap[b3]? = some (.cells #[.int .i64 5, .int .i64 (at_ : Int), .bool true, .string ⟨#[]⟩, .slice none 0 0, .slice none 0 0, .slice none 0 0] _)) := HK3
       replace HW : Hid (OnlyB b w w12) := Lib.hid (HW.out.then_ ho12.out (fun i hi (h : i = b3) => by omega))
       replace HR := Lib.hid (HR.out.only ho12.out (by omega))
       replace HK2 := Lib.hid (ho12.out.heap HK2.out (by omega))
       replace HTc1 := Lib.hid (HTc1.out.only ho12.out (fun i (h : i = b3) => by omega))
       replace HK9 := Lib.hid (ho12.out.heap HK9.out (by omega))
       replace HRK := Lib.hid (HRK.out.only ho12.out (by omega))
       clear ho12
       obtain ⟨y6, z6⟩ : w12.cell? ⟨b3, 2, none⟩ = some (.bool true) ∧ w12.frozen? ⟨b3, 2, none⟩ = false := cell_at HK3.out rfl
       go_wp2_with fail
       clear y6 z6
       obtain ⟨a1, a2, a3, a4, a5, a6, a7, hrk⟩ := HRK.out
       clear HRK
       refine (stepK_any hrk).mono ?_
       clear hrk
       rintro e w13 ⟨rfl, mk, hr, ho, hk1, hk2, hk3⟩
       have hlk := hk3 (by omega) hpk
       clear hk1 hk2 hk3
       replace HR := Lib.hid hr
       have HOx := Lib.hid ho
       have hs13 := HOx.out.size
       clear hr ho
       replace HW : Hid (OnlyB b w w13) := Lib.hid (HW.out.then_ HOx.out (fun _ _ h => h))
       replace HK2 := Lib.hid (HOx.out.heap HK2.out (by omega))
       replace HK3 := Lib.hid (HOx.out.heap HK3.out (by omega))
       replace HTc1 := Lib.hid (HTc1.out.only HOx.out (fun i (h : i = b) => by omega))
       replace HK9 := Lib.hid (HOx.out.heap HK9.out (by omega))
       clear HOx
       go_wp2_with fail
       refine (expr_any HR.out).mono ?_
       rintro e w14 ⟨c2, t2, kd14, m14, rfl, hr, ho, ht, hm⟩
       have hle14 : m14 ≤ mk := by omega
       have HM14 := Lib.hid hm
       have HTc2 := Lib.hid ht
       clear hm ht
       replace HR := Lib.hid hr
       have HOx := Lib.hid ho
       have hs14 := HOx.out.size
       clear hr ho
       replace HW : Hid (OnlyB b w w14) := Lib.hid (HW.out.then_ HOx.out (fun _ _ h => h))
       replace HK2 := Lib.hid (HOx.out.heap HK2.out (by omega))
       replace HK3 := Lib.hid (HOx.out.heap HK3.out (by omega))
       replace HTc1 := Lib.hid (HTc1.out.only HOx.out (fun i (h : i = b) => by omega))
       replace HK9 := Lib.hid (HOx.out.heap HK9.out (by omega))
       clear HOx
       go_wp2_with (refine wpl_box rfl rfl 56 rfl 10 rfl (.tmp 30) rfl rfl Tryd.zeroValue56 (cells := c2.toArray) (fun _ => rfl) (fun _ => rfl) stE HTc2.out.size rfl HTc2.out.ones ?_)
       refine ⟨fun w15 b10 HK10 ho15 ha10 hb10 => ?_⟩
       have hs15 := ho15.out.size
       replace HW : Hid (OnlyB b w w15) := Lib.hid (HW.out.then_ ho15.out (fun _ _ h => h.elim))
       replace HR := Lib.hid (HR.out.only ho15.out (fun h => h))
       replace HK2 := Lib.hid (ho15.out.heap HK2.out (fun h => h))
       replace HK3 := Lib.hid (ho15.out.heap HK3.out (fun h => h))
       replace HTc1 := Lib.hid (HTc1.out.only ho15.out (fun _ h => h.elim))
       replace HK9 := Lib.hid (ho15.out.heap HK9.out (fun h => h))
       replace HTc2 := Lib.hid (HTc2.out.only ho15.out (fun _ h => h.elim))
       clear ho15
       have HL : Hid (Ls FE 56 7 w8.heap.size b w15 none 0 0 (fun _ => ([], 0))) := Lib.hid Ls.nil
       have HLLT : Hid (∀ k, blockOf none k → k < w8.heap.size) := Lib.hid (fun k hk => by obtain ⟨_, h, _⟩ := hk; cases h)
       obtain ⟨y6, z6⟩ : w15.cell? ⟨b3, 4, none⟩ = some (.slice none 0 0) ∧ w15.frozen? ⟨b3, 4, none⟩ = false := cell_at HK3.out rfl
       go_wp2_with (first | (refine wpl_load rfl 56 (.tmp 9) rfl b9 rfl HK9.out stE HTc1.out.size ?_) | (refine wpl_load rfl 56 (.tmp 10) rfl b10 rfl HK10.out stE HTc2.out.size ?_) | (refine wpl_slice rfl 54 56 2 _ rfl (some 35) rfl Tryd.underlying54 (c1 ++ c2).toArray (builtE2 HTc1.out.len HTc2.out.len) ?_))
       refine ⟨fun w16 b35 HK35 ho16 ha35 hb35 => ?_⟩
       have hs16 := ho16.out.size
       replace HW : Hid (OnlyB b w w16) := Lib.hid (HW.out.then_ ho16.out (fun _ _ h => h.elim))
       replace HR := Lib.hid (HR.out.only ho16.out (fun h => h))
       replace HK2 := Lib.hid (ho16.out.heap HK2.out (fun h => h))
       replace HK3 := Lib.hid (ho16.out.heap HK3.out (fun h => h))
       replace HTc1 := Lib.hid (HTc1.out.only ho16.out (fun _ h => h.elim))
       replace HK9 := Lib.hid (ho16.out.heap HK9.out (fun h => h))
       replace HTc2 := Lib.hid (HTc2.out.only ho16.out (fun _ h => h.elim))
       replace HK10 := Lib.hid (ho16.out.heap HK10.out (fun h => h))
       replace HL := Lib.hid (HL.out.only ho16.out (fun _ _ h => h.elim))
       clear ho16
       clear y6 z6
       have HLF : Hid (Lf FE 56 7 w8.heap.size w16.heap.size w16 (some ⟨b35, 0, none⟩) 2 (fn3 (t1, kd9) (t2, kd14) (t2, kd14))) := Lib.hid (lf2 HK35.out ⟨by omega, by omega⟩ (HTc1.out.wide (by omega) (by omega)) (HTc2.out.wide (by omega) (by omega)))
       go_wp2_with (refine wpl_more rfl (.tmp 32) (.tmp 35) 54 rfl elE rfl HL.out rfl HLF.out (fun cs t d h => Tr.one ⟨d, h⟩) (by omega) (by omega) HLLT.out (by omega) (by omega) (by omega) ?_)
       refine ⟨fun A1 n1c w17 HLn ho17 => ?_⟩
       have hs17 := ho17.out.size
       clear HL HLF HTc1 HTc2
       clear HK9
       clear HK10
       clear HK35
       replace HW : Hid (OnlyB b w w17) := Lib.hid (HW.out.then_ ho17.out (fun i hi (h : w8.heap.size ≤ i) => by omega))
       replace HR := Lib.hid (HR.out.only ho17.out (by omega))
       replace HK2 := Lib.hid (ho17.out.heap HK2.out (by omega))
       replace HK3 := Lib.hid (ho17.out.heap HK3.out (by omega))
       clear ho17
       have HL : Hid (Ls FE 56 7 w8.heap.size b w17 A1 2 n1c (catF (fun _ => ([], 0)) 0 (fn3 (t1, kd9) (t2, kd14) (t2, kd14)))) := HLn
       clear HLn
       go_wp2_with (refine wpl_set rfl 54 (.tmp 37) (.tmp 36) rfl b3 4 rfl (v := .slice A1 2 n1c) rfl Tryd.sizeOf54 rfl rfl HK3.out (by simp) ?_)
       clear HK3
       refine ⟨fun w18 HK3 ho18 => ?_⟩
       have hs18 := ho18.out.size
       replace HK3 : Hid (w18.heap[b3]? = some (.cells #[.int .i64 5, .int .i64 (at_ : Int), .bool true, .string ⟨#[]⟩, .slice A1 2 n1c, .slice none 0 0, .slice none 0 0] _)) := HK3
       replace HW : Hid (OnlyB b w w18) := Lib.hid (HW.out.then_ ho18.out (fun i hi (h : i = b3) => by omega))
       replace HR := Lib.hid (HR.out.only ho18.out (by omega))
       replace HK2 := Lib.hid (ho18.out.heap HK2.out (by omega))
       replace HL := Lib.hid (HL.out.only ho18.out (fun i hi (h : i = b3) => by omega))
       clear ho18
       go_wp2_with fail
       refine (must_any HR.out _).mono ?_
       rintro e w19 ⟨rfl, m19, hr, ho, hm⟩
       have hle19 : m19 ≤ m14 := by omega
       have HM19 := Lib.hid hm
       clear hm
       replace HR := Lib.hid hr
       have HOx := Lib.hid ho
       have hs19 := HOx.out.size
       clear hr ho
       replace HW : Hid (OnlyB b w w19) := Lib.hid (HW.out.then_ HOx.out (fun _ _ h => h))
       replace HK2 := Lib.hid (HOx.out.heap HK2.out (by omega))
       replace HK3 := Lib.hid (HOx.out.heap HK3.out (by omega))
       replace HL := Lib.hid (HL.out.only HOx.out (fun i hi (h : i = b) => by omega))
       clear HOx
       go_wp2_with (first | (refine wpl_load rfl 73 (.tmp 3) rfl b3 rfl HK3.out stSt rfl ?_) | (refine wpl_store rfl 73 (.tmp 2) (.tmp 129) rfl b2 rfl (cells := #[.int .i64 5, .int .i64 (at_ : Int), .bool true, .string ⟨#[]⟩, .slice A1 2 n1c, .slice none 0 0, .slice none 0 0]) rfl HK2.out stSt rfl rfl (ones rfl) ?_))
       clear HK2
       refine ⟨fun w20 HK2 ho20 => ?_⟩
       have hs20 := ho20.out.size
       replace HW : Hid (OnlyB b w w20) := Lib.hid (HW.out.then_ ho20.out (fun i hi (h : i = b2) => by omega))
       replace HR := Lib.hid (HR.out.only ho20.out (by omega))
       replace HK3 := Lib.hid (ho20.out.heap HK3.out (by omega))
       replace HL := Lib.hid (HL.out.only ho20.out (fun i hi (h : i = b2) => by omega))
       clear ho20
       go_wp2_with fail
       exact bodyPost_ret (ret_box rfl _ rfl HK2.out stSt rfl) rfl (StOut.mk HR.out HW.out (trs_mk (kd := 5) (nm := []) (AS := none) (ns := 0) (cS := 0) (TS := (fun _ => ([] : LB))) (AR := none) (na := 0) (cR := 0) (TR := (fun _ => ([] : LB))) (HL.out.done.wide (by omega) (by omega)) LfP.nil LfP.nil (by omega) (by omega) (by omega) ⟨by omega, by simp, fun h => by omega, fun h => by omega, fun _ => rfl, fun h => by omega⟩) (by have := HM9.out; have := HM14.out; have := HM19.out; rw [show txS 5 true [] (fun i => (catF (fun _ => ([], 0)) 0 (fn3 (t1, kd9) (t2, kd14) (t2, kd14)) i).1) 0 (fun _ => ([] : LB)) 0 (fun _ => ([] : LB)) = t1 ++ [32, 60, 61, 32] ++ t2 ++ [59] from rfl]; simp only [List.length_append, List.length_cons, List.length_nil]; omega) rfl)
      | false =>
       clear hik
       go_wp2_with (refine wpl_set rfl 4 (.tmp 22) (.tmp 21) rfl b3 2 rfl (v := .bool false) rfl Tryd.sizeOf4 rfl rfl HK3.out (by simp) ?_)
       clear HK3
       refine ⟨fun w12 HK3 ho12 => ?_⟩
       have hs12 := ho12.out.size
       replace HK3 : Hid (w12.heap[b3]? = some (.cells #[.int .i64 5, .int .i64 (at_ : Int), .bool false, .string ⟨#[]⟩, .slice none 0 0, .slice none 0 0, .slice none 0 0] _)) := HK3
       replace HW : Hid (OnlyB b w w12) := Lib.hid (HW.out.then_ ho12.out (fun i hi (h : i = b3) => by omega))
       replace HR := Lib.hid (HR.out.only ho12.out (by omega))
       replace HK2 := Lib.hid (ho12.out.heap HK2.out (by omega))
       replace HTc1 := Lib.hid (HTc1.out.only ho12.out (fun i (h : i = b3) => by omega))
       replace HK9 := Lib.hid (ho12.out.heap HK9.out (by omega))
       clear ho12
       obtain ⟨y6, z6⟩ : w12.cell? ⟨b3, 2, none⟩ = some (.bool false) ∧ w12.frozen? ⟨b3, 2, none⟩ = false := cell_at HK3.out rfl
       go_wp2_with fail
       clear y6 z6
       go_wp2_with fail
       refine (must_any HR.out _).mono ?_
       rintro e w13 ⟨rfl, m13, hr, ho, hm⟩
       have hle13 : m13 ≤ m9 := by omega
       have HM13 := Lib.hid hm
       clear hm
       replace HR := Lib.hid hr
       have HOx := Lib.hid ho
       have hs13 := HOx.out.size
       clear hr ho
       replace HW : Hid (OnlyB b w w13) := Lib.hid (HW.out.then_ HOx.out (fun _ _ h => h))
       replace HK2 := Lib.hid (HOx.out.heap HK2.out (by omega))
       replace HK3 := Lib.hid (HOx.out.heap HK3.out (by omega))
       replace HTc1 := Lib.hid (HTc1.out.only HOx.out (fun i (h : i = b) => by omega))
       replace HK9 := Lib.hid (HOx.out.heap HK9.out (by omega))
       clear HOx
       go_wp2_with fail
       refine (expr_any HR.out).mono ?_
       rintro e w14 ⟨c2, t2, kd14, m14, rfl, hr, ho, ht, hm⟩
       have hle14 : m14 ≤ m13 := by omega
       have HM14 := Lib.hid hm
       have HTc2 := Lib.hid ht
       clear hm ht
       replace HR := Lib.hid hr
       have HOx := Lib.hid ho
       have hs14 := HOx.out.size
       clear hr ho
       replace HW : Hid (OnlyB b w w14) := Lib.hid (HW.out.then_ HOx.out (fun _ _ h => h))
       replace HK2 := Lib.hid (HOx.out.heap HK2.out (by omega))
       replace HK3 := Lib.hid (HOx.out.heap HK3.out (by omega))
       replace HTc1 := Lib.hid (HTc1.out.only HOx.out (fun i (h : i = b) => by omega))
       replace HK9 := Lib.hid (HOx.out.heap HK9.out (by omega))
       clear HOx
       go_wp2_with (refine wpl_box rfl rfl 56 rfl 10 rfl (.tmp 30) rfl rfl Tryd.zeroValue56 (cells := c2.toArray) (fun _ => rfl) (fun _ => rfl) stE HTc2.out.size rfl HTc2.out.ones ?_)
       refine ⟨fun w15 b10 HK10 ho15 ha10 hb10 => ?_⟩
       have hs15 := ho15.out.size
       replace HW : Hid (OnlyB b w w15) := Lib.hid (HW.out.then_ ho15.out (fun _ _ h => h.elim))
       replace HR := Lib.hid (HR.out.only ho15.out (fun h => h))
       replace HK2 := Lib.hid (ho15.out.heap HK2.out (fun h => h))
       replace HK3 := Lib.hid (ho15.out.heap HK3.out (fun h => h))
       replace HTc1 := Lib.hid (HTc1.out.only ho15.out (fun _ h => h.elim))
       replace HK9 := Lib.hid (ho15.out.heap HK9.out (fun h => h))
       replace HTc2 := Lib.hid (HTc2.out.only ho15.out (fun _ h => h.elim))
       clear ho15
       have HL : Hid (Ls FE 56 7 w8.heap.size b w15 none 0 0 (fun _ => ([], 0))) := Lib.hid Ls.nil
       have HLLT : Hid (∀ k, blockOf none k → k < w8.heap.size) := Lib.hid (fun k hk => by obtain ⟨_, h, _⟩ := hk; cases h)
       obtain ⟨y6, z6⟩ : w15.cell? ⟨b3, 4, none⟩ = some (.slice none 0 0) ∧ w15.frozen? ⟨b3, 4, none⟩ = false := cell_at HK3.out rfl
       go_wp2_with (first | (refine wpl_load rfl 56 (.tmp 9) rfl b9 rfl HK9.out stE HTc1.out.size ?_) | (refine wpl_load rfl 56 (.tmp 10) rfl b10 rfl HK10.out stE HTc2.out.size ?_) | (refine wpl_slice rfl 54 56 2 _ rfl (some 35) rfl Tryd.underlying54 (c1 ++ c2).toArray (builtE2 HTc1.out.len HTc2.out.len) ?_))
       refine ⟨fun w16 b35 HK35 ho16 ha35 hb35 => ?_⟩
       have hs16 := ho16.out.size
       replace HW : Hid (OnlyB b w w16) := Lib.hid (HW.out.then_ ho16.out (fun _ _ h => h.elim))
       replace HR := Lib.hid (HR.out.only ho16.out (fun h => h))
       replace HK2 := Lib.hid (ho16.out.heap HK2.out (fun h => h))
       replace HK3 := Lib.hid (ho16.out.heap HK3.out (fun h => h))
       replace HTc1 := Lib.hid (HTc1.out.only ho16.out (fun _ h => h.elim))
       replace HK9 := Lib.hid (ho16.out.heap HK9.out (fun h => h))
       replace HTc2 := Lib.hid (HTc2.out.only ho16.out (fun _ h => h.elim))
       replace HK10 := Lib.hid (ho16.out.heap HK10.out (fun h => h))
       replace HL := Lib.hid (HL.out.only ho16.out (fun _ _ h => h.elim))
       clear ho16
       clear y6 z6
       have HLF : Hid (Lf FE 56 7 w8.heap.size w16.heap.size w16 (some ⟨b35, 0, none⟩) 2 (fn3 (t1, kd9) (t2, kd14) (t2, kd14))) := Lib.hid (lf2 HK35.out ⟨by omega, by omega⟩ (HTc1.out.wide (by omega) (by omega)) (HTc2.out.wide (by omega) (by omega)))
       go_wp2_with (refine wpl_more rfl (.tmp 32) (.tmp 35) 54 rfl elE rfl HL.out rfl HLF.out (fun cs t d h => Tr.one ⟨d, h⟩) (by omega) (by omega) HLLT.out (by omega) (by omega) (by omega) ?_)
       refine ⟨fun A1 n1c w17 HLn ho17 => ?_⟩
       have hs17 := ho17.out.size
       clear HL HLF HTc1 HTc2
       clear HK9
       clear HK10
       clear HK35
       replace HW : Hid (OnlyB b w w17) := Lib.hid (HW.out.then_ ho17.out (fun i hi (h : w8.heap.size ≤ i) => by omega))
       replace HR := Lib.hid (HR.out.only ho17.out (by omega))
       replace HK2 := Lib.hid (ho17.out.heap HK2.out (by omega))
       replace HK3 := Lib.hid (ho17.out.heap HK3.out (by omega))
       clear ho17
       have HL : Hid (Ls FE 56 7 w8.heap.size b w17 A1 2 n1c (catF (fun _ => ([], 0)) 0 (fn3 (t1, kd9) (t2, kd14) (t2, kd14)))) := HLn
       clear HLn
       go_wp2_with (refine wpl_set rfl 54 (.tmp 37) (.tmp 36) rfl b3 4 rfl (v := .slice A1 2 n1c) rfl Tryd.sizeOf54 rfl rfl HK3.out (by simp) ?_)
       clear HK3
       refine ⟨fun w18 HK3 ho18 => ?_⟩
       have hs18 := ho18.out.size
       replace HK3 : Hid (w18.heap[b3]? = some (.cells #[.int .i64 5, .int .i64 (at_ : Int), .bool false, .string ⟨#[]⟩, .slice A1 2 n1c, .slice none 0 0, .slice none 0 0] _)) := HK3
       replace HW : Hid (OnlyB b w w18) := Lib.hid (HW.out.then_ ho18.out (fun i hi (h : i = b3) => by omega))
       replace HR := Lib.hid (HR.out.only ho18.out (by omega))
       replace HK2 := Lib.hid (ho18.out.heap HK2.out (by omega))
       replace HL := Lib.hid (HL.out.only ho18.out (fun i hi (h : i = b3) => by omega))
       clear ho18
       go_wp2_with fail
       refine (must_any HR.out _).mono ?_
       rintro e w19 ⟨rfl, m19, hr, ho, hm⟩
       have hle19 : m19 ≤ m14 := by omega
       have HM19 := Lib.hid hm
       clear hm
       replace HR := Lib.hid hr
       have HOx := Lib.hid ho
       have hs19 := HOx.out.size
       clear hr ho
       replace HW : Hid (OnlyB b w w19) := Lib.hid (HW.out.then_ HOx.out (fun _ _ h => h))
       replace HK2 := Lib.hid (HOx.out.heap HK2.out (by omega))
       replace HK3 := Lib.hid (HOx.out.heap HK3.out (by omega))
       replace HL := Lib.hid (HL.out.only HOx.out (fun i hi (h : i = b) => by omega))
       clear HOx
       go_wp2_with (first | (refine wpl_load rfl 73 (.tmp 3) rfl b3 rfl HK3.out stSt rfl ?_) | (refine wpl_store rfl 73 (.tmp 2) (.tmp 129) rfl b2 rfl (cells := #[.int .i64 5, .int .i64 (at_ : Int), .bool false, .string ⟨#[]⟩, .slice A1 2 n1c, .slice none 0 0, .slice none 0 0]) rfl HK2.out stSt rfl rfl (ones rfl) ?_))
       clear HK2
       refine ⟨fun w20 HK2 ho20 => ?_⟩
       have hs20 := ho20.out.size
       replace HW : Hid (OnlyB b w w20) := Lib.hid (HW.out.then_ ho20.out (fun i hi (h : i = b2) => by omega))
       replace HR := Lib.hid (HR.out.only ho20.out (by omega))
       replace HK3 := Lib.hid (ho20.out.heap HK3.out (by omega))
       replace HL := Lib.hid (HL.out.only ho20.out (fun i hi (h : i = b2) => by omega))
       clear ho20
       go_wp2_with fail
       exact bodyPost_ret (ret_box rfl _ rfl HK2.out stSt rfl) rfl (StOut.mk HR.out HW.out (trs_mk (kd := 5) (nm := []) (AS := none) (ns := 0) (cS := 0) (TS := (fun _ => ([] : LB))) (AR := none) (na := 0) (cR := 0) (TR := (fun _ => ([] : LB))) (HL.out.done.wide (by omega) (by omega)) LfP.nil LfP.nil (by omega) (by omega) (by omega) ⟨by omega, by simp, fun h => by omega, fun h => by omega, fun _ => rfl, fun h => by omega⟩) (by have := HM9.out; have := HM13.out; have := HM14.out; have := HM19.out; rw [show txS 5 false [] (fun i => (catF (fun _ => ([], 0)) 0 (fn3 (t1, kd9) (t2, kd14) (t2, kd14)) i).1) 0 (fun _ => ([] : LB)) 0 (fun _ => ([] : LB)) = t1 ++ [32, 61, 32] ++ t2 ++ [59] from rfl]; simp only [List.length_append, List.length_cons, List.length_nil]; omega) rfl)
theorem stmt_any {s : ByteArray} {b m : Nat} {w : World} (hr : RdS s b w m) : Calls Tryd.prog 58 #[.pointer (some ⟨b, 0, none⟩)] w (StOut s b m w) := by
 induction m using Nat.strongRecOn generalizing w with
 | _ m ih => exact stmt_step (Lib.hid fun h hr => ih _ h hr) (Lib.hid hr)
end Go.Proofs.YtbdcpealkllfnaaDoor
