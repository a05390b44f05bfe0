/- The reference's Reader: cases, walked. Condition: what is known of stmt for no more text. -/
import Derived.Test.YtbdcpealkllfnaaDoorStA
namespace Go.Proofs.YtbdcpealkllfnaaDoor
open Go.RowKit Go.Deep

theorem catL_snoc {T : Nat → LB} {n : Nat} {t : LB} : catL (snocF T n t) (n + 1) = catL T n ++ t := by
 simp only [catL]
 rw [catL_congr (T' := T) n (fun i hi => snocF_lt _ _ hi), snocF_at]
theorem catL_snoc_len (T : Nat → LB) (n : Nat) (t : LB) : (catL (snocF T n t) (n + 1)).length = (catL T n).length + t.length := by
 rw [catL_snoc, List.length_append]
structure CsI (s : ByteArray) (b m : Nat) (w : World) (ZE HE Z2 b3 b4 : Nat) (at0 : Int) (A1 : Option Addr) (n1c : Nat) (t1 : LB) (k1 : Int) (g : Nat) (wr : World) (A : Option Addr) (n c : Nat) (T : Nat → LB) : Prop where
 rd : RdS s b wr g
 ol : OnlyB b w wr
 k3 : wr.heap[b3]? = some (.cells #[.int .i64 4, .int .i64 at0, .bool false, .string ⟨#[]⟩, .slice A1 1 n1c, .slice none 0 0, .slice A n c] 73)
 k4 : wr.heap[b4]? = some (.cells #[.int .i64 0, .int .i64 0, .bool false, .string ⟨#[]⟩, .slice none 0 0, .slice none 0 0, .slice none 0 0] 73)
 le : Lf FE 56 7 ZE HE wr A1 1 (snocF (fun _ => ([], 0)) 0 (t1, k1))
 ls : Ls FA 117 9 Z2 b wr A n c T
 nn : n + g ≤ m + 1
 tx : g = 0 ∨ (g < m ∧ t1.length + (catL T n).length + 60 * g + 100 ≤ 60 * m)
 sz : Z2 ≤ wr.heap.size
structure LbI (s : ByteArray) (b go : Nat) (w wo : World) (ZE HE Z3 b3 b4 b7 b8 : Nat) (at0 : Int) (A1 : Option Addr) (n1c : Nat) (t1 : LB) (k1 : Int) (A : Option Addr) (n c : Nat) (g : Nat) (wr : World) (A' : Option Addr) (n' c' : Nat) (T : Nat → LB × Int) (c0 : List Value) : Prop where
 rd : RdS s b wr g
 ol : OnlyB b w wr
 hq : OnlyB b wo wr
 k3 : wr.heap[b3]? = some (.cells #[.int .i64 4, .int .i64 at0, .bool false, .string ⟨#[]⟩, .slice A1 1 n1c, .slice none 0 0, .slice A n c] 73)
 k4 : wr.heap[b4]? = some (.cells #[.int .i64 0, .int .i64 0, .bool false, .string ⟨#[]⟩, .slice none 0 0, .slice none 0 0, .slice none 0 0] 73)
 k7 : wr.heap[b7]? = some (.cells #[.bool false, .slice A' n' c', .int .i64 0, .int .i64 0, .bool false, .string ⟨#[]⟩, .slice none 0 0, .slice none 0 0, .slice none 0 0] 117)
 k8 : wr.heap[b8]? = some (.cells c0.toArray 56)
 l0 : c0.length = 7
 le : Lf FE 56 7 ZE HE wr A1 1 (snocF (fun _ => ([], 0)) 0 (t1, k1))
 ls : Ls FE 56 7 Z3 b8 wr A' n' c' T
 nn : n' + g ≤ go + 1
 tx : g = 0 ∨ (g < go ∧ (comL (fun i => (T i).1) n').length + 60 * g ≤ 60 * go)
 sz : wo.heap.size ≤ wr.heap.size ∧ Z3 ≤ wr.heap.size ∧ b8 < wr.heap.size
set_option maxRecDepth 100000 in
set_option maxHeartbeats 8000000 in
theorem cases_any {s : ByteArray} {b m : Nat} {w : World} (at0 : Int) (HS : Hid (∀ {w : World} {m1 : Nat}, m1 ≤ m → RdS s b w m1 → Calls Tryd.prog 58 #[.pointer (some ⟨b, 0, none⟩)] w (StOut s b m1 w))) (HR : Hid (RdS s b w m)) : Calls Tryd.prog 71 #[.pointer (some ⟨b, 0, none⟩), .agg #[.int .i64 0, .int .i64 at0, .bool false, .string ⟨#[]⟩, .slice none 0 0, .slice none 0 0, .slice none 0 0]] w (StOut s b m w) := by
 have HR0 := HR
 have hlt := HR.out.lt
 have HW : Hid (OnlyB b w w) := Lib.hid (Only.refl _ w)
 go_enter Tryd.func71, Tryd.ntmps71
 go_wp2_with (refine wpl_boxv rfl 73 (.tmp 1) rfl (some 3) rfl (cells := #[.int .i64 0, .int .i64 at0, .bool false, .string ⟨#[]⟩, .slice none 0 0, .slice none 0 0, .slice none 0 0]) rfl ?_)
 refine ⟨fun w1 b3 HK3 ho1 ha3 hb3 => ?_⟩
 have hs1 := ho1.out.size
 replace HW : Hid (OnlyB b w w1) := Lib.hid (HW.out.then_ ho1.out (fun _ _ h => h.elim))
 replace HR := Lib.hid (HR.out.only ho1.out (fun h => h))
 clear ho1
 go_wp2_with (refine wpl_alloc rfl 73 rfl (some 4) rfl Tryd.zeroValue73 ?_)
 refine ⟨fun w2 b4 HK4 ho2 ha4 hb4 => ?_⟩
 have hs2 := ho2.out.size
 replace HW : Hid (OnlyB b w w2) := Lib.hid (HW.out.then_ ho2.out (fun _ _ h => h.elim))
 replace HR := Lib.hid (HR.out.only ho2.out (fun h => h))
 replace HK3 := Lib.hid (ho2.out.heap HK3.out (fun h => h))
 clear ho2
 go_wp2_with (refine wpl_set rfl 3 (.tmp 9) (.const (.int .i64 4)) rfl b3 0 rfl (v := .int .i64 4) rfl Tryd.sizeOf3 rfl rfl HK3.out (by simp) ?_)
 clear HK3
 refine ⟨fun w3 HK3 ho3 => ?_⟩
 have hs3 := ho3.out.size
 replace HK3 : Hid (w3.heap[b3]? = some (.cells #[.int .i64 4, .int .i64 at0, .bool false, .string ⟨#[]⟩, .slice none 0 0, .slice none 0 0, .slice none 0 0] _)) := HK3
 replace HW : Hid (OnlyB b w w3) := Lib.hid (HW.out.then_ ho3.out (fun i hi (h : i = b3) => by omega))
 replace HR := Lib.hid (HR.out.only ho3.out (by omega))
 replace HK4 := Lib.hid (ho3.out.heap HK4.out (by omega))
 clear ho3
 go_wp2_with fail
 refine (must_any HR.out _).mono ?_
 rintro e w4 ⟨rfl, m4, hr, ho, hm⟩
 have hle4 : m4 ≤ m := by omega
 have HM4 := Lib.hid hm
 clear hm
 replace HR := Lib.hid hr
 have HOx := Lib.hid ho
 have hs4 := HOx.out.size
 clear hr ho
 replace HW : Hid (OnlyB b w w4) := Lib.hid (HW.out.then_ HOx.out (fun _ _ h => h))
 replace HK3 := Lib.hid (HOx.out.heap HK3.out (by omega))
 replace HK4 := Lib.hid (HOx.out.heap HK4.out (by omega))
 clear HOx
 go_wp2_with fail
 refine (expr_any HR.out).mono ?_
 rintro e w5 ⟨c1, t1, kd5, m5, rfl, hr, ho, ht, hm⟩
 have hle5 : m5 ≤ m4 := by omega
 have HM5 := Lib.hid hm
 have HTc1 := Lib.hid ht
 clear hm ht
 replace HR := Lib.hid hr
 have HOx := Lib.hid ho
 have hs5 := HOx.out.size
 clear hr ho
 replace HW : Hid (OnlyB b w w5) := Lib.hid (HW.out.then_ HOx.out (fun _ _ h => h))
 replace HK3 := Lib.hid (HOx.out.heap HK3.out (by omega))
 replace HK4 := Lib.hid (HOx.out.heap HK4.out (by omega))
 clear HOx
 go_wp2_with (refine wpl_box rfl rfl 56 rfl 5 rfl (.tmp 13) rfl rfl Tryd.zeroValue56 (cells := c1.toArray) (fun _ => rfl) (fun _ => rfl) stE HTc1.out.size rfl HTc1.out.ones ?_)
 refine ⟨fun w6 b5 HK5 ho6 ha5 hb5 => ?_⟩
 have hs6 := ho6.out.size
 replace HW : Hid (OnlyB b w w6) := Lib.hid (HW.out.then_ ho6.out (fun _ _ h => h.elim))
 replace HR := Lib.hid (HR.out.only ho6.out (fun h => h))
 replace HK3 := Lib.hid (ho6.out.heap HK3.out (fun h => h))
 replace HK4 := Lib.hid (ho6.out.heap HK4.out (fun h => h))
 replace HTc1 := Lib.hid (HTc1.out.only ho6.out (fun _ h => h.elim))
 clear ho6
 go_wp2_with fail
 refine (must_any HR.out _).mono ?_
 rintro e w7 ⟨rfl, m7, hr, ho, hm⟩
 have hle7 : m7 ≤ m5 := by omega
 have HM7 := Lib.hid hm
 clear hm
 replace HR := Lib.hid hr
 have HOx := Lib.hid ho
 have hs7 := HOx.out.size
 clear hr ho
 replace HW : Hid (OnlyB b w w7) := Lib.hid (HW.out.then_ HOx.out (fun _ _ h => h))
 replace HK3 := Lib.hid (HOx.out.heap HK3.out (by omega))
 replace HK4 := Lib.hid (HOx.out.heap HK4.out (by omega))
 replace HTc1 := Lib.hid (HTc1.out.only HOx.out (fun i (h : i = b) => by omega))
 replace HK5 := Lib.hid (HOx.out.heap HK5.out (by omega))
 clear HOx
 have HL : Hid (Ls FE 56 7 w4.heap.size b w7 none 0 0 (fun _ => ([], 0))) := Lib.hid Ls.nil
 have HLLT : Hid (∀ k, blockOf none k → k < w4.heap.size) := Lib.hid (fun k hk => by obtain ⟨_, h, _⟩ := hk; cases h)
 obtain ⟨y6, z6⟩ : w7.cell? ⟨b3, 4, none⟩ = some (.slice none 0 0) ∧ w7.frozen? ⟨b3, 4, none⟩ = false := cell_at HK3.out rfl
 go_wp2_with (first | (refine wpl_load rfl 56 (.tmp 5) rfl b5 rfl HK5.out stE HTc1.out.size ?_) | (refine wpl_slice rfl 54 56 1 _ rfl (some 19) rfl Tryd.underlying54 c1.toArray (builtE1 HTc1.out.len) ?_))
 refine ⟨fun w8 b19 HK19 ho8 ha19 hb19 => ?_⟩
 have hs8 := ho8.out.size
 replace HW : Hid (OnlyB b w w8) := Lib.hid (HW.out.then_ ho8.out (fun _ _ h => h.elim))
 replace HR := Lib.hid (HR.out.only ho8.out (fun h => h))
 replace HK3 := Lib.hid (ho8.out.heap HK3.out (fun h => h))
 replace HK4 := Lib.hid (ho8.out.heap HK4.out (fun h => h))
 replace HTc1 := Lib.hid (HTc1.out.only ho8.out (fun _ h => h.elim))
 replace HK5 := Lib.hid (ho8.out.heap HK5.out (fun h => h))
 replace HL := Lib.hid (HL.out.only ho8.out (fun _ _ h => h.elim))
 clear ho8
 clear y6 z6
 go_wp2_with (refine wpl_push rfl (.tmp 17) (.tmp 19) 54 rfl elE rfl HL.out rfl HK19.out HTc1.out.len HTc1.out.one HTc1.out (by omega) (by omega) (fun k hk => by have := HLLT.out k hk; omega) (by omega) (by omega) (by omega) ?_)
 refine ⟨fun A1 n1c w9 HLn ho9 => ?_⟩
 have hs9 := ho9.out.size
 clear HL HTc1
 clear HK5
 clear HK19
 replace HW : Hid (OnlyB b w w9) := Lib.hid (HW.out.then_ ho9.out (fun i hi (h : w4.heap.size ≤ i) => by omega))
 replace HR := Lib.hid (HR.out.only ho9.out (by omega))
 replace HK3 := Lib.hid (ho9.out.heap HK3.out (by omega))
 replace HK4 := Lib.hid (ho9.out.heap HK4.out (by omega))
 clear ho9
 have HL := HLn
 clear HLn
 replace HL : Hid (Ls FE 56 7 w4.heap.size b w9 A1 1 n1c (snocF (fun _ => ([], 0)) 0 (t1, kd5))) := HL
 have HLE := Lib.hid HL.out.done
 clear HL HLLT
 go_wp2_with (refine wpl_set rfl 54 (.tmp 21) (.tmp 20) rfl b3 4 rfl (v := .slice A1 1 n1c) rfl Tryd.sizeOf54 rfl rfl HK3.out (by simp) ?_)
 clear HK3
 refine ⟨fun w10 HK3 ho10 => ?_⟩
 have hs10 := ho10.out.size
 replace HK3 : Hid (w10.heap[b3]? = some (.cells #[.int .i64 4, .int .i64 at0, .bool false, .string ⟨#[]⟩, .slice A1 1 n1c, .slice none 0 0, .slice none 0 0] _)) := HK3
 replace HW : Hid (OnlyB b w w10) := Lib.hid (HW.out.then_ ho10.out (fun i hi (h : i = b3) => by omega))
 replace HR := Lib.hid (HR.out.only ho10.out (by omega))
 replace HK4 := Lib.hid (ho10.out.heap HK4.out (by omega))
 replace HLE := Lib.hid (HLE.out.only ho10.out (fun i (h : i = b3) => by omega))
 clear ho10
 go_wp2_with fail
 have H0 : Hid (CsI s b m w w4.heap.size w9.heap.size w10.heap.size b3 b4 at0 A1 n1c t1 kd5 m7 w10 none 0 0 (fun _ => ([] : LB))) := Lib.hid ⟨HR.out, HW.out, HK3.out, HK4.out, HLE.out, Ls.nil, by omega, by have := HM4.out; have := HM5.out; have := HM7.out; simp only [catL, List.length_nil]; omega, by omega⟩
 clear HR HW HK3 HK4 HLE
 go_loopg [6] m7 (fun g vs wr => ∃ sm : Bool, vs = .bool sm ∧ ∃ A n c T, Hid (CsI s b m w w4.heap.size w9.heap.size w10.heap.size b3 b4 at0 A1 n1c t1 kd5 g wr A n c T))
 case atStart => exact ⟨false, rfl, _, _, _, _, H0⟩
 case round =>
  clear H0
  obtain ⟨sm, rfl, A, n, c, T, HB⟩ := hrel
  obtain ⟨wo, hwo⟩ : ∃ x, x = wr := ⟨_, rfl⟩
  subst hwo
  obtain ⟨go, hgo⟩ : ∃ x, x = gk := ⟨_, rfl⟩
  subst hgo
  have HR := Lib.hid HB.out.rd
  have HW := Lib.hid HB.out.ol
  have HK3 := Lib.hid HB.out.k3
  have HK4 := Lib.hid HB.out.k4
  have HLE := Lib.hid HB.out.le
  have HA0 := Lib.hid HB.out.ls
  have hnn := HB.out.nn
  have HTX := Lib.hid HB.out.tx
  have hsr := HB.out.sz
  clear HB
  have hmm := HR0.out.le
  have HALT := Lib.hid HA0.out.lt
  have HQ : Hid (OnlyB b wo wo) := Lib.hid (Only.refl _ _)
  obtain ⟨kdx, at_x, wdx, Tx, numx, qx, codex, fatx, hrf⟩ := HR.out
  have HFx := Lib.hid hrf
  clear hrf
  have HF := HFx
  clear HFx
  obtain ⟨y7, z7⟩ := HF.out.c7
  by_cases hc : codex = 0
  ·
   subst hc
   have hg0 : 0 < go := by rw [HF.out.hm]; exact rdM_pos
   clear HF
   go_wp2_with fail
   clear y7 z7
   go_wp2_with fail
   refine (is_any HR.out _).mono ?_
   rintro e w11 ⟨ok, rfl, hwe, hik⟩
   obtain rfl := hwe.symm
   cases ok with
   | true =>
    clear hik
    have HLA := Lib.hid (HA0.out.only HQ.out (fun i hi (h : i = b) => by omega))
    clear HQ HA0 HALT
    go_wp2_with fail
    refine (must_any HR.out _).mono ?_
    rintro e w12 ⟨rfl, m12, hr, ho, hm⟩
    have hle12 : m12 ≤ go := by omega
    have HM12 := Lib.hid hm
    clear hm
    replace HR := Lib.hid hr
    have HOx := Lib.hid ho
    have hs12 := HOx.out.size
    clear hr ho
    replace HW : Hid (OnlyB b w w12) := Lib.hid (HW.out.then_ HOx.out (fun _ _ h => h))
    replace HK3 := Lib.hid (HOx.out.heap HK3.out (by omega))
    replace HK4 := Lib.hid (HOx.out.heap HK4.out (by omega))
    replace HLE := Lib.hid (HLE.out.only HOx.out (fun i (h : i = b) => by omega))
    replace HLA := Lib.hid (HLA.out.only HOx.out (fun i hi (h : i = b) => by omega))
    clear HOx
    go_wp2_with (first | (refine wpl_load rfl 73 (.tmp 3) rfl b3 rfl HK3.out stSt rfl ?_) | (refine wpl_store rfl 73 (.tmp 4) (.tmp 77) rfl b4 rfl (cells := #[.int .i64 4, .int .i64 at0, .bool false, .string ⟨#[]⟩, .slice A1 1 n1c, .slice none 0 0, .slice A n c]) rfl HK4.out stSt rfl rfl (ones rfl) ?_))
    clear HK4
    refine ⟨fun w13 HK4 ho13 => ?_⟩
    have hs13 := ho13.out.size
    replace HW : Hid (OnlyB b w w13) := Lib.hid (HW.out.then_ ho13.out (fun i hi (h : i = b4) => by omega))
    replace HR := Lib.hid (HR.out.only ho13.out (by omega))
    replace HK3 := Lib.hid (ho13.out.heap HK3.out (by omega))
    replace HLE := Lib.hid (HLE.out.only ho13.out (fun i (h : i = b4) => by omega))
    replace HLA := Lib.hid (HLA.out.only ho13.out (fun i hi (h : i = b4) => by omega))
    clear ho13
    go_wp2_with fail
    exact bodyPost_ret (ret_box rfl _ rfl HK4.out stSt rfl) rfl (StOut.mk HR.out HW.out (trs_mk (kd := 4) (nm := []) (AS := none) (ns := 0) (cS := 0) (TS := (fun _ => ([] : LB))) (HLE.out.wide (by omega) (by omega)) LfP.nil (HLA.out.done.wide (by omega) (by omega)) (by omega) (by omega) (by omega) ⟨by omega, by simp, fun h => by omega, fun h => by omega, fun h => by omega, fun h => by omega⟩) (by have := HTX.out; have := HM12.out; rw [show (txS 4 false [] (fun i => (snocF (fun _ => ([], 0)) 0 (t1, kd5) i).1) 0 (fun _ => ([] : LB)) n T) = [99, 97, 115, 101, 32, 40] ++ t1 ++ [41, 32] ++ catL T n ++ [101, 110, 100, 99, 97, 115, 101] from rfl]; simp only [List.length_append, List.length_cons, List.length_nil]; omega) rfl)
   | false =>
    clear hik
    go_wp2_with (refine wpl_box rfl rfl 117 rfl 7 rfl (.tmp 33) rfl rfl Tryd.zeroValue117 (cells := #[.bool false, .slice none 0 0, .int .i64 0, .int .i64 0, .bool false, .string ⟨#[]⟩, .slice none 0 0, .slice none 0 0, .slice none 0 0]) (fun _ => rfl) (fun _ => rfl) stAr rfl rfl (ones rfl) ?_)
    refine ⟨fun w12 b7 HK7 ho12 ha7 hb7 => ?_⟩
    have hs12 := ho12.out.size
    replace HW : Hid (OnlyB b w w12) := Lib.hid (HW.out.then_ ho12.out (fun _ _ h => h.elim))
    replace HQ : Hid (OnlyB b wo w12) := Lib.hid (HQ.out.then_ ho12.out (fun _ _ h => h.elim))
    replace HR := Lib.hid (HR.out.only ho12.out (fun h => h))
    replace HK3 := Lib.hid (ho12.out.heap HK3.out (fun h => h))
    replace HK4 := Lib.hid (ho12.out.heap HK4.out (fun h => h))
    replace HLE := Lib.hid (HLE.out.only ho12.out (fun _ h => h.elim))
    clear ho12
    go_wp2_with fail
    refine (is_any HR.out _).mono ?_
    rintro e w13 ⟨df, rfl, hwe, hik⟩
    obtain rfl := hwe.symm
    cases df with
    | true =>
     obtain ⟨hrk0, hpk⟩ := hik rfl
     clear hik
     have HRK := Lib.hid hrk0
     clear hrk0
     go_wp2_with (refine wpl_set rfl 4 (.tmp 36) (.tmp 35) rfl b7 0 rfl (v := .bool true) rfl Tryd.sizeOf4 rfl rfl HK7.out (by simp) ?_)
     clear HK7
     refine ⟨fun w14 HK7 ho14 => ?_⟩
     have hs14 := ho14.out.size
     replace HK7 : Hid (w14.heap[b7]? = some (.cells #[.bool true, .slice none 0 0, .int .i64 0, .int .i64 0, .bool false, .string ⟨#[]⟩, .slice none 0 0, .slice none 0 0, .slice none 0 0] _)) := HK7
     replace HW : Hid (OnlyB b w w14) := Lib.hid (HW.out.then_ ho14.out (fun i hi (h : i = b7) => by omega))
     replace HQ : Hid (OnlyB b wo w14) := Lib.hid (HQ.out.then_ ho14.out (fun i hi (h : i = b7) => by omega))
     replace HR := Lib.hid (HR.out.only ho14.out (by omega))
     replace HK3 := Lib.hid (ho14.out.heap HK3.out (by omega))
     replace HK4 := Lib.hid (ho14.out.heap HK4.out (by omega))
     replace HLE := Lib.hid (HLE.out.only ho14.out (fun i (h : i = b7) => by omega))
     replace HRK := Lib.hid (HRK.out.only ho14.out (by omega))
     clear ho14
     obtain ⟨yb, zb⟩ : w14.cell? ⟨b7, 0, none⟩ = some (.bool true) ∧ w14.frozen? ⟨b7, 0, none⟩ = false := cell_at HK7.out rfl
     cases sm with
     | true =>
      go_wp2_with fail
      clear yb zb
      refine (fail_any HR.out).mono ?_
      rintro e w15 ⟨rfl, hr, ho⟩
      clear HRK
      replace HR := Lib.hid hr
      have HOx := Lib.hid ho
      have hs15 := HOx.out.size
      clear hr ho
      replace HW : Hid (OnlyB b w w15) := Lib.hid (HW.out.then_ HOx.out (fun _ _ h => h))
      replace HQ : Hid (OnlyB b wo w15) := Lib.hid (HQ.out.then_ HOx.out (fun _ _ h => h))
      replace HK3 := Lib.hid (HOx.out.heap HK3.out (by omega))
      replace HK4 := Lib.hid (HOx.out.heap HK4.out (by omega))
      replace HLE := Lib.hid (HLE.out.only HOx.out (fun i (h : i = b) => by omega))
      replace HK7 := Lib.hid (HOx.out.heap HK7.out (by omega))
      clear HOx
      go_wp2_with fail
      obtain ⟨e0, e1, e2, e3, e4, e5, e6, e7, hrk⟩ := HR.out
      refine (stepK_any hrk).mono ?_
      clear hrk
      rintro e w16 ⟨rfl, mk, hr, ho, hk1, hk2, hk3⟩
      clear hk2 hk3
      obtain rfl : mk = 0 := by omega
      clear hk1
      replace HR := Lib.hid hr
      have HOx := Lib.hid ho
      have hs16 := HOx.out.size
      clear hr ho
      replace HW : Hid (OnlyB b w w16) := Lib.hid (HW.out.then_ HOx.out (fun _ _ h => h))
      replace HQ : Hid (OnlyB b wo w16) := Lib.hid (HQ.out.then_ HOx.out (fun _ _ h => h))
      replace HK3 := Lib.hid (HOx.out.heap HK3.out (by omega))
      replace HK4 := Lib.hid (HOx.out.heap HK4.out (by omega))
      replace HLE := Lib.hid (HLE.out.only HOx.out (fun i (h : i = b) => by omega))
      replace HK7 := Lib.hid (HOx.out.heap HK7.out (by omega))
      clear HOx
      go_wp2_with fail
      refine (accept_any HR.out _).mono ?_
      rintro e w17 ⟨oc, m17, rfl, hr, ho, hy, hn⟩
      replace HR := Lib.hid hr
      have HOx := Lib.hid ho
      have hs17 := HOx.out.size
      clear hr ho
      replace HW : Hid (OnlyB b w w17) := Lib.hid (HW.out.then_ HOx.out (fun _ _ h => h))
      replace HQ : Hid (OnlyB b wo w17) := Lib.hid (HQ.out.then_ HOx.out (fun _ _ h => h))
      replace HK3 := Lib.hid (HOx.out.heap HK3.out (by omega))
      replace HK4 := Lib.hid (HOx.out.heap HK4.out (by omega))
      replace HLE := Lib.hid (HLE.out.only HOx.out (fun i (h : i = b) => by omega))
      replace HK7 := Lib.hid (HOx.out.heap HK7.out (by omega))
      clear HOx
      have hac : m17 ≤ 0 := by cases oc with
       | true => exact Nat.le_of_lt (hy rfl).2
       | false => exact Nat.le_of_eq (hn rfl)
      clear hy hn
      have hgm2 : m17 ≤ m := by have := HTX.out; omega
      go_wp2_with fail
      refine (HS.out hgm2 HR.out).mono ?_
      rintro e w18 ⟨cB, tB, m18, rfl, hr, ho, ht, hm⟩
      have hle18 : m18 ≤ m17 := by omega
      have HM18 := Lib.hid hm
      have HTcB := Lib.hid ht
      clear hm ht
      replace HR := Lib.hid hr
      have HOx := Lib.hid ho
      have hs18 := HOx.out.size
      clear hr ho
      replace HW : Hid (OnlyB b w w18) := Lib.hid (HW.out.then_ HOx.out (fun _ _ h => h))
      replace HQ : Hid (OnlyB b wo w18) := Lib.hid (HQ.out.then_ HOx.out (fun _ _ h => h))
      replace HK3 := Lib.hid (HOx.out.heap HK3.out (by omega))
      replace HK4 := Lib.hid (HOx.out.heap HK4.out (by omega))
      replace HLE := Lib.hid (HLE.out.only HOx.out (fun i (h : i = b) => by omega))
      replace HK7 := Lib.hid (HOx.out.heap HK7.out (by omega))
      clear HOx
      go_wp2_with (refine wpl_seg rfl 73 (.tmp 68) (.tmp 67) rfl b7 2 rfl (c := cB) rfl HK7.out [.bool true, .slice none 0 0] [.int .i64 0, .int .i64 0, .bool false, .string ⟨#[]⟩, .slice none 0 0, .slice none 0 0, .slice none 0 0] [] rfl rfl stSt (lenS HTcB.out) rfl (oneS HTcB.out) (.bool true :: .slice none 0 0 :: cB) (by simp) ?_)
      clear HK7
      refine ⟨fun w19 HK7 ho19 => ?_⟩
      have hs19 := ho19.out.size
      replace HW : Hid (OnlyB b w w19) := Lib.hid (HW.out.then_ ho19.out (fun i hi (h : i = b7) => by omega))
      replace HQ : Hid (OnlyB b wo w19) := Lib.hid (HQ.out.then_ ho19.out (fun i hi (h : i = b7) => by omega))
      replace HR := Lib.hid (HR.out.only ho19.out (by omega))
      replace HK3 := Lib.hid (ho19.out.heap HK3.out (by omega))
      replace HK4 := Lib.hid (ho19.out.heap HK4.out (by omega))
      replace HLE := Lib.hid (HLE.out.only ho19.out (fun i (h : i = b7) => by omega))
      replace HTcB := Lib.hid (HTcB.out.only ho19.out (fun i (h : i = b7) => by omega))
      clear ho19
      have HTA : Hid (Tr FA wo.heap.size w19.heap.size w19 (.bool true :: .slice none 0 0 :: cB) (armL true (comL (fun i => (((fun _ => ([], 0)) : Nat → LB × Int) i).1) 0) tB)) := Lib.hid (tra_mk (TL := fun _ => ([], 0)) LfP.nil (by omega) (fun _ => rfl) (HTcB.out.wide (by omega) (by omega)))
      generalize (.bool true :: .slice none 0 0 :: cB : List Value) = cA at HK7 HTA
      have HLA := Lib.hid (HA0.out.only HQ.out (fun i hi (h : i = b) => by omega))
      have HLALT := HALT
      clear HQ HA0 HALT HTcB
      obtain ⟨y6, z6⟩ : w19.cell? ⟨b3, 6, none⟩ = some (.slice A n c) ∧ w19.frozen? ⟨b3, 6, none⟩ = false := cell_at HK3.out rfl
      go_wp2_with (first | (refine wpl_load rfl 117 (.tmp 7) rfl b7 rfl HK7.out stAr (sizeA HTA.out) ?_) | (refine wpl_slice rfl 71 117 1 _ rfl (some 72) rfl Tryd.underlying71 cA.toArray (builtA1 (lenA HTA.out)) ?_))
      refine ⟨fun w20 b72 HK72 ho20 ha72 hb72 => ?_⟩
      have hs20 := ho20.out.size
      replace HW : Hid (OnlyB b w w20) := Lib.hid (HW.out.then_ ho20.out (fun _ _ h => h.elim))
      replace HR := Lib.hid (HR.out.only ho20.out (fun h => h))
      replace HK3 := Lib.hid (ho20.out.heap HK3.out (fun h => h))
      replace HK4 := Lib.hid (ho20.out.heap HK4.out (fun h => h))
      replace HLE := Lib.hid (HLE.out.only ho20.out (fun _ h => h.elim))
      replace HK7 := Lib.hid (ho20.out.heap HK7.out (fun h => h))
      replace HLA := Lib.hid (HLA.out.only ho20.out (fun _ _ h => h.elim))
      replace HTA := Lib.hid (HTA.out.only ho20.out (fun _ h => h.elim))
      clear ho20
      clear y6 z6
      go_wp2_with (refine wpl_push rfl (.tmp 70) (.tmp 72) 71 rfl elA rfl HLA.out rfl HK72.out (lenA HTA.out) (oneA HTA.out) HTA.out (by omega) (by omega) (fun k hk => by have := HLALT.out k hk; omega) (by omega) (by omega) (by omega) ?_)
      refine ⟨fun A9 c9 w21 HLAn ho21 => ?_⟩
      have hs21 := ho21.out.size
      clear HLA HTA
      clear HK7
      clear HK72
      replace HW : Hid (OnlyB b w w21) := Lib.hid (HW.out.then_ ho21.out (fun i hi (h : w10.heap.size ≤ i) => by omega))
      replace HR := Lib.hid (HR.out.only ho21.out (by omega))
      replace HK3 := Lib.hid (ho21.out.heap HK3.out (by omega))
      replace HK4 := Lib.hid (ho21.out.heap HK4.out (by omega))
      replace HLE := Lib.hid (HLE.out.only ho21.out (fun i (h : w10.heap.size ≤ i) => by omega))
      clear ho21
      have HLA := HLAn
      clear HLAn
      go_wp2_with (refine wpl_set rfl 71 (.tmp 74) (.tmp 73) rfl b3 6 rfl (v := .slice A9 (n + 1) c9) rfl Tryd.sizeOf71 rfl rfl HK3.out (by simp) ?_)
      clear HK3
      refine ⟨fun w22 HK3 ho22 => ?_⟩
      have hs22 := ho22.out.size
      replace HK3 : Hid (w22.heap[b3]? = some (.cells #[.int .i64 4, .int .i64 at0, .bool false, .string ⟨#[]⟩, .slice A1 1 n1c, .slice none 0 0, .slice A9 (n + 1) c9] _)) := HK3
      replace HW : Hid (OnlyB b w w22) := Lib.hid (HW.out.then_ ho22.out (fun i hi (h : i = b3) => by omega))
      replace HR := Lib.hid (HR.out.only ho22.out (by omega))
      replace HK4 := Lib.hid (ho22.out.heap HK4.out (by omega))
      replace HLE := Lib.hid (HLE.out.only ho22.out (fun i (h : i = b3) => by omega))
      replace HLA := Lib.hid (HLA.out.only ho22.out (fun i hi (h : i = b3) => by omega))
      clear ho22
      go_wp2_with fail
      go_roundg m18
      case measure => omega
      case rel => exact ⟨true, rfl, _, _, _, _, Lib.hid ⟨HR.out, HW.out, HK3.out, HK4.out, HLE.out, HLA.out, by omega, by have := HTX.out; have := HM18.out; have h9 := @catL_snoc_len T n (armL true (comL (fun i => (((fun _ => ([], 0)) : Nat → LB × Int) i).1) 0) tB); simp only [armL, if_true, List.length_append, List.length_cons, List.length_nil] at h9 ⊢; omega, by omega⟩⟩
     | false =>
      go_wp2_with fail
      clear yb zb
      obtain ⟨a1, a2, a3, a4, a5, a6, a7, hrk⟩ := HRK.out
      clear HRK
      refine (stepK_any hrk).mono ?_
      clear hrk
      rintro e w15 ⟨rfl, mk, hr, ho, hk1, hk2, hk3⟩
      have hlk := hk3 (by omega) hpk
      clear hk1 hk2 hk3
      replace HR := Lib.hid hr
      have HOx := Lib.hid ho
      have hs15 := HOx.out.size
      clear hr ho
      replace HW : Hid (OnlyB b w w15) := Lib.hid (HW.out.then_ HOx.out (fun _ _ h => h))
      replace HQ : Hid (OnlyB b wo w15) := Lib.hid (HQ.out.then_ HOx.out (fun _ _ h => h))
      replace HK3 := Lib.hid (HOx.out.heap HK3.out (by omega))
      replace HK4 := Lib.hid (HOx.out.heap HK4.out (by omega))
      replace HLE := Lib.hid (HLE.out.only HOx.out (fun i (h : i = b) => by omega))
      replace HK7 := Lib.hid (HOx.out.heap HK7.out (by omega))
      clear HOx
      go_wp2_with fail
      refine (accept_any HR.out _).mono ?_
      rintro e w16 ⟨oc, m16, rfl, hr, ho, hy, hn⟩
      replace HR := Lib.hid hr
      have HOx := Lib.hid ho
      have hs16 := HOx.out.size
      clear hr ho
      replace HW : Hid (OnlyB b w w16) := Lib.hid (HW.out.then_ HOx.out (fun _ _ h => h))
      replace HQ : Hid (OnlyB b wo w16) := Lib.hid (HQ.out.then_ HOx.out (fun _ _ h => h))
      replace HK3 := Lib.hid (HOx.out.heap HK3.out (by omega))
      replace HK4 := Lib.hid (HOx.out.heap HK4.out (by omega))
      replace HLE := Lib.hid (HLE.out.only HOx.out (fun i (h : i = b) => by omega))
      replace HK7 := Lib.hid (HOx.out.heap HK7.out (by omega))
      clear HOx
      have hac : m16 ≤ mk := by cases oc with
       | true => exact Nat.le_of_lt (hy rfl).2
       | false => exact Nat.le_of_eq (hn rfl)
      clear hy hn
      have hgm2 : m16 ≤ m := by have := HTX.out; omega
      go_wp2_with fail
      refine (HS.out hgm2 HR.out).mono ?_
      rintro e w17 ⟨cB, tB, m17, rfl, hr, ho, ht, hm⟩
      have hle17 : m17 ≤ m16 := by omega
      have HM17 := Lib.hid hm
      have HTcB := Lib.hid ht
      clear hm ht
      replace HR := Lib.hid hr
      have HOx := Lib.hid ho
      have hs17 := HOx.out.size
      clear hr ho
      replace HW : Hid (OnlyB b w w17) := Lib.hid (HW.out.then_ HOx.out (fun _ _ h => h))
      replace HQ : Hid (OnlyB b wo w17) := Lib.hid (HQ.out.then_ HOx.out (fun _ _ h => h))
      replace HK3 := Lib.hid (HOx.out.heap HK3.out (by omega))
      replace HK4 := Lib.hid (HOx.out.heap HK4.out (by omega))
      replace HLE := Lib.hid (HLE.out.only HOx.out (fun i (h : i = b) => by omega))
      replace HK7 := Lib.hid (HOx.out.heap HK7.out (by omega))
      clear HOx
      go_wp2_with (refine wpl_seg rfl 73 (.tmp 68) (.tmp 67) rfl b7 2 rfl (c := cB) rfl HK7.out [.bool true, .slice none 0 0] [.int .i64 0, .int .i64 0, .bool false, .string ⟨#[]⟩, .slice none 0 0, .slice none 0 0, .slice none 0 0] [] rfl rfl stSt (lenS HTcB.out) rfl (oneS HTcB.out) (.bool true :: .slice none 0 0 :: cB) (by simp) ?_)
      clear HK7
      refine ⟨fun w18 HK7 ho18 => ?_⟩
      have hs18 := ho18.out.size
      replace HW : Hid (OnlyB b w w18) := Lib.hid (HW.out.then_ ho18.out (fun i hi (h : i = b7) => by omega))
      replace HQ : Hid (OnlyB b wo w18) := Lib.hid (HQ.out.then_ ho18.out (fun i hi (h : i = b7) => by omega))
      replace HR := Lib.hid (HR.out.only ho18.out (by omega))
      replace HK3 := Lib.hid (ho18.out.heap HK3.out (by omega))
      replace HK4 := Lib.hid (ho18.out.heap HK4.out (by omega))
      replace HLE := Lib.hid (HLE.out.only ho18.out (fun i (h : i = b7) => by omega))
      replace HTcB := Lib.hid (HTcB.out.only ho18.out (fun i (h : i = b7) => by omega))
      clear ho18
      have HTA : Hid (Tr FA wo.heap.size w18.heap.size w18 (.bool true :: .slice none 0 0 :: cB) (armL true (comL (fun i => (((fun _ => ([], 0)) : Nat → LB × Int) i).1) 0) tB)) := Lib.hid (tra_mk (TL := fun _ => ([], 0)) LfP.nil (by omega) (fun _ => rfl) (HTcB.out.wide (by omega) (by omega)))
      generalize (.bool true :: .slice none 0 0 :: cB : List Value) = cA at HK7 HTA
      have HLA := Lib.hid (HA0.out.only HQ.out (fun i hi (h : i = b) => by omega))
      have HLALT := HALT
      clear HQ HA0 HALT HTcB
      obtain ⟨y6, z6⟩ : w18.cell? ⟨b3, 6, none⟩ = some (.slice A n c) ∧ w18.frozen? ⟨b3, 6, none⟩ = false := cell_at HK3.out rfl
      go_wp2_with (first | (refine wpl_load rfl 117 (.tmp 7) rfl b7 rfl HK7.out stAr (sizeA HTA.out) ?_) | (refine wpl_slice rfl 71 117 1 _ rfl (some 72) rfl Tryd.underlying71 cA.toArray (builtA1 (lenA HTA.out)) ?_))
      refine ⟨fun w19 b72 HK72 ho19 ha72 hb72 => ?_⟩
      have hs19 := ho19.out.size
      replace HW : Hid (OnlyB b w w19) := Lib.hid (HW.out.then_ ho19.out (fun _ _ h => h.elim))
      replace HR := Lib.hid (HR.out.only ho19.out (fun h => h))
      replace HK3 := Lib.hid (ho19.out.heap HK3.out (fun h => h))
      replace HK4 := Lib.hid (ho19.out.heap HK4.out (fun h => h))
      replace HLE := Lib.hid (HLE.out.only ho19.out (fun _ h => h.elim))
      replace HK7 := Lib.hid (ho19.out.heap HK7.out (fun h => h))
      replace HLA := Lib.hid (HLA.out.only ho19.out (fun _ _ h => h.elim))
      replace HTA := Lib.hid (HTA.out.only ho19.out (fun _ h => h.elim))
      clear ho19
      clear y6 z6
      go_wp2_with (refine wpl_push rfl (.tmp 70) (.tmp 72) 71 rfl elA rfl HLA.out rfl HK72.out (lenA HTA.out) (oneA HTA.out) HTA.out (by omega) (by omega) (fun k hk => by have := HLALT.out k hk; omega) (by omega) (by omega) (by omega) ?_)
      refine ⟨fun A9 c9 w20 HLAn ho20 => ?_⟩
      have hs20 := ho20.out.size
      clear HLA HTA
      clear HK7
      clear HK72
      replace HW : Hid (OnlyB b w w20) := Lib.hid (HW.out.then_ ho20.out (fun i hi (h : w10.heap.size ≤ i) => by omega))
      replace HR := Lib.hid (HR.out.only ho20.out (by omega))
      replace HK3 := Lib.hid (ho20.out.heap HK3.out (by omega))
      replace HK4 := Lib.hid (ho20.out.heap HK4.out (by omega))
      replace HLE := Lib.hid (HLE.out.only ho20.out (fun i (h : w10.heap.size ≤ i) => by omega))
      clear ho20
      have HLA := HLAn
      clear HLAn
      go_wp2_with (refine wpl_set rfl 71 (.tmp 74) (.tmp 73) rfl b3 6 rfl (v := .slice A9 (n + 1) c9) rfl Tryd.sizeOf71 rfl rfl HK3.out (by simp) ?_)
      clear HK3
      refine ⟨fun w21 HK3 ho21 => ?_⟩
      have hs21 := ho21.out.size
      replace HK3 : Hid (w21.heap[b3]? = some (.cells #[.int .i64 4, .int .i64 at0, .bool false, .string ⟨#[]⟩, .slice A1 1 n1c, .slice none 0 0, .slice A9 (n + 1) c9] _)) := HK3
      replace HW : Hid (OnlyB b w w21) := Lib.hid (HW.out.then_ ho21.out (fun i hi (h : i = b3) => by omega))
      replace HR := Lib.hid (HR.out.only ho21.out (by omega))
      replace HK4 := Lib.hid (ho21.out.heap HK4.out (by omega))
      replace HLE := Lib.hid (HLE.out.only ho21.out (fun i (h : i = b3) => by omega))
      replace HLA := Lib.hid (HLA.out.only ho21.out (fun i hi (h : i = b3) => by omega))
      clear ho21
      go_wp2_with fail
      go_roundg m17
      case measure => omega
      case rel => exact ⟨true, rfl, _, _, _, _, Lib.hid ⟨HR.out, HW.out, HK3.out, HK4.out, HLE.out, HLA.out, by omega, by have := HTX.out; have := HM17.out; have h9 := @catL_snoc_len T n (armL true (comL (fun i => (((fun _ => ([], 0)) : Nat → LB × Int) i).1) 0) tB); simp only [armL, if_true, List.length_append, List.length_cons, List.length_nil] at h9 ⊢; omega, by omega⟩⟩
    | false =>
     clear hik
     go_wp2_with (refine wpl_set rfl 4 (.tmp 36) (.tmp 35) rfl b7 0 rfl (v := .bool false) rfl Tryd.sizeOf4 rfl rfl HK7.out (by simp) ?_)
     clear HK7
     refine ⟨fun w14 HK7 ho14 => ?_⟩
     have hs14 := ho14.out.size
     replace HK7 : Hid (w14.heap[b7]? = some (.cells #[.bool false, .slice none 0 0, .int .i64 0, .int .i64 0, .bool false, .string ⟨#[]⟩, .slice none 0 0, .slice none 0 0, .slice none 0 0] _)) := HK7
     replace HW : Hid (OnlyB b w w14) := Lib.hid (HW.out.then_ ho14.out (fun i hi (h : i = b7) => by omega))
     replace HQ : Hid (OnlyB b wo w14) := Lib.hid (HQ.out.then_ ho14.out (fun i hi (h : i = b7) => by omega))
     replace HR := Lib.hid (HR.out.only ho14.out (by omega))
     replace HK3 := Lib.hid (ho14.out.heap HK3.out (by omega))
     replace HK4 := Lib.hid (ho14.out.heap HK4.out (by omega))
     replace HLE := Lib.hid (HLE.out.only ho14.out (fun i (h : i = b7) => by omega))
     clear ho14
     obtain ⟨yb, zb⟩ : w14.cell? ⟨b7, 0, none⟩ = some (.bool false) ∧ w14.frozen? ⟨b7, 0, none⟩ = false := cell_at HK7.out rfl
     go_wp2_with fail
     clear yb zb
     go_wp2_with fail
     refine (expr_any HR.out).mono ?_
     rintro e w15 ⟨c2, t2, kd15, m15, rfl, hr, ho, ht, hm⟩
     have hle15 : m15 ≤ go := by omega
     have HM15 := Lib.hid hm
     have HTc2 := Lib.hid ht
     clear hm ht
     replace HR := Lib.hid hr
     have HOx := Lib.hid ho
     have hs15 := HOx.out.size
     clear hr ho
     replace HW : Hid (OnlyB b w w15) := Lib.hid (HW.out.then_ HOx.out (fun _ _ h => h))
     replace HQ : Hid (OnlyB b wo w15) := Lib.hid (HQ.out.then_ HOx.out (fun _ _ h => h))
     replace HK3 := Lib.hid (HOx.out.heap HK3.out (by omega))
     replace HK4 := Lib.hid (HOx.out.heap HK4.out (by omega))
     replace HLE := Lib.hid (HLE.out.only HOx.out (fun i (h : i = b) => by omega))
     replace HK7 := Lib.hid (HOx.out.heap HK7.out (by omega))
     clear HOx
     go_wp2_with (refine wpl_box rfl rfl 56 rfl 8 rfl (.tmp 47) rfl rfl Tryd.zeroValue56 (cells := c2.toArray) (fun _ => rfl) (fun _ => rfl) stE HTc2.out.size rfl HTc2.out.ones ?_)
     refine ⟨fun w16 b8 HK8 ho16 ha8 hb8 => ?_⟩
     have hs16 := ho16.out.size
     replace HW : Hid (OnlyB b w w16) := Lib.hid (HW.out.then_ ho16.out (fun _ _ h => h.elim))
     replace HQ : Hid (OnlyB b wo w16) := Lib.hid (HQ.out.then_ ho16.out (fun _ _ h => h.elim))
     replace HR := Lib.hid (HR.out.only ho16.out (fun h => h))
     replace HK3 := Lib.hid (ho16.out.heap HK3.out (fun h => h))
     replace HK4 := Lib.hid (ho16.out.heap HK4.out (fun h => h))
     replace HLE := Lib.hid (HLE.out.only ho16.out (fun _ h => h.elim))
     replace HK7 := Lib.hid (ho16.out.heap HK7.out (fun h => h))
     replace HTc2 := Lib.hid (HTc2.out.only ho16.out (fun _ h => h.elim))
     clear ho16
     have HL0 := Lib.hid HTc2.out.len
     have HL : Hid (Ls FE 56 7 w14.heap.size b8 w16 none 0 0 (fun _ => ([], 0))) := Lib.hid Ls.nil
     have HLLT : Hid (∀ k, blockOf none k → k < w14.heap.size) := Lib.hid (fun k hk => by obtain ⟨_, h, _⟩ := hk; cases h)
     obtain ⟨y6, z6⟩ : w16.cell? ⟨b7, 1, none⟩ = some (.slice none 0 0) ∧ w16.frozen? ⟨b7, 1, none⟩ = false := cell_at HK7.out rfl
     go_wp2_with (first | (refine wpl_load rfl 56 (.tmp 8) rfl b8 rfl HK8.out stE HTc2.out.size ?_) | (refine wpl_slice rfl 54 56 1 _ rfl (some 51) rfl Tryd.underlying54 c2.toArray (builtE1 HTc2.out.len) ?_))
     refine ⟨fun w17 b51 HK51 ho17 ha51 hb51 => ?_⟩
     have hs17 := ho17.out.size
     replace HW : Hid (OnlyB b w w17) := Lib.hid (HW.out.then_ ho17.out (fun _ _ h => h.elim))
     replace HQ : Hid (OnlyB b wo w17) := Lib.hid (HQ.out.then_ ho17.out (fun _ _ h => h.elim))
     replace HR := Lib.hid (HR.out.only ho17.out (fun h => h))
     replace HK3 := Lib.hid (ho17.out.heap HK3.out (fun h => h))
     replace HK4 := Lib.hid (ho17.out.heap HK4.out (fun h => h))
     replace HLE := Lib.hid (HLE.out.only ho17.out (fun _ h => h.elim))
     replace HK7 := Lib.hid (ho17.out.heap HK7.out (fun h => h))
     replace HTc2 := Lib.hid (HTc2.out.only ho17.out (fun _ h => h.elim))
     replace HK8 := Lib.hid (ho17.out.heap HK8.out (fun h => h))
     replace HL := Lib.hid (HL.out.only ho17.out (fun _ _ h => h.elim))
     clear ho17
     clear y6 z6
     go_wp2_with (refine wpl_pushX rfl (.tmp 49) (.tmp 51) 54 rfl elE rfl HL.out rfl HK51.out HTc2.out.len HTc2.out.one HTc2.out (by omega) (by omega) (fun k hk => by have := HLLT.out k hk; omega) (by omega) (by omega) (by omega) ?_)
     refine ⟨fun A3 n3c w18 HLn ho18 => ?_⟩
     have hs18 := ho18.out.size
     clear HL HTc2
     clear HK51
     replace HW : Hid (OnlyB b w w18) := Lib.hid (HW.out.then_ ho18.out (fun i hi (h : w14.heap.size ≤ i ∧ i ≠ b8) => by omega))
     replace HQ : Hid (OnlyB b wo w18) := Lib.hid (HQ.out.then_ ho18.out (fun i hi (h : w14.heap.size ≤ i ∧ i ≠ b8) => by omega))
     replace HR := Lib.hid (HR.out.only ho18.out (by omega))
     replace HK3 := Lib.hid (ho18.out.heap HK3.out (by omega))
     replace HK4 := Lib.hid (ho18.out.heap HK4.out (by omega))
     replace HLE := Lib.hid (HLE.out.only ho18.out (fun i (h : w14.heap.size ≤ i ∧ i ≠ b8) => by omega))
     replace HK7 := Lib.hid (ho18.out.heap HK7.out (by omega))
     replace HK8 := Lib.hid (ho18.out.heap HK8.out (by omega))
     clear ho18
     have HL := HLn
     clear HLn
     replace HL : Hid (Ls FE 56 7 w14.heap.size b8 w18 A3 1 n3c (snocF (fun _ => ([], 0)) 0 (t2, kd15))) := HL
     go_wp2_with (refine wpl_set rfl 54 (.tmp 53) (.tmp 52) rfl b7 1 rfl (v := .slice A3 1 n3c) rfl Tryd.sizeOf54 rfl rfl HK7.out (by simp) ?_)
     clear HK7
     refine ⟨fun w19 HK7 ho19 => ?_⟩
     have hs19 := ho19.out.size
     replace HK7 : Hid (w19.heap[b7]? = some (.cells #[.bool false, .slice A3 1 n3c, .int .i64 0, .int .i64 0, .bool false, .string ⟨#[]⟩, .slice none 0 0, .slice none 0 0, .slice none 0 0] _)) := HK7
     replace HW : Hid (OnlyB b w w19) := Lib.hid (HW.out.then_ ho19.out (fun i hi (h : i = b7) => by omega))
     replace HQ : Hid (OnlyB b wo w19) := Lib.hid (HQ.out.then_ ho19.out (fun i hi (h : i = b7) => by omega))
     replace HR := Lib.hid (HR.out.only ho19.out (by omega))
     replace HK3 := Lib.hid (ho19.out.heap HK3.out (by omega))
     replace HK4 := Lib.hid (ho19.out.heap HK4.out (by omega))
     replace HLE := Lib.hid (HLE.out.only ho19.out (fun i (h : i = b7) => by omega))
     replace HK8 := Lib.hid (ho19.out.heap HK8.out (by omega))
     replace HL := Lib.hid (HL.out.only ho19.out (fun i hi (h : i = b7) => by omega))
     clear ho19
     go_wp2_with fail
     have H1 : Hid (LbI s b go w wo w4.heap.size w9.heap.size w14.heap.size b3 b4 b7 b8 at0 A1 n1c t1 kd5 A n c m15 w19 A3 1 n3c (snocF (fun _ => ([], 0)) 0 (t2, kd15)) c2) := Lib.hid ⟨HR.out, HW.out, HQ.out, HK3.out, HK4.out, HK7.out, HK8.out, HL0.out, HLE.out, HL.out, by omega, by have := HM15.out; have h9 := comL_one_len (T := (fun _ => ([], 0))) (t := t2) (k := kd15); omega, by omega, by omega, by omega⟩
     clear HR HW HQ HK3 HK4 HK7 HK8 HL0 HLE HL HLLT
     go_loopg [55] m15 (fun g _ wr => ∃ Ai ni ci Ti c0, Hid (LbI s b go w wo w4.heap.size w9.heap.size w14.heap.size b3 b4 b7 b8 at0 A1 n1c t1 kd5 A n c g wr Ai ni ci Ti c0))
     case atStart => exact ⟨_, _, _, _, _, H1⟩
     case round =>
      clear H1
      obtain ⟨A4, n4, c4, T4, c0, HB⟩ := hrel
      have HR := Lib.hid HB.out.rd
      have HW := Lib.hid HB.out.ol
      have HQ := Lib.hid HB.out.hq
      have HK3 := Lib.hid HB.out.k3
      have HK4 := Lib.hid HB.out.k4
      have HK7 := Lib.hid HB.out.k7
      have HK8 := Lib.hid HB.out.k8
      have HL0 := Lib.hid HB.out.l0
      have HLE := Lib.hid HB.out.le
      have HL := Lib.hid HB.out.ls
      have hnn2 := HB.out.nn
      have HTX2 := Lib.hid HB.out.tx
      obtain ⟨hsr2, hsr3, hsr8⟩ := HB.out.sz
      clear HB
      go_wp2_with fail
      refine (accept_any HR.out _).mono ?_
      rintro e w20 ⟨ok, m20, rfl, hr, ho, hy, hn⟩
      replace HR := Lib.hid hr
      have HOx := Lib.hid ho
      have hs20 := HOx.out.size
      clear hr ho
      replace HW : Hid (OnlyB b w w20) := Lib.hid (HW.out.then_ HOx.out (fun _ _ h => h))
      replace HQ : Hid (OnlyB b wo w20) := Lib.hid (HQ.out.then_ HOx.out (fun _ _ h => h))
      replace HK3 := Lib.hid (HOx.out.heap HK3.out (by omega))
      replace HK4 := Lib.hid (HOx.out.heap HK4.out (by omega))
      replace HK7 := Lib.hid (HOx.out.heap HK7.out (by omega))
      replace HK8 := Lib.hid (HOx.out.heap HK8.out (by omega))
      replace HLE := Lib.hid (HLE.out.only HOx.out (fun i (h : i = b) => by omega))
      replace HL := Lib.hid (HL.out.only HOx.out (fun i hi (h : i = b) => by omega))
      clear HOx
      cases ok with
      | false =>
       obtain rfl : m20 = gk := hn rfl
       clear hy hn
       have HLB := Lib.hid HL.out.done
       clear HL
       go_wp2_with fail
       refine (must_any HR.out _).mono ?_
       rintro e w21 ⟨rfl, m21, hr, ho, hm⟩
       have hle21 : m21 ≤ m20 := by omega
       have HM21 := Lib.hid hm
       clear hm
       replace HR := Lib.hid hr
       have HOx := Lib.hid ho
       have hs21 := HOx.out.size
       clear hr ho
       replace HW : Hid (OnlyB b w w21) := Lib.hid (HW.out.then_ HOx.out (fun _ _ h => h))
       replace HQ : Hid (OnlyB b wo w21) := Lib.hid (HQ.out.then_ HOx.out (fun _ _ h => h))
       replace HK3 := Lib.hid (HOx.out.heap HK3.out (by omega))
       replace HK4 := Lib.hid (HOx.out.heap HK4.out (by omega))
       replace HK7 := Lib.hid (HOx.out.heap HK7.out (by omega))
       replace HK8 := Lib.hid (HOx.out.heap HK8.out (by omega))
       replace HLE := Lib.hid (HLE.out.only HOx.out (fun i (h : i = b) => by omega))
       replace HLB := Lib.hid (HLB.out.only HOx.out (fun i (h : i = b) => by omega))
       clear HOx
       have hgo3 : m21 ≤ go := by have := HTX2.out; omega
       have hgm2 : m21 ≤ m := by have := HTX.out; omega
       go_wp2_with fail
       refine (HS.out hgm2 HR.out).mono ?_
       rintro e w22 ⟨cB, tB, m22, rfl, hr, ho, ht, hm⟩
       have hle22 : m22 ≤ m21 := by omega
       have HM22 := Lib.hid hm
       have HTcB := Lib.hid ht
       clear hm ht
       replace HR := Lib.hid hr
       have HOx := Lib.hid ho
       have hs22 := HOx.out.size
       clear hr ho
       replace HW : Hid (OnlyB b w w22) := Lib.hid (HW.out.then_ HOx.out (fun _ _ h => h))
       replace HQ : Hid (OnlyB b wo w22) := Lib.hid (HQ.out.then_ HOx.out (fun _ _ h => h))
       replace HK3 := Lib.hid (HOx.out.heap HK3.out (by omega))
       replace HK4 := Lib.hid (HOx.out.heap HK4.out (by omega))
       replace HK7 := Lib.hid (HOx.out.heap HK7.out (by omega))
       replace HK8 := Lib.hid (HOx.out.heap HK8.out (by omega))
       replace HLE := Lib.hid (HLE.out.only HOx.out (fun i (h : i = b) => by omega))
       replace HLB := Lib.hid (HLB.out.only HOx.out (fun i (h : i = b) => by omega))
       clear HOx
       go_wp2_with (refine wpl_seg rfl 73 (.tmp 68) (.tmp 67) rfl b7 2 rfl (c := cB) rfl HK7.out [.bool false, .slice A4 n4 c4] [.int .i64 0, .int .i64 0, .bool false, .string ⟨#[]⟩, .slice none 0 0, .slice none 0 0, .slice none 0 0] [] rfl rfl stSt (lenS HTcB.out) rfl (oneS HTcB.out) (.bool false :: .slice A4 n4 c4 :: cB) (by simp) ?_)
       clear HK7
       refine ⟨fun w23 HK7 ho23 => ?_⟩
       have hs23 := ho23.out.size
       replace HW : Hid (OnlyB b w w23) := Lib.hid (HW.out.then_ ho23.out (fun i hi (h : i = b7) => by omega))
       replace HQ : Hid (OnlyB b wo w23) := Lib.hid (HQ.out.then_ ho23.out (fun i hi (h : i = b7) => by omega))
       replace HR := Lib.hid (HR.out.only ho23.out (by omega))
       replace HK3 := Lib.hid (ho23.out.heap HK3.out (by omega))
       replace HK4 := Lib.hid (ho23.out.heap HK4.out (by omega))
       replace HK8 := Lib.hid (ho23.out.heap HK8.out (by omega))
       replace HLE := Lib.hid (HLE.out.only ho23.out (fun i (h : i = b7) => by omega))
       replace HLB := Lib.hid (HLB.out.only ho23.out (fun i (h : i = b7) => by omega))
       replace HTcB := Lib.hid (HTcB.out.only ho23.out (fun i (h : i = b7) => by omega))
       clear ho23
       have HTA : Hid (Tr FA wo.heap.size w23.heap.size w23 (.bool false :: .slice A4 n4 c4 :: cB) (armL false (comL (fun i => (T4 i).1) n4) tB)) := Lib.hid (tra_mk (HLB.out.wide (by omega) (by omega)) (by omega) (fun h => by cases h) (HTcB.out.wide (by omega) (by omega)))
       generalize (.bool false :: .slice A4 n4 c4 :: cB : List Value) = cA at HK7 HTA
       have HLA := Lib.hid (HA0.out.only HQ.out (fun i hi (h : i = b) => by omega))
       have HLALT := HALT
       clear HQ HA0 HALT HTcB
       obtain ⟨y6, z6⟩ : w23.cell? ⟨b3, 6, none⟩ = some (.slice A n c) ∧ w23.frozen? ⟨b3, 6, none⟩ = false := cell_at HK3.out rfl
       go_wp2_with (first | (refine wpl_load rfl 117 (.tmp 7) rfl b7 rfl HK7.out stAr (sizeA HTA.out) ?_) | (refine wpl_slice rfl 71 117 1 _ rfl (some 72) rfl Tryd.underlying71 cA.toArray (builtA1 (lenA HTA.out)) ?_))
       refine ⟨fun w24 b72 HK72 ho24 ha72 hb72 => ?_⟩
       have hs24 := ho24.out.size
       replace HW : Hid (OnlyB b w w24) := Lib.hid (HW.out.then_ ho24.out (fun _ _ h => h.elim))
       replace HR := Lib.hid (HR.out.only ho24.out (fun h => h))
       replace HK3 := Lib.hid (ho24.out.heap HK3.out (fun h => h))
       replace HK4 := Lib.hid (ho24.out.heap HK4.out (fun h => h))
       replace HK7 := Lib.hid (ho24.out.heap HK7.out (fun h => h))
       replace HK8 := Lib.hid (ho24.out.heap HK8.out (fun h => h))
       replace HLE := Lib.hid (HLE.out.only ho24.out (fun _ h => h.elim))
       replace HLB := Lib.hid (HLB.out.only ho24.out (fun _ h => h.elim))
       replace HLA := Lib.hid (HLA.out.only ho24.out (fun _ _ h => h.elim))
       replace HTA := Lib.hid (HTA.out.only ho24.out (fun _ h => h.elim))
       clear ho24
       clear y6 z6
       go_wp2_with (refine wpl_push rfl (.tmp 70) (.tmp 72) 71 rfl elA rfl HLA.out rfl HK72.out (lenA HTA.out) (oneA HTA.out) HTA.out (by omega) (by omega) (fun k hk => by have := HLALT.out k hk; omega) (by omega) (by omega) (by omega) ?_)
       refine ⟨fun A9 c9 w25 HLAn ho25 => ?_⟩
       have hs25 := ho25.out.size
       clear HLA HTA
       clear HK7
       clear HK8
       clear HK72
       clear HLB
       replace HW : Hid (OnlyB b w w25) := Lib.hid (HW.out.then_ ho25.out (fun i hi (h : w10.heap.size ≤ i) => by omega))
       replace HR := Lib.hid (HR.out.only ho25.out (by omega))
       replace HK3 := Lib.hid (ho25.out.heap HK3.out (by omega))
       replace HK4 := Lib.hid (ho25.out.heap HK4.out (by omega))
       replace HLE := Lib.hid (HLE.out.only ho25.out (fun i (h : w10.heap.size ≤ i) => by omega))
       clear ho25
       have HLA := HLAn
       clear HLAn
       go_wp2_with (refine wpl_set rfl 71 (.tmp 74) (.tmp 73) rfl b3 6 rfl (v := .slice A9 (n + 1) c9) rfl Tryd.sizeOf71 rfl rfl HK3.out (by simp) ?_)
       clear HK3
       refine ⟨fun w26 HK3 ho26 => ?_⟩
       have hs26 := ho26.out.size
       replace HK3 : Hid (w26.heap[b3]? = some (.cells #[.int .i64 4, .int .i64 at0, .bool false, .string ⟨#[]⟩, .slice A1 1 n1c, .slice none 0 0, .slice A9 (n + 1) c9] _)) := HK3
       replace HW : Hid (OnlyB b w w26) := Lib.hid (HW.out.then_ ho26.out (fun i hi (h : i = b3) => by omega))
       replace HR := Lib.hid (HR.out.only ho26.out (by omega))
       replace HK4 := Lib.hid (ho26.out.heap HK4.out (by omega))
       replace HLE := Lib.hid (HLE.out.only ho26.out (fun i (h : i = b3) => by omega))
       replace HLA := Lib.hid (HLA.out.only ho26.out (fun i hi (h : i = b3) => by omega))
       clear ho26
       go_wp2_with fail
       have hlt9 : m22 < go := by have := HTX2.out; have := HM21.out; omega
       go_roundg m22
       case measure => omega
       case rel => exact ⟨sm, rfl, _, _, _, _, Lib.hid ⟨HR.out, HW.out, HK3.out, HK4.out, HLE.out, HLA.out, by omega, by have := HTX.out; have := HTX2.out; have := HM21.out; have := HM22.out; have h9 := @catL_snoc_len T n (armL false (comL (fun i => (T4 i).1) n4) tB); simp only [armL, Bool.false_eq_true, if_false, List.length_append, List.length_cons, List.length_nil] at h9 ⊢; omega, by omega⟩⟩
      | true =>
       obtain ⟨hp20, hl20⟩ := hy rfl
       clear hy hn
       have HLLT := Lib.hid HL.out.lt
       go_wp2_with fail
       refine (expr_any HR.out).mono ?_
       rintro e w21 ⟨c5, t5, kd21, m21, rfl, hr, ho, ht, hm⟩
       have hle21 : m21 ≤ m20 := by omega
       have HM21 := Lib.hid hm
       have HTc5 := Lib.hid ht
       clear hm ht
       replace HR := Lib.hid hr
       have HOx := Lib.hid ho
       have hs21 := HOx.out.size
       clear hr ho
       replace HW : Hid (OnlyB b w w21) := Lib.hid (HW.out.then_ HOx.out (fun _ _ h => h))
       replace HQ : Hid (OnlyB b wo w21) := Lib.hid (HQ.out.then_ HOx.out (fun _ _ h => h))
       replace HK3 := Lib.hid (HOx.out.heap HK3.out (by omega))
       replace HK4 := Lib.hid (HOx.out.heap HK4.out (by omega))
       replace HK7 := Lib.hid (HOx.out.heap HK7.out (by omega))
       replace HK8 := Lib.hid (HOx.out.heap HK8.out (by omega))
       replace HLE := Lib.hid (HLE.out.only HOx.out (fun i (h : i = b) => by omega))
       replace HL := Lib.hid (HL.out.only HOx.out (fun i hi (h : i = b) => by omega))
       clear HOx
       go_wp2_with (refine wpl_store rfl 56 (.tmp 8) (.tmp 57) rfl b8 rfl (cells := c5.toArray) rfl HK8.out stE HTc5.out.size (by simpa using HL0.out) HTc5.out.ones ?_)
       clear HK8
       refine ⟨fun w22 HK8 ho22 => ?_⟩
       have hs22 := ho22.out.size
       replace HW : Hid (OnlyB b w w22) := Lib.hid (HW.out.then_ ho22.out (fun i hi (h : i = b8) => by omega))
       replace HQ : Hid (OnlyB b wo w22) := Lib.hid (HQ.out.then_ ho22.out (fun i hi (h : i = b8) => by omega))
       replace HR := Lib.hid (HR.out.only ho22.out (by omega))
       replace HK3 := Lib.hid (ho22.out.heap HK3.out (by omega))
       replace HK4 := Lib.hid (ho22.out.heap HK4.out (by omega))
       replace HK7 := Lib.hid (ho22.out.heap HK7.out (by omega))
       replace HLE := Lib.hid (HLE.out.only ho22.out (fun i (h : i = b8) => by omega))
       replace HL := Lib.hid (HL.out.only ho22.out (fun i hi (h : i = b8) => by omega))
       replace HTc5 := Lib.hid (HTc5.out.only ho22.out (fun i (h : i = b8) => by omega))
       clear ho22
       replace HL0 := Lib.hid HTc5.out.len
       obtain ⟨y6, z6⟩ : w22.cell? ⟨b7, 1, none⟩ = some (.slice A4 n4 c4) ∧ w22.frozen? ⟨b7, 1, none⟩ = false := cell_at HK7.out rfl
       go_wp2_with (first | (refine wpl_load rfl 56 (.tmp 8) rfl b8 rfl HK8.out stE HTc5.out.size ?_) | (refine wpl_slice rfl 54 56 1 _ rfl (some 61) rfl Tryd.underlying54 c5.toArray (builtE1 HTc5.out.len) ?_))
       refine ⟨fun w23 b61 HK61 ho23 ha61 hb61 => ?_⟩
       have hs23 := ho23.out.size
       replace HW : Hid (OnlyB b w w23) := Lib.hid (HW.out.then_ ho23.out (fun _ _ h => h.elim))
       replace HQ : Hid (OnlyB b wo w23) := Lib.hid (HQ.out.then_ ho23.out (fun _ _ h => h.elim))
       replace HR := Lib.hid (HR.out.only ho23.out (fun h => h))
       replace HK3 := Lib.hid (ho23.out.heap HK3.out (fun h => h))
       replace HK4 := Lib.hid (ho23.out.heap HK4.out (fun h => h))
       replace HK7 := Lib.hid (ho23.out.heap HK7.out (fun h => h))
       replace HK8 := Lib.hid (ho23.out.heap HK8.out (fun h => h))
       replace HLE := Lib.hid (HLE.out.only ho23.out (fun _ h => h.elim))
       replace HL := Lib.hid (HL.out.only ho23.out (fun _ _ h => h.elim))
       replace HTc5 := Lib.hid (HTc5.out.only ho23.out (fun _ h => h.elim))
       clear ho23
       clear y6 z6
       go_wp2_with (refine wpl_pushX rfl (.tmp 59) (.tmp 61) 54 rfl elE rfl HL.out rfl HK61.out HTc5.out.len HTc5.out.one HTc5.out (by omega) (by omega) (fun k hk => by have := HLLT.out k hk; omega) (by omega) (by omega) (by omega) ?_)
       refine ⟨fun A5 n5c w24 HLn ho24 => ?_⟩
       have hs24 := ho24.out.size
       clear HL HTc5
       clear HK61
       replace HW : Hid (OnlyB b w w24) := Lib.hid (HW.out.then_ ho24.out (fun i hi (h : w14.heap.size ≤ i ∧ i ≠ b8) => by omega))
       replace HQ : Hid (OnlyB b wo w24) := Lib.hid (HQ.out.then_ ho24.out (fun i hi (h : w14.heap.size ≤ i ∧ i ≠ b8) => by omega))
       replace HR := Lib.hid (HR.out.only ho24.out (by omega))
       replace HK3 := Lib.hid (ho24.out.heap HK3.out (by omega))
       replace HK4 := Lib.hid (ho24.out.heap HK4.out (by omega))
       replace HK7 := Lib.hid (ho24.out.heap HK7.out (by omega))
       replace HK8 := Lib.hid (ho24.out.heap HK8.out (by omega))
       replace HLE := Lib.hid (HLE.out.only ho24.out (fun i (h : w14.heap.size ≤ i ∧ i ≠ b8) => by omega))
       clear ho24
       have HL := HLn
       clear HLn
       go_wp2_with (refine wpl_set rfl 54 (.tmp 63) (.tmp 62) rfl b7 1 rfl (v := .slice A5 (n4 + 1) n5c) rfl Tryd.sizeOf54 rfl rfl HK7.out (by simp) ?_)
       clear HK7
       refine ⟨fun w25 HK7 ho25 => ?_⟩
       have hs25 := ho25.out.size
       replace HK7 : Hid (w25.heap[b7]? = some (.cells #[.bool false, .slice A5 (n4 + 1) n5c, .int .i64 0, .int .i64 0, .bool false, .string ⟨#[]⟩, .slice none 0 0, .slice none 0 0, .slice none 0 0] _)) := HK7
       replace HW : Hid (OnlyB b w w25) := Lib.hid (HW.out.then_ ho25.out (fun i hi (h : i = b7) => by omega))
       replace HQ : Hid (OnlyB b wo w25) := Lib.hid (HQ.out.then_ ho25.out (fun i hi (h : i = b7) => by omega))
       replace HR := Lib.hid (HR.out.only ho25.out (by omega))
       replace HK3 := Lib.hid (ho25.out.heap HK3.out (by omega))
       replace HK4 := Lib.hid (ho25.out.heap HK4.out (by omega))
       replace HK8 := Lib.hid (ho25.out.heap HK8.out (by omega))
       replace HLE := Lib.hid (HLE.out.only ho25.out (fun i (h : i = b7) => by omega))
       replace HL := Lib.hid (HL.out.only ho25.out (fun i hi (h : i = b7) => by omega))
       clear ho25
       go_wp2_with fail
       go_roundg m21
       case measure => omega
       case rel => exact ⟨A5, n4 + 1, n5c, _, _, Lib.hid ⟨HR.out, HW.out, HQ.out, HK3.out, HK4.out, HK7.out, HK8.out, HL0.out, HLE.out, HL.out, by omega, by have := HTX2.out; have := HM21.out; have := comL_snoc_len (T := T4) (n := n4) (t := t5) (k := kd21); omega, by omega, by omega, by omega⟩⟩
  ·
   have hci : ((codex : Int) == 0) = false := by rw [beq_eq_false_iff_ne]; omega
   clear hc HF
   have HLA := Lib.hid (HA0.out.only HQ.out (fun i hi (h : i = b) => by omega))
   clear HQ HA0 HALT
   go_wp2_with fail
   refine (must_any HR.out _).mono ?_
   rintro e w11 ⟨rfl, m11, hr, ho, hm⟩
   have hle11 : m11 ≤ go := by omega
   have HM11 := Lib.hid hm
   clear hm
   replace HR := Lib.hid hr
   have HOx := Lib.hid ho
   have hs11 := HOx.out.size
   clear hr ho
   replace HW : Hid (OnlyB b w w11) := Lib.hid (HW.out.then_ HOx.out (fun _ _ h => h))
   replace HK3 := Lib.hid (HOx.out.heap HK3.out (by omega))
   replace HK4 := Lib.hid (HOx.out.heap HK4.out (by omega))
   replace HLE := Lib.hid (HLE.out.only HOx.out (fun i (h : i = b) => by omega))
   replace HLA := Lib.hid (HLA.out.only HOx.out (fun i hi (h : i = b) => by omega))
   clear HOx
   go_wp2_with (first | (refine wpl_load rfl 73 (.tmp 3) rfl b3 rfl HK3.out stSt rfl ?_) | (refine wpl_store rfl 73 (.tmp 4) (.tmp 77) rfl b4 rfl (cells := #[.int .i64 4, .int .i64 at0, .bool false, .string ⟨#[]⟩, .slice A1 1 n1c, .slice none 0 0, .slice A n c]) rfl HK4.out stSt rfl rfl (ones rfl) ?_))
   clear HK4
   refine ⟨fun w12 HK4 ho12 => ?_⟩
   have hs12 := ho12.out.size
   replace HW : Hid (OnlyB b w w12) := Lib.hid (HW.out.then_ ho12.out (fun i hi (h : i = b4) => by omega))
   replace HR := Lib.hid (HR.out.only ho12.out (by omega))
   replace HK3 := Lib.hid (ho12.out.heap HK3.out (by omega))
   replace HLE := Lib.hid (HLE.out.only ho12.out (fun i (h : i = b4) => by omega))
   replace HLA := Lib.hid (HLA.out.only ho12.out (fun i hi (h : i = b4) => by omega))
   clear ho12
   go_wp2_with fail
   exact bodyPost_ret (ret_box rfl _ rfl HK4.out stSt rfl) rfl (StOut.mk HR.out HW.out (trs_mk (kd := 4) (nm := []) (AS := none) (ns := 0) (cS := 0) (TS := (fun _ => ([] : LB))) (HLE.out.wide (by omega) (by omega)) LfP.nil (HLA.out.done.wide (by omega) (by omega)) (by omega) (by omega) (by omega) ⟨by omega, by simp, fun h => by omega, fun h => by omega, fun h => by omega, fun h => by omega⟩) (by have := HTX.out; have := HM11.out; rw [show (txS 4 false [] (fun i => (snocF (fun _ => ([], 0)) 0 (t1, kd5) i).1) 0 (fun _ => ([] : LB)) n T) = [99, 97, 115, 101, 32, 40] ++ t1 ++ [41, 32] ++ catL T n ++ [101, 110, 100, 99, 97, 115, 101] from rfl]; simp only [List.length_append, List.length_cons, List.length_nil]; omega) rfl)
end Go.Proofs.YtbdcpealkllfnaaDoor
