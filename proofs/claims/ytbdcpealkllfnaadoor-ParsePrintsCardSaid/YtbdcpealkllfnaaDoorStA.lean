/- The reference's Reader: target, loop, walked. Condition: the text is shorter than 1000000 bytes. -/
import Derived.Test.YtbdcpealkllfnaaDoorStS
namespace Go.Proofs.YtbdcpealkllfnaaDoor
open Go.RowKit Go.Deep

set_option maxRecDepth 100000 in
set_option maxHeartbeats 8000000 in
theorem target_step {s : ByteArray} {b m : Nat} {w : World} (HT : Hid (∀ {w : World} {m1 : Nat}, m1 < m → RdS s b w m1 → Calls Tryd.prog 57 #[.pointer (some ⟨b, 0, none⟩)] w (ExOut s b m1 w))) (HR : Hid (RdS s b w m)) : Calls Tryd.prog 57 #[.pointer (some ⟨b, 0, none⟩)] w (ExOut s b m w) := by
 have HR0 := HR
 have hlt := HR.out.lt
 have HW : Hid (OnlyB b w w) := Lib.hid (Only.refl _ w)
 go_enter Tryd.func57, Tryd.ntmps57
 go_wp2_with (refine wpl_alloc rfl 56 rfl (some 2) rfl Tryd.zeroValue56 ?_)
 refine ⟨fun w1 b2 HK2 ho1 ha2 hb2 => ?_⟩
 have hs1 := ho1.out.size
 replace HW : Hid (OnlyB b w w1) := Lib.hid (HW.out.then_ ho1.out (fun _ _ h => h.elim))
 replace HR := Lib.hid (HR.out.only ho1.out (fun h => h))
 clear ho1
 obtain ⟨kd, at_, wd, T, num, q, code, fat, hrf⟩ := HR.out
 have HF := Lib.hid hrf
 clear hrf
 obtain ⟨y2, z2⟩ := HF.out.c2
 go_wp2_with fail
 clear y2 z2 HF
 go_wp2_with fail
 refine (accept_any HR.out _).mono ?_
 rintro e w2 ⟨ok, m2, rfl, hr, ho, hy, hn⟩
 replace HR := Lib.hid hr
 have HOx := Lib.hid ho
 have hs2 := HOx.out.size
 clear hr ho
 replace HW : Hid (OnlyB b w w2) := Lib.hid (HW.out.then_ HOx.out (fun _ _ h => h))
 replace HK2 := Lib.hid (HOx.out.heap HK2.out (by omega))
 clear HOx
 cases ok with
 | false =>
  have hme := hn rfl
  have HME := Lib.hid hme
  clear hy hn hme
  go_wp2_with fail
  refine (placeR_any HR.out).mono ?_
  rintro e w3 ⟨c1, t1, kd3, m3, rfl, hr, ho, ht, hm⟩
  have hle3 : m3 ≤ m2 := by omega
  have HM3 := Lib.hid hm
  have HTc1 := Lib.hid ht
  clear hm ht
  replace HR := Lib.hid hr
  have HOx := Lib.hid ho
  have hs3 := HOx.out.size
  clear hr ho
  replace HW : Hid (OnlyB b w w3) := Lib.hid (HW.out.then_ HOx.out (fun _ _ h => h))
  replace HK2 := Lib.hid (HOx.out.heap HK2.out (by omega))
  clear HOx
  go_wp2_with (refine wpl_store rfl 56 (.tmp 2) (.tmp 17) rfl b2 rfl (cells := c1.toArray) rfl HK2.out stE HTc1.out.size rfl HTc1.out.ones ?_)
  clear HK2
  refine ⟨fun w4 HK2 ho4 => ?_⟩
  have hs4 := ho4.out.size
  replace HW : Hid (OnlyB b w w4) := Lib.hid (HW.out.then_ ho4.out (fun i hi (h : i = b2) => by omega))
  replace HR := Lib.hid (HR.out.only ho4.out (by omega))
  replace HTc1 := Lib.hid (HTc1.out.only ho4.out (fun i (h : i = b2) => by omega))
  clear ho4
  go_wp2_with fail
  exact bodyPost_ret (ret_box rfl _ rfl HK2.out stE HTc1.out.size) rfl (ExOut.mk HR.out HW.out (HTc1.out.wide (by omega) (by omega)) (by rw [← HME.out]; exact HM3.out) rfl)
 | true =>
  obtain ⟨hp2, hl2⟩ := hy rfl
  clear hy hn
  go_wp2_with (refine wpl_box rfl rfl 56 rfl 5 rfl (.tmp 19) rfl rfl Tryd.zeroValue56 (cells := #[.int .i64 8, .int .i64 (at_ : Int), .int .i64 0, .int .i64 0, .int .u64 0, .string ⟨#[]⟩, .slice none 0 0]) (fun _ => rfl) (fun _ => rfl) stE rfl rfl (ones rfl) ?_)
  refine ⟨fun w3 b5 HK5 ho3 ha5 hb5 => ?_⟩
  have hs3 := ho3.out.size
  replace HW : Hid (OnlyB b w w3) := Lib.hid (HW.out.then_ ho3.out (fun _ _ h => h.elim))
  replace HR := Lib.hid (HR.out.only ho3.out (fun h => h))
  replace HK2 := Lib.hid (ho3.out.heap HK2.out (fun h => h))
  clear ho3
  go_wp2_with fail
  refine (HT.out hl2 HR.out).mono ?_
  rintro e w4 ⟨c1, t1, kd4, m4, rfl, hr, ho, ht, hm⟩
  have hle4 : m4 ≤ m2 := by omega
  have HM4 := Lib.hid hm
  have HTc1 := Lib.hid ht
  clear hm ht
  replace HR := Lib.hid hr
  have HOx := Lib.hid ho
  have hs4 := HOx.out.size
  clear hr ho
  replace HW : Hid (OnlyB b w w4) := Lib.hid (HW.out.then_ HOx.out (fun _ _ h => h))
  replace HK2 := Lib.hid (HOx.out.heap HK2.out (by omega))
  replace HK5 := Lib.hid (HOx.out.heap HK5.out (by omega))
  clear HOx
  go_wp2_with (refine wpl_box rfl rfl 56 rfl 6 rfl (.tmp 21) rfl rfl Tryd.zeroValue56 (cells := c1.toArray) (fun _ => rfl) (fun _ => rfl) stE HTc1.out.size rfl HTc1.out.ones ?_)
  refine ⟨fun w5 b6 HK6 ho5 ha6 hb6 => ?_⟩
  have hs5 := ho5.out.size
  replace HW : Hid (OnlyB b w w5) := Lib.hid (HW.out.then_ ho5.out (fun _ _ h => h.elim))
  replace HR := Lib.hid (HR.out.only ho5.out (fun h => h))
  replace HK2 := Lib.hid (ho5.out.heap HK2.out (fun h => h))
  replace HK5 := Lib.hid (ho5.out.heap HK5.out (fun h => h))
  replace HTc1 := Lib.hid (HTc1.out.only ho5.out (fun _ h => h.elim))
  clear ho5
  have HL : Hid (Ls FE 56 7 w3.heap.size b6 w5 none 0 0 (fun _ => ([], 0))) := Lib.hid Ls.nil
  have HLLT : Hid (∀ k, blockOf none k → k < w3.heap.size) := Lib.hid (fun k hk => by obtain ⟨_, h, _⟩ := hk; cases h)
  have HL0 := Lib.hid HTc1.out.len
  obtain ⟨y6, z6⟩ : w5.cell? ⟨b5, 6, none⟩ = some (.slice none 0 0) ∧ w5.frozen? ⟨b5, 6, none⟩ = false := cell_at HK5.out rfl
  go_wp2_with (first | (refine wpl_load rfl 56 (.tmp 6) rfl b6 rfl HK6.out stE HTc1.out.size ?_) | (refine wpl_slice rfl 54 56 1 _ rfl (some 25) rfl Tryd.underlying54 c1.toArray (builtE1 HTc1.out.len) ?_))
  refine ⟨fun w6 b25 HK25 ho6 ha25 hb25 => ?_⟩
  have hs6 := ho6.out.size
  replace HW : Hid (OnlyB b w w6) := Lib.hid (HW.out.then_ ho6.out (fun _ _ h => h.elim))
  replace HR := Lib.hid (HR.out.only ho6.out (fun h => h))
  replace HK2 := Lib.hid (ho6.out.heap HK2.out (fun h => h))
  replace HK5 := Lib.hid (ho6.out.heap HK5.out (fun h => h))
  replace HTc1 := Lib.hid (HTc1.out.only ho6.out (fun _ h => h.elim))
  replace HK6 := Lib.hid (ho6.out.heap HK6.out (fun h => h))
  replace HL := Lib.hid (HL.out.only ho6.out (fun _ _ h => h.elim))
  clear ho6
  clear y6 z6
  have HK6b := HK6
  go_wp2_with (refine wpl_pushX rfl (.tmp 23) (.tmp 25) 54 rfl elE rfl HL.out rfl HK25.out HTc1.out.len HTc1.out.one HTc1.out (by omega) (by omega) (fun k hk => by have := HLLT.out k hk; omega) (by omega) (by omega) (by omega) ?_)
  refine ⟨fun A1 n1c w7 HLn ho7 => ?_⟩
  have hs7 := ho7.out.size
  clear HL HTc1
  clear HK25
  replace HW : Hid (OnlyB b w w7) := Lib.hid (HW.out.then_ ho7.out (fun i hi (h : w3.heap.size ≤ i ∧ i ≠ b6) => by omega))
  replace HR := Lib.hid (HR.out.only ho7.out (by omega))
  replace HK2 := Lib.hid (ho7.out.heap HK2.out (by omega))
  replace HK5 := Lib.hid (ho7.out.heap HK5.out (by omega))
  replace HK6 := Lib.hid (ho7.out.heap HK6.out (by omega))
  clear ho7
  have HL := HLn
  clear HLn
  replace HL : Hid (Ls FE 56 7 w3.heap.size b6 w7 A1 1 n1c (snocF (fun _ => ([], 0)) 0 (t1, kd4))) := HL
  go_wp2_with (refine wpl_set rfl 54 (.tmp 27) (.tmp 26) rfl b5 6 rfl (v := .slice A1 1 n1c) rfl Tryd.sizeOf54 rfl rfl HK5.out (by simp) ?_)
  clear HK5
  refine ⟨fun w8 HK5 ho8 => ?_⟩
  have hs8 := ho8.out.size
  replace HK5 : Hid (w8.heap[b5]? = some (.cells #[.int .i64 8, .int .i64 (at_ : Int), .int .i64 0, .int .i64 0, .int .u64 0, .string ⟨#[]⟩, .slice A1 1 n1c] _)) := HK5
  replace HW : Hid (OnlyB b w w8) := Lib.hid (HW.out.then_ ho8.out (fun i hi (h : i = b5) => by omega))
  replace HR := Lib.hid (HR.out.only ho8.out (by omega))
  replace HK2 := Lib.hid (ho8.out.heap HK2.out (by omega))
  replace HK6 := Lib.hid (ho8.out.heap HK6.out (by omega))
  replace HL := Lib.hid (HL.out.only ho8.out (fun i hi (h : i = b5) => by omega))
  clear ho8
  go_wp2_with fail
  have H0 : Hid (TgI s b m w w3.heap.size b2 b5 b6 at_ m4 w8 A1 1 n1c (snocF (fun _ => ([], 0)) 0 (t1, kd4)) c1) := Lib.hid ⟨HR.out, HW.out, HK2.out, HK5.out, HK6.out, HL0.out, HL.out, by omega, by have := HM4.out; have h9 := comL_one_len (T := (fun _ => ([], 0))) (t := t1) (k := kd4); omega, by omega, by omega⟩
  clear HR HW HK2 HK5 HK6 HL HL0 HLLT
  go_loopg [29] m4 (fun g _ wr => ∃ A n c T c0, Hid (TgI s b m w w3.heap.size b2 b5 b6 at_ g wr A n c T c0))
  case atStart => exact ⟨_, _, _, _, _, H0⟩
  case round =>
   clear H0
   obtain ⟨A, n, c, T, c0, HB⟩ := hrel
   have HR := Lib.hid HB.out.rd
   have HW := Lib.hid HB.out.ol
   have HK2 := Lib.hid HB.out.k2
   have HK5 := Lib.hid HB.out.k5
   have HK6 := Lib.hid HB.out.k6
   have HL0 := Lib.hid HB.out.l0
   have HL := Lib.hid HB.out.ls
   have hnn := HB.out.nn
   have HTX := Lib.hid HB.out.tx
   obtain ⟨hsr, hsr6⟩ := HB.out.sz
   clear HB
   have hmm := HR0.out.le
   go_wp2_with fail
   refine (accept_any HR.out _).mono ?_
   rintro e w9 ⟨ok, m9, rfl, hr, ho, hy, hn⟩
   replace HR := Lib.hid hr
   have HOx := Lib.hid ho
   have hs9 := HOx.out.size
   clear hr ho
   replace HW : Hid (OnlyB b w w9) := Lib.hid (HW.out.then_ HOx.out (fun _ _ h => h))
   replace HK2 := Lib.hid (HOx.out.heap HK2.out (by omega))
   replace HK5 := Lib.hid (HOx.out.heap HK5.out (by omega))
   replace HK6 := Lib.hid (HOx.out.heap HK6.out (by omega))
   replace HL := Lib.hid (HL.out.only HOx.out (fun i hi (h : i = b) => by omega))
   clear HOx
   cases ok with
   | false =>
    obtain rfl : m9 = gk := hn rfl
    clear hy hn
    go_wp2_with fail
    refine (must_any HR.out _).mono ?_
    rintro e w10 ⟨rfl, m10, hr, ho, hm⟩
    have hle10 : m10 ≤ m9 := by omega
    have HM10 := Lib.hid hm
    clear hm
    replace HR := Lib.hid hr
    have HOx := Lib.hid ho
    have hs10 := HOx.out.size
    clear hr ho
    replace HW : Hid (OnlyB b w w10) := Lib.hid (HW.out.then_ HOx.out (fun _ _ h => h))
    replace HK2 := Lib.hid (HOx.out.heap HK2.out (by omega))
    replace HK5 := Lib.hid (HOx.out.heap HK5.out (by omega))
    replace HK6 := Lib.hid (HOx.out.heap HK6.out (by omega))
    replace HL := Lib.hid (HL.out.only HOx.out (fun i hi (h : i = b) => by omega))
    clear HOx
    go_wp2_with (first | (refine wpl_load rfl 56 (.tmp 5) rfl b5 rfl HK5.out stE rfl ?_) | (refine wpl_store rfl 56 (.tmp 2) (.tmp 40) rfl b2 rfl (cells := #[.int .i64 8, .int .i64 (at_ : Int), .int .i64 0, .int .i64 0, .int .u64 0, .string ⟨#[]⟩, .slice A n c]) rfl HK2.out stE rfl rfl (ones rfl) ?_))
    clear HK2
    refine ⟨fun w11 HK2 ho11 => ?_⟩
    have hs11 := ho11.out.size
    replace HW : Hid (OnlyB b w w11) := Lib.hid (HW.out.then_ ho11.out (fun i hi (h : i = b2) => by omega))
    replace HR := Lib.hid (HR.out.only ho11.out (by omega))
    replace HK5 := Lib.hid (ho11.out.heap HK5.out (by omega))
    replace HK6 := Lib.hid (ho11.out.heap HK6.out (by omega))
    replace HL := Lib.hid (HL.out.only ho11.out (fun i hi (h : i = b2) => by omega))
    clear ho11
    go_wp2_with fail
    exact bodyPost_ret (ret_box rfl _ rfl HK2.out stE rfl) rfl (ExOut.mk HR.out HW.out (tre_cat (by omega) (HL.out.done.wide (by omega) (by omega))) (by have := HTX.out; have := HM10.out; simp only [List.length_append, List.length_cons, List.length_nil]; omega) rfl)
   | true =>
    obtain ⟨hp9, hl9⟩ := hy rfl
    clear hy hn
    have HLLT := Lib.hid HL.out.lt
    have hgm : m9 < m := by have := HTX.out; omega
    go_wp2_with fail
    refine (HT.out hgm HR.out).mono ?_
    rintro e w10 ⟨c2, t2, kd10, m10, rfl, hr, ho, ht, hm⟩
    have hle10 : m10 ≤ m9 := by omega
    have HM10 := Lib.hid hm
    have HTc2 := Lib.hid ht
    clear hm ht
    replace HR := Lib.hid hr
    have HOx := Lib.hid ho
    have hs10 := HOx.out.size
    clear hr ho
    replace HW : Hid (OnlyB b w w10) := Lib.hid (HW.out.then_ HOx.out (fun _ _ h => h))
    replace HK2 := Lib.hid (HOx.out.heap HK2.out (by omega))
    replace HK5 := Lib.hid (HOx.out.heap HK5.out (by omega))
    replace HK6 := Lib.hid (HOx.out.heap HK6.out (by omega))
    replace HL := Lib.hid (HL.out.only HOx.out (fun i hi (h : i = b) => by omega))
    clear HOx
    go_wp2_with (refine wpl_store rfl 56 (.tmp 6) (.tmp 31) rfl b6 rfl (cells := c2.toArray) rfl HK6.out stE HTc2.out.size (by simpa using HL0.out) HTc2.out.ones ?_)
    clear HK6
    refine ⟨fun w11 HK6 ho11 => ?_⟩
    have hs11 := ho11.out.size
    replace HW : Hid (OnlyB b w w11) := Lib.hid (HW.out.then_ ho11.out (fun i hi (h : i = b6) => by omega))
    replace HR := Lib.hid (HR.out.only ho11.out (by omega))
    replace HK2 := Lib.hid (ho11.out.heap HK2.out (by omega))
    replace HK5 := Lib.hid (ho11.out.heap HK5.out (by omega))
    replace HL := Lib.hid (HL.out.only ho11.out (fun i hi (h : i = b6) => by omega))
    replace HTc2 := Lib.hid (HTc2.out.only ho11.out (fun i (h : i = b6) => by omega))
    clear ho11
    replace HL0 := Lib.hid HTc2.out.len
    obtain ⟨y6, z6⟩ : w11.cell? ⟨b5, 6, none⟩ = some (.slice A n c) ∧ w11.frozen? ⟨b5, 6, none⟩ = false := cell_at HK5.out rfl
    go_wp2_with (first | (refine wpl_load rfl 56 (.tmp 6) rfl b6 rfl HK6.out stE HTc2.out.size ?_) | (refine wpl_slice rfl 54 56 1 _ rfl (some 35) rfl Tryd.underlying54 c2.toArray (builtE1 HTc2.out.len) ?_))
    refine ⟨fun w12 b35 HK35 ho12 ha35 hb35 => ?_⟩
    have hs12 := ho12.out.size
    replace HW : Hid (OnlyB b w w12) := Lib.hid (HW.out.then_ ho12.out (fun _ _ h => h.elim))
    replace HR := Lib.hid (HR.out.only ho12.out (fun h => h))
    replace HK2 := Lib.hid (ho12.out.heap HK2.out (fun h => h))
    replace HK5 := Lib.hid (ho12.out.heap HK5.out (fun h => h))
    replace HK6 := Lib.hid (ho12.out.heap HK6.out (fun h => h))
    replace HL := Lib.hid (HL.out.only ho12.out (fun _ _ h => h.elim))
    replace HTc2 := Lib.hid (HTc2.out.only ho12.out (fun _ h => h.elim))
    clear ho12
    clear y6 z6
    go_wp2_with (refine wpl_pushX rfl (.tmp 33) (.tmp 35) 54 rfl elE rfl HL.out rfl HK35.out HTc2.out.len HTc2.out.one HTc2.out (by omega) (by omega) (fun k hk => by have := HLLT.out k hk; omega) (by omega) (by omega) (by omega) ?_)
    refine ⟨fun A2 n2c w13 HLn ho13 => ?_⟩
    have hs13 := ho13.out.size
    clear HL HTc2
    clear HK35
    replace HW : Hid (OnlyB b w w13) := Lib.hid (HW.out.then_ ho13.out (fun i hi (h : w3.heap.size ≤ i ∧ i ≠ b6) => by omega))
    replace HR := Lib.hid (HR.out.only ho13.out (by omega))
    replace HK2 := Lib.hid (ho13.out.heap HK2.out (by omega))
    replace HK5 := Lib.hid (ho13.out.heap HK5.out (by omega))
    replace HK6 := Lib.hid (ho13.out.heap HK6.out (by omega))
    clear ho13
    have HL := HLn
    clear HLn
    go_wp2_with (refine wpl_set rfl 54 (.tmp 37) (.tmp 36) rfl b5 6 rfl (v := .slice A2 (n + 1) n2c) rfl Tryd.sizeOf54 rfl rfl HK5.out (by simp) ?_)
    clear HK5
    refine ⟨fun w14 HK5 ho14 => ?_⟩
    have hs14 := ho14.out.size
    replace HK5 : Hid (w14.heap[b5]? = some (.cells #[.int .i64 8, .int .i64 (at_ : Int), .int .i64 0, .int .i64 0, .int .u64 0, .string ⟨#[]⟩, .slice A2 (n + 1) n2c] _)) := HK5
    replace HW : Hid (OnlyB b w w14) := Lib.hid (HW.out.then_ ho14.out (fun i hi (h : i = b5) => by omega))
    replace HR := Lib.hid (HR.out.only ho14.out (by omega))
    replace HK2 := Lib.hid (ho14.out.heap HK2.out (by omega))
    replace HK6 := Lib.hid (ho14.out.heap HK6.out (by omega))
    replace HL := Lib.hid (HL.out.only ho14.out (fun i hi (h : i = b5) => by omega))
    clear ho14
    go_wp2_with fail
    go_roundg m10
    case measure => omega
    case rel => exact ⟨A2, n + 1, n2c, _, _, Lib.hid ⟨HR.out, HW.out, HK2.out, HK5.out, HK6.out, HL0.out, HL.out, by omega, by have := HTX.out; have := HM10.out; have := comL_snoc_len (T := T) (n := n) (t := t2) (k := kd10); omega, by omega, by omega⟩⟩
theorem target_any {s : ByteArray} {b m : Nat} {w : World} (hr : RdS s b w m) : Calls Tryd.prog 57 #[.pointer (some ⟨b, 0, none⟩)] w (ExOut s b m w) := by
 induction m using Nat.strongRecOn generalizing w with
 | _ m ih => exact target_step (Lib.hid fun h hr => ih _ h hr) (Lib.hid hr)
set_option maxRecDepth 100000 in
set_option maxHeartbeats 8000000 in
theorem loop_any {s : ByteArray} {b m : Nat} {w : World} (HR : Hid (RdS s b w m)) : Calls Tryd.prog 59 #[.pointer (some ⟨b, 0, none⟩)] w (LoopOut s b m w) := by
 have hlt := HR.out.lt
 have HW : Hid (OnlyB b w w) := Lib.hid (Only.refl _ w)
 go_enter Tryd.func59, Tryd.ntmps59
 go_wp2_with fail
 refine (must_any HR.out _).mono ?_
 rintro e w1 ⟨rfl, m1, hr, ho, hm⟩
 have hle1 : m1 ≤ m := by omega
 have HM1 := Lib.hid hm
 clear hm
 replace HR := Lib.hid hr
 have HOx := Lib.hid ho
 have hs1 := HOx.out.size
 clear hr ho
 replace HW : Hid (OnlyB b w w1) := Lib.hid (HW.out.then_ HOx.out (fun _ _ h => h))
 clear HOx
 go_wp2_with fail
 refine (name_any HR.out).mono ?_
 rintro e w2 ⟨nm, m2, rfl, hnm, hr, ho, hm⟩
 have hle2 : m2 ≤ m1 := by omega
 have HM2 := Lib.hid hm
 clear hm
 replace HR := Lib.hid hr
 have HOx := Lib.hid ho
 have hs2 := HOx.out.size
 clear hr ho
 replace HW : Hid (OnlyB b w w2) := Lib.hid (HW.out.then_ HOx.out (fun _ _ h => h))
 clear HOx
 go_wp2_with fail
 refine (must_any HR.out _).mono ?_
 rintro e w3 ⟨rfl, m3, hr, ho, hm⟩
 have hle3 : m3 ≤ m2 := by omega
 have HM3 := Lib.hid hm
 clear hm
 replace HR := Lib.hid hr
 have HOx := Lib.hid ho
 have hs3 := HOx.out.size
 clear hr ho
 replace HW : Hid (OnlyB b w w3) := Lib.hid (HW.out.then_ HOx.out (fun _ _ h => h))
 clear HOx
 go_wp2_with fail
 refine (expr_any HR.out).mono ?_
 rintro e w4 ⟨c1, t1, kd4, m4, rfl, hr, ho, ht, hm⟩
 have hle4 : m4 ≤ m3 := by omega
 have HM4 := Lib.hid hm
 have HTc1 := Lib.hid ht
 clear hm ht
 replace HR := Lib.hid hr
 have HOx := Lib.hid ho
 have hs4 := HOx.out.size
 clear hr ho
 replace HW : Hid (OnlyB b w w4) := Lib.hid (HW.out.then_ HOx.out (fun _ _ h => h))
 clear HOx
 go_wp2_with (refine wpl_box rfl rfl 56 rfl 5 rfl (.tmp 15) rfl rfl Tryd.zeroValue56 (cells := c1.toArray) (fun _ => rfl) (fun _ => rfl) stE HTc1.out.size rfl HTc1.out.ones ?_)
 refine ⟨fun w5 b5 HK5 ho5 ha5 hb5 => ?_⟩
 have hs5 := ho5.out.size
 replace HW : Hid (OnlyB b w w5) := Lib.hid (HW.out.then_ ho5.out (fun _ _ h => h.elim))
 replace HR := Lib.hid (HR.out.only ho5.out (fun h => h))
 replace HTc1 := Lib.hid (HTc1.out.only ho5.out (fun _ h => h.elim))
 clear ho5
 go_wp2_with fail
 refine (must_any HR.out _).mono ?_
 rintro e w6 ⟨rfl, m6, hr, ho, hm⟩
 have hle6 : m6 ≤ m4 := by omega
 have HM6 := Lib.hid hm
 clear hm
 replace HR := Lib.hid hr
 have HOx := Lib.hid ho
 have hs6 := HOx.out.size
 clear hr ho
 replace HW : Hid (OnlyB b w w6) := Lib.hid (HW.out.then_ HOx.out (fun _ _ h => h))
 replace HTc1 := Lib.hid (HTc1.out.only HOx.out (fun i (h : i = b) => by omega))
 replace HK5 := Lib.hid (HOx.out.heap HK5.out (by omega))
 clear HOx
 go_wp2_with fail
 refine (expr_any HR.out).mono ?_
 rintro e w7 ⟨c2, t2, kd7, m7, rfl, hr, ho, ht, hm⟩
 have hle7 : m7 ≤ m6 := by omega
 have HM7 := Lib.hid hm
 have HTc2 := Lib.hid ht
 clear hm ht
 replace HR := Lib.hid hr
 have HOx := Lib.hid ho
 have hs7 := HOx.out.size
 clear hr ho
 replace HW : Hid (OnlyB b w w7) := Lib.hid (HW.out.then_ HOx.out (fun _ _ h => h))
 replace HTc1 := Lib.hid (HTc1.out.only HOx.out (fun i (h : i = b) => by omega))
 replace HK5 := Lib.hid (HOx.out.heap HK5.out (by omega))
 clear HOx
 go_wp2_with (refine wpl_box rfl rfl 56 rfl 6 rfl (.tmp 19) rfl rfl Tryd.zeroValue56 (cells := c2.toArray) (fun _ => rfl) (fun _ => rfl) stE HTc2.out.size rfl HTc2.out.ones ?_)
 refine ⟨fun w8 b6 HK6 ho8 ha6 hb6 => ?_⟩
 have hs8 := ho8.out.size
 replace HW : Hid (OnlyB b w w8) := Lib.hid (HW.out.then_ ho8.out (fun _ _ h => h.elim))
 replace HR := Lib.hid (HR.out.only ho8.out (fun h => h))
 replace HTc1 := Lib.hid (HTc1.out.only ho8.out (fun _ h => h.elim))
 replace HK5 := Lib.hid (ho8.out.heap HK5.out (fun h => h))
 replace HTc2 := Lib.hid (HTc2.out.only ho8.out (fun _ h => h.elim))
 clear ho8
 go_wp2_with fail
 refine (must_any HR.out _).mono ?_
 rintro e w9 ⟨rfl, m9, hr, ho, hm⟩
 have hle9 : m9 ≤ m7 := by omega
 have HM9 := Lib.hid hm
 clear hm
 replace HR := Lib.hid hr
 have HOx := Lib.hid ho
 have hs9 := HOx.out.size
 clear hr ho
 replace HW : Hid (OnlyB b w w9) := Lib.hid (HW.out.then_ HOx.out (fun _ _ h => h))
 replace HTc1 := Lib.hid (HTc1.out.only HOx.out (fun i (h : i = b) => by omega))
 replace HK5 := Lib.hid (HOx.out.heap HK5.out (by omega))
 replace HTc2 := Lib.hid (HTc2.out.only HOx.out (fun i (h : i = b) => by omega))
 replace HK6 := Lib.hid (HOx.out.heap HK6.out (by omega))
 clear HOx
 obtain ⟨kd, at_, wd, T, num, q, code, fat, hrf⟩ := HR.out
 have HF := Lib.hid hrf
 clear hrf
 obtain ⟨y1, z1⟩ := HF.out.c1
 obtain ⟨y4, z4⟩ := HF.out.c4
 obtain ⟨y7, z7⟩ := HF.out.c7
 by_cases hc : code = 0
 ·
  subst hc
  by_cases h1 : kd = 1
  ·
   subst h1
   clear HF
   go_wp2_with fail
   all_goals clear y1 y4 y7 z1 z4 z7
   ·
    refine (fail_any HR.out).mono ?_
    rintro e w10 ⟨rfl, hr, ho⟩
    replace HR := Lib.hid hr
    have HOx := Lib.hid ho
    have hs10 := HOx.out.size
    clear hr ho
    replace HW : Hid (OnlyB b w w10) := Lib.hid (HW.out.then_ HOx.out (fun _ _ h => h))
    replace HTc1 := Lib.hid (HTc1.out.only HOx.out (fun i (h : i = b) => by omega))
    replace HK5 := Lib.hid (HOx.out.heap HK5.out (by omega))
    replace HTc2 := Lib.hid (HTc2.out.only HOx.out (fun i (h : i = b) => by omega))
    replace HK6 := Lib.hid (HOx.out.heap HK6.out (by omega))
    clear HOx
    go_wp2_with fail
    refine (name_any HR.out).mono ?_
    rintro e w11 ⟨nm2, m11, rfl, hnm2, hr, ho, hm⟩
    have hle11 : m11 ≤ 0 := by omega
    have HM11 := Lib.hid hm
    clear hm
    replace HR := Lib.hid hr
    have HOx := Lib.hid ho
    have hs11 := HOx.out.size
    clear hr ho
    replace HW : Hid (OnlyB b w w11) := Lib.hid (HW.out.then_ HOx.out (fun _ _ h => h))
    replace HTc1 := Lib.hid (HTc1.out.only HOx.out (fun i (h : i = b) => by omega))
    replace HK5 := Lib.hid (HOx.out.heap HK5.out (by omega))
    replace HTc2 := Lib.hid (HTc2.out.only HOx.out (fun i (h : i = b) => by omega))
    replace HK6 := Lib.hid (HOx.out.heap HK6.out (by omega))
    clear HOx
    go_wp2_with fail
    refine (must_any HR.out _).mono ?_
    rintro e w12 ⟨rfl, m12, hr, ho, hm⟩
    have hle12 : m12 ≤ m11 := by omega
    have HM12 := Lib.hid hm
    clear hm
    replace HR := Lib.hid hr
    have HOx := Lib.hid ho
    have hs12 := HOx.out.size
    clear hr ho
    replace HW : Hid (OnlyB b w w12) := Lib.hid (HW.out.then_ HOx.out (fun _ _ h => h))
    replace HTc1 := Lib.hid (HTc1.out.only HOx.out (fun i (h : i = b) => by omega))
    replace HK5 := Lib.hid (HOx.out.heap HK5.out (by omega))
    replace HTc2 := Lib.hid (HTc2.out.only HOx.out (fun i (h : i = b) => by omega))
    replace HK6 := Lib.hid (HOx.out.heap HK6.out (by omega))
    clear HOx
    go_wp2_with fail
    refine (expr_any HR.out).mono ?_
    rintro e w13 ⟨c3, t3, kd13, m13, rfl, hr, ho, ht, hm⟩
    have hle13 : m13 ≤ m12 := by omega
    have HM13 := Lib.hid hm
    have HTc3 := Lib.hid ht
    clear hm ht
    replace HR := Lib.hid hr
    have HOx := Lib.hid ho
    have hs13 := HOx.out.size
    clear hr ho
    replace HW : Hid (OnlyB b w w13) := Lib.hid (HW.out.then_ HOx.out (fun _ _ h => h))
    replace HTc1 := Lib.hid (HTc1.out.only HOx.out (fun i (h : i = b) => by omega))
    replace HK5 := Lib.hid (HOx.out.heap HK5.out (by omega))
    replace HTc2 := Lib.hid (HTc2.out.only HOx.out (fun i (h : i = b) => by omega))
    replace HK6 := Lib.hid (HOx.out.heap HK6.out (by omega))
    clear HOx
    go_wp2_with (refine wpl_box rfl rfl 56 rfl 7 rfl (.tmp 52) rfl rfl Tryd.zeroValue56 (cells := c3.toArray) (fun _ => rfl) (fun _ => rfl) stE HTc3.out.size rfl HTc3.out.ones ?_)
    refine ⟨fun w14 b7 HK7 ho14 ha7 hb7 => ?_⟩
    have hs14 := ho14.out.size
    replace HW : Hid (OnlyB b w w14) := Lib.hid (HW.out.then_ ho14.out (fun _ _ h => h.elim))
    replace HR := Lib.hid (HR.out.only ho14.out (fun h => h))
    replace HTc1 := Lib.hid (HTc1.out.only ho14.out (fun _ h => h.elim))
    replace HK5 := Lib.hid (ho14.out.heap HK5.out (fun h => h))
    replace HTc2 := Lib.hid (HTc2.out.only ho14.out (fun _ h => h.elim))
    replace HK6 := Lib.hid (ho14.out.heap HK6.out (fun h => h))
    replace HTc3 := Lib.hid (HTc3.out.only ho14.out (fun _ h => h.elim))
    clear ho14
    go_wp2_with fail
    refine (must_any HR.out _).mono ?_
    rintro e w15 ⟨rfl, m15, hr, ho, hm⟩
    have hle15 : m15 ≤ m13 := by omega
    have HM15 := Lib.hid hm
    clear hm
    replace HR := Lib.hid hr
    have HOx := Lib.hid ho
    have hs15 := HOx.out.size
    clear hr ho
    replace HW : Hid (OnlyB b w w15) := Lib.hid (HW.out.then_ HOx.out (fun _ _ h => h))
    replace HTc1 := Lib.hid (HTc1.out.only HOx.out (fun i (h : i = b) => by omega))
    replace HK5 := Lib.hid (HOx.out.heap HK5.out (by omega))
    replace HTc2 := Lib.hid (HTc2.out.only HOx.out (fun i (h : i = b) => by omega))
    replace HK6 := Lib.hid (HOx.out.heap HK6.out (by omega))
    replace HTc3 := Lib.hid (HTc3.out.only HOx.out (fun i (h : i = b) => by omega))
    replace HK7 := Lib.hid (HOx.out.heap HK7.out (by omega))
    clear HOx
    obtain ⟨kda, ata, opa, wda, numa, nma, Aa, na, ca, ea⟩ := HTc1.out.cells
    subst ea
    obtain ⟨kdb, atb, opb, wdb, numb, nmb, Ab, nb, cb, eb⟩ := HTc2.out.cells
    subst eb
    obtain ⟨kdc, atc, opc, wdc, numc, nmc, Ac, nc, cc, ec⟩ := HTc3.out.cells
    subst ec
    go_wp2_with fail
    obtain ⟨⟨va0, va1, va2, va3, va4, va5, va6⟩, _⟩ := box7 HK5.out
    obtain ⟨⟨vb0, vb1, vb2, vb3, vb4, vb5, vb6⟩, _⟩ := box7 HK6.out
    obtain ⟨⟨vc0, vc1, vc2, vc3, vc4, vc5, vc6⟩, _⟩ := box7 HK7.out
    refine wp_region_z (fun w' => w'.cell? ⟨b5, 0, none⟩ = some (.int .i64 kda) ∧ w'.cell? ⟨b5, 1, none⟩ = some (.int .i64 ata) ∧ w'.cell? ⟨b5, 2, none⟩ = some (.int .i64 opa) ∧ w'.cell? ⟨b5, 3, none⟩ = some (.int .i64 wda) ∧ w'.cell? ⟨b5, 4, none⟩ = some (.int .u64 (numa : Int)) ∧ w'.cell? ⟨b5, 5, none⟩ = some (.string nma) ∧ w'.cell? ⟨b5, 6, none⟩ = some (.slice Aa na ca) ∧ w'.cell? ⟨b6, 0, none⟩ = some (.int .i64 kdb) ∧ w'.cell? ⟨b6, 1, none⟩ = some (.int .i64 atb) ∧ w'.cell? ⟨b6, 2, none⟩ = some (.int .i64 opb) ∧ w'.cell? ⟨b6, 3, none⟩ = some (.int .i64 wdb) ∧ w'.cell? ⟨b6, 4, none⟩ = some (.int .u64 (numb : Int)) ∧ w'.cell? ⟨b6, 5, none⟩ = some (.string nmb) ∧ w'.cell? ⟨b6, 6, none⟩ = some (.slice Ab nb cb) ∧ w'.cell? ⟨b7, 0, none⟩ = some (.int .i64 kdc) ∧ w'.cell? ⟨b7, 1, none⟩ = some (.int .i64 atc) ∧ w'.cell? ⟨b7, 2, none⟩ = some (.int .i64 opc) ∧ w'.cell? ⟨b7, 3, none⟩ = some (.int .i64 wdc) ∧ w'.cell? ⟨b7, 4, none⟩ = some (.int .u64 (numc : Int)) ∧ w'.cell? ⟨b7, 5, none⟩ = some (.string nmc) ∧ w'.cell? ⟨b7, 6, none⟩ = some (.slice Ac nc cc)) [0, 1, 2, 3, 5] [] (by kernel_rfl) (by kernel_rfl) (by kernel_rfl) (by rfl) (fun _ _ _ _ e h => ⟨e.symm.trans h.1, h.2⟩) ⟨va0, va1, va2, va3, va4, va5, va6, vb0, vb1, vb2, vb3, vb4, vb5, vb6, vc0, vc1, vc2, vc3, vc4, vc5, vc6⟩ ?_
    iterate 5
     refine Heads.step (v := ?_) rfl (by first | (go_simp; done) | rfl) (fun W hW => ?_) ?_
     rotate_left
     ·
      (obtain ⟨t0, t1, t2, t3, t4, t5, t6, t7, t8, t9, t10, t11, t12, t13, t14, t15, t16, t17, t18, t19, t20⟩ := hW; go_simp; try with_reducible rfl)
    have HD : Hid ((w15.alloc (.cells #[.int .i64 kda, .int .i64 ata, .int .i64 opa, .int .i64 wda, .int .u64 (numa : Int), .string nma, .slice Aa na ca, .int .i64 kdb, .int .i64 atb, .int .i64 opb, .int .i64 wdb, .int .u64 (numb : Int), .string nmb, .slice Ab nb cb, .int .i64 kdc, .int .i64 atc, .int .i64 opc, .int .i64 wdc, .int .u64 (numc : Int), .string nmc, .slice Ac nc cc] 56)).drew.heap[w15.heap.size]? = some (.cells #[.int .i64 kda, .int .i64 ata, .int .i64 opa, .int .i64 wda, .int .u64 (numa : Int), .string nma, .slice Aa na ca, .int .i64 kdb, .int .i64 atb, .int .i64 opb, .int .i64 wdb, .int .u64 (numb : Int), .string nmb, .slice Ab nb cb, .int .i64 kdc, .int .i64 atc, .int .i64 opc, .int .i64 wdc, .int .u64 (numc : Int), .string nmc, .slice Ac nc cc] 56)) := Lib.hid (heap_alloc_new w15 (.cells #[.int .i64 kda, .int .i64 ata, .int .i64 opa, .int .i64 wda, .int .u64 (numa : Int), .string nma, .slice Aa na ca, .int .i64 kdb, .int .i64 atb, .int .i64 opb, .int .i64 wdb, .int .u64 (numb : Int), .string nmb, .slice Ab nb cb, .int .i64 kdc, .int .i64 atc, .int .i64 opc, .int .i64 wdc, .int .u64 (numc : Int), .string nmc, .slice Ac nc cc] 56))
    have HOD : Hid (Only (fun _ => False) w15 (w15.alloc (.cells #[.int .i64 kda, .int .i64 ata, .int .i64 opa, .int .i64 wda, .int .u64 (numa : Int), .string nma, .slice Aa na ca, .int .i64 kdb, .int .i64 atb, .int .i64 opb, .int .i64 wdb, .int .u64 (numb : Int), .string nmb, .slice Ab nb cb, .int .i64 kdc, .int .i64 atc, .int .i64 opc, .int .i64 wdc, .int .u64 (numc : Int), .string nmc, .slice Ac nc cc] 56)).drew) := Lib.hid (((Only.refl _ w15).alloc _).drew)
    have hzD : ((w15.alloc (.cells #[.int .i64 kda, .int .i64 ata, .int .i64 opa, .int .i64 wda, .int .u64 (numa : Int), .string nma, .slice Aa na ca, .int .i64 kdb, .int .i64 atb, .int .i64 opb, .int .i64 wdb, .int .u64 (numb : Int), .string nmb, .slice Ab nb cb, .int .i64 kdc, .int .i64 atc, .int .i64 opc, .int .i64 wdc, .int .u64 (numc : Int), .string nmc, .slice Ac nc cc] 56)).drew).heap.size = w15.heap.size + 1 := (by simp : (w15.alloc (.cells #[.int .i64 kda, .int .i64 ata, .int .i64 opa, .int .i64 wda, .int .u64 (numa : Int), .string nma, .slice Aa na ca, .int .i64 kdb, .int .i64 atb, .int .i64 opb, .int .i64 wdb, .int .u64 (numb : Int), .string nmb, .slice Ab nb cb, .int .i64 kdc, .int .i64 atc, .int .i64 opc, .int .i64 wdc, .int .u64 (numc : Int), .string nmc, .slice Ac nc cc] 56)).heap.size = w15.heap.size + 1)
    refine AnyZ.one (i := 4) (by kernel_rfl) rfl (fun K hK => ?_)
    go_simp
    clear va0 va1 va2 va3 va4 va5 va6 vb0 vb1 vb2 vb3 vb4 vb5 vb6 vc0 vc1 vc2 vc3 vc4 vc5 vc6
    generalize (w15.alloc (.cells #[.int .i64 kda, .int .i64 ata, .int .i64 opa, .int .i64 wda, .int .u64 (numa : Int), .string nma, .slice Aa na ca, .int .i64 kdb, .int .i64 atb, .int .i64 opb, .int .i64 wdb, .int .u64 (numb : Int), .string nmb, .slice Ab nb cb, .int .i64 kdc, .int .i64 atc, .int .i64 opc, .int .i64 wdc, .int .u64 (numc : Int), .string nmc, .slice Ac nc cc] 56)).drew = w16 at *
    obtain ⟨bD, hbD⟩ : ∃ x, x = w15.heap.size := ⟨_, rfl⟩
    rw [← hbD] at HD
    try rw [← hbD]
    have haD : w15.heap.size ≤ bD := by omega
    have hbD2 : bD < w16.heap.size := by omega
    clear hbD hzD
    have hs16 := HOD.out.size
    replace HW : Hid (OnlyB b w w16) := Lib.hid (HW.out.then_ HOD.out (fun _ _ h => h.elim))
    replace HR := Lib.hid (HR.out.only HOD.out (fun h => h))
    replace HTc1 := Lib.hid (HTc1.out.only HOD.out (fun _ h => h.elim))
    replace HK5 := Lib.hid (HOD.out.heap HK5.out (fun h => h))
    replace HTc2 := Lib.hid (HTc2.out.only HOD.out (fun _ h => h.elim))
    replace HK6 := Lib.hid (HOD.out.heap HK6.out (fun h => h))
    replace HTc3 := Lib.hid (HTc3.out.only HOD.out (fun _ h => h.elim))
    replace HK7 := Lib.hid (HOD.out.heap HK7.out (fun h => h))
    clear HOD
    obtain ⟨⟨va0, va1, va2, va3, va4, va5, va6⟩, _⟩ := box7 HK5.out
    obtain ⟨⟨vb0, vb1, vb2, vb3, vb4, vb5, vb6⟩, _⟩ := box7 HK6.out
    obtain ⟨⟨vc0, vc1, vc2, vc3, vc4, vc5, vc6⟩, _⟩ := box7 HK7.out
    refine hK _ _ (fun _ => ⟨va0, va1, va2, va3, va4, va5, va6, vb0, vb1, vb2, vb3, vb4, vb5, vb6, vc0, vc1, vc2, vc3, vc4, vc5, vc6⟩) ?_
    clear hK
    refine AnyZ.mid [6] [] 0 rfl (by kernel_rfl) (by kernel_rfl) (by kernel_rfl) (fun _ _ _ _ e h => ⟨e.symm.trans h.1, h.2⟩) ⟨va0, va1, va2, va3, va4, va5, va6, vb0, vb1, vb2, vb3, vb4, vb5, vb6, vc0, vc1, vc2, vc3, vc4, vc5, vc6⟩ ?_
    iterate 1
     refine Heads.step (v := ?_) rfl (by first | (go_simp; done) | rfl) (fun W hW => ?_) ?_
     rotate_left
     ·
      (obtain ⟨t0, t1, t2, t3, t4, t5, t6, t7, t8, t9, t10, t11, t12, t13, t14, t15, t16, t17, t18, t19, t20⟩ := hW; go_simp; try with_reducible rfl)
    refine AnyZ.done (by kernel_rfl) ?_
    clear va0 va1 va2 va3 va4 va5 va6 vb0 vb1 vb2 vb3 vb4 vb5 vb6 vc0 vc1 vc2 vc3 vc4 vc5 vc6
    go_wp2_with fail
    go_ret2
    exact ⟨nm, bD, t1, t2, t3, kd4, kd7, kd13, m15, rfl, hnm, HR.out, HW.out, lf3 HD.out ⟨by omega, by omega⟩ (HTc1.out.wide (by omega) (by omega)) (HTc2.out.wide (by omega) (by omega)) (HTc3.out.wide (by omega) (by omega)), by have := HM1.out; have := HM2.out; have := HM3.out; have := HM4.out; have := HM6.out; have := HM7.out; have := HM9.out; have := HM11.out; have := HM12.out; have := HM13.out; have := HM15.out; omega⟩
   ·
    go_wp2_with fail
    refine (name_any HR.out).mono ?_
    rintro e w10 ⟨nm2, m10, rfl, hnm2, hr, ho, hm⟩
    have hle10 : m10 ≤ m9 := by omega
    have HM10 := Lib.hid hm
    clear hm
    replace HR := Lib.hid hr
    have HOx := Lib.hid ho
    have hs10 := HOx.out.size
    clear hr ho
    replace HW : Hid (OnlyB b w w10) := Lib.hid (HW.out.then_ HOx.out (fun _ _ h => h))
    replace HTc1 := Lib.hid (HTc1.out.only HOx.out (fun i (h : i = b) => by omega))
    replace HK5 := Lib.hid (HOx.out.heap HK5.out (by omega))
    replace HTc2 := Lib.hid (HTc2.out.only HOx.out (fun i (h : i = b) => by omega))
    replace HK6 := Lib.hid (HOx.out.heap HK6.out (by omega))
    clear HOx
    go_wp2_with fail
    refine (must_any HR.out _).mono ?_
    rintro e w11 ⟨rfl, m11, hr, ho, hm⟩
    have hle11 : m11 ≤ m10 := by omega
    have HM11 := Lib.hid hm
    clear hm
    replace HR := Lib.hid hr
    have HOx := Lib.hid ho
    have hs11 := HOx.out.size
    clear hr ho
    replace HW : Hid (OnlyB b w w11) := Lib.hid (HW.out.then_ HOx.out (fun _ _ h => h))
    replace HTc1 := Lib.hid (HTc1.out.only HOx.out (fun i (h : i = b) => by omega))
    replace HK5 := Lib.hid (HOx.out.heap HK5.out (by omega))
    replace HTc2 := Lib.hid (HTc2.out.only HOx.out (fun i (h : i = b) => by omega))
    replace HK6 := Lib.hid (HOx.out.heap HK6.out (by omega))
    clear HOx
    go_wp2_with fail
    refine (expr_any HR.out).mono ?_
    rintro e w12 ⟨c3, t3, kd12, m12, rfl, hr, ho, ht, hm⟩
    have hle12 : m12 ≤ m11 := by omega
    have HM12 := Lib.hid hm
    have HTc3 := Lib.hid ht
    clear hm ht
    replace HR := Lib.hid hr
    have HOx := Lib.hid ho
    have hs12 := HOx.out.size
    clear hr ho
    replace HW : Hid (OnlyB b w w12) := Lib.hid (HW.out.then_ HOx.out (fun _ _ h => h))
    replace HTc1 := Lib.hid (HTc1.out.only HOx.out (fun i (h : i = b) => by omega))
    replace HK5 := Lib.hid (HOx.out.heap HK5.out (by omega))
    replace HTc2 := Lib.hid (HTc2.out.only HOx.out (fun i (h : i = b) => by omega))
    replace HK6 := Lib.hid (HOx.out.heap HK6.out (by omega))
    clear HOx
    go_wp2_with (refine wpl_box rfl rfl 56 rfl 7 rfl (.tmp 52) rfl rfl Tryd.zeroValue56 (cells := c3.toArray) (fun _ => rfl) (fun _ => rfl) stE HTc3.out.size rfl HTc3.out.ones ?_)
    refine ⟨fun w13 b7 HK7 ho13 ha7 hb7 => ?_⟩
    have hs13 := ho13.out.size
    replace HW : Hid (OnlyB b w w13) := Lib.hid (HW.out.then_ ho13.out (fun _ _ h => h.elim))
    replace HR := Lib.hid (HR.out.only ho13.out (fun h => h))
    replace HTc1 := Lib.hid (HTc1.out.only ho13.out (fun _ h => h.elim))
    replace HK5 := Lib.hid (ho13.out.heap HK5.out (fun h => h))
    replace HTc2 := Lib.hid (HTc2.out.only ho13.out (fun _ h => h.elim))
    replace HK6 := Lib.hid (ho13.out.heap HK6.out (fun h => h))
    replace HTc3 := Lib.hid (HTc3.out.only ho13.out (fun _ h => h.elim))
    clear ho13
    go_wp2_with fail
    refine (must_any HR.out _).mono ?_
    rintro e w14 ⟨rfl, m14, hr, ho, hm⟩
    have hle14 : m14 ≤ m12 := by omega
    have HM14 := Lib.hid hm
    clear hm
    replace HR := Lib.hid hr
    have HOx := Lib.hid ho
    have hs14 := HOx.out.size
    clear hr ho
    replace HW : Hid (OnlyB b w w14) := Lib.hid (HW.out.then_ HOx.out (fun _ _ h => h))
    replace HTc1 := Lib.hid (HTc1.out.only HOx.out (fun i (h : i = b) => by omega))
    replace HK5 := Lib.hid (HOx.out.heap HK5.out (by omega))
    replace HTc2 := Lib.hid (HTc2.out.only HOx.out (fun i (h : i = b) => by omega))
    replace HK6 := Lib.hid (HOx.out.heap HK6.out (by omega))
    replace HTc3 := Lib.hid (HTc3.out.only HOx.out (fun i (h : i = b) => by omega))
    replace HK7 := Lib.hid (HOx.out.heap HK7.out (by omega))
    clear HOx
    obtain ⟨kda, ata, opa, wda, numa, nma, Aa, na, ca, ea⟩ := HTc1.out.cells
    subst ea
    obtain ⟨kdb, atb, opb, wdb, numb, nmb, Ab, nb, cb, eb⟩ := HTc2.out.cells
    subst eb
    obtain ⟨kdc, atc, opc, wdc, numc, nmc, Ac, nc, cc, ec⟩ := HTc3.out.cells
    subst ec
    go_wp2_with fail
    obtain ⟨⟨va0, va1, va2, va3, va4, va5, va6⟩, _⟩ := box7 HK5.out
    obtain ⟨⟨vb0, vb1, vb2, vb3, vb4, vb5, vb6⟩, _⟩ := box7 HK6.out
    obtain ⟨⟨vc0, vc1, vc2, vc3, vc4, vc5, vc6⟩, _⟩ := box7 HK7.out
    refine wp_region_z (fun w' => w'.cell? ⟨b5, 0, none⟩ = some (.int .i64 kda) ∧ w'.cell? ⟨b5, 1, none⟩ = some (.int .i64 ata) ∧ w'.cell? ⟨b5, 2, none⟩ = some (.int .i64 opa) ∧ w'.cell? ⟨b5, 3, none⟩ = some (.int .i64 wda) ∧ w'.cell? ⟨b5, 4, none⟩ = some (.int .u64 (numa : Int)) ∧ w'.cell? ⟨b5, 5, none⟩ = some (.string nma) ∧ w'.cell? ⟨b5, 6, none⟩ = some (.slice Aa na ca) ∧ w'.cell? ⟨b6, 0, none⟩ = some (.int .i64 kdb) ∧ w'.cell? ⟨b6, 1, none⟩ = some (.int .i64 atb) ∧ w'.cell? ⟨b6, 2, none⟩ = some (.int .i64 opb) ∧ w'.cell? ⟨b6, 3, none⟩ = some (.int .i64 wdb) ∧ w'.cell? ⟨b6, 4, none⟩ = some (.int .u64 (numb : Int)) ∧ w'.cell? ⟨b6, 5, none⟩ = some (.string nmb) ∧ w'.cell? ⟨b6, 6, none⟩ = some (.slice Ab nb cb) ∧ w'.cell? ⟨b7, 0, none⟩ = some (.int .i64 kdc) ∧ w'.cell? ⟨b7, 1, none⟩ = some (.int .i64 atc) ∧ w'.cell? ⟨b7, 2, none⟩ = some (.int .i64 opc) ∧ w'.cell? ⟨b7, 3, none⟩ = some (.int .i64 wdc) ∧ w'.cell? ⟨b7, 4, none⟩ = some (.int .u64 (numc : Int)) ∧ w'.cell? ⟨b7, 5, none⟩ = some (.string nmc) ∧ w'.cell? ⟨b7, 6, none⟩ = some (.slice Ac nc cc)) [0, 1, 2, 3, 5] [] (by kernel_rfl) (by kernel_rfl) (by kernel_rfl) (by rfl) (fun _ _ _ _ e h => ⟨e.symm.trans h.1, h.2⟩) ⟨va0, va1, va2, va3, va4, va5, va6, vb0, vb1, vb2, vb3, vb4, vb5, vb6, vc0, vc1, vc2, vc3, vc4, vc5, vc6⟩ ?_
    iterate 5
     refine Heads.step (v := ?_) rfl (by first | (go_simp; done) | rfl) (fun W hW => ?_) ?_
     rotate_left
     ·
      (obtain ⟨t0, t1, t2, t3, t4, t5, t6, t7, t8, t9, t10, t11, t12, t13, t14, t15, t16, t17, t18, t19, t20⟩ := hW; go_simp; try with_reducible rfl)
    have HD : Hid ((w14.alloc (.cells #[.int .i64 kda, .int .i64 ata, .int .i64 opa, .int .i64 wda, .int .u64 (numa : Int), .string nma, .slice Aa na ca, .int .i64 kdb, .int .i64 atb, .int .i64 opb, .int .i64 wdb, .int .u64 (numb : Int), .string nmb, .slice Ab nb cb, .int .i64 kdc, .int .i64 atc, .int .i64 opc, .int .i64 wdc, .int .u64 (numc : Int), .string nmc, .slice Ac nc cc] 56)).drew.heap[w14.heap.size]? = some (.cells #[.int .i64 kda, .int .i64 ata, .int .i64 opa, .int .i64 wda, .int .u64 (numa : Int), .string nma, .slice Aa na ca, .int .i64 kdb, .int .i64 atb, .int .i64 opb, .int .i64 wdb, .int .u64 (numb : Int), .string nmb, .slice Ab nb cb, .int .i64 kdc, .int .i64 atc, .int .i64 opc, .int .i64 wdc, .int .u64 (numc : Int), .string nmc, .slice Ac nc cc] 56)) := Lib.hid (heap_alloc_new w14 (.cells #[.int .i64 kda, .int .i64 ata, .int .i64 opa, .int .i64 wda, .int .u64 (numa : Int), .string nma, .slice Aa na ca, .int .i64 kdb, .int .i64 atb, .int .i64 opb, .int .i64 wdb, .int .u64 (numb : Int), .string nmb, .slice Ab nb cb, .int .i64 kdc, .int .i64 atc, .int .i64 opc, .int .i64 wdc, .int .u64 (numc : Int), .string nmc, .slice Ac nc cc] 56))
    have HOD : Hid (Only (fun _ => False) w14 (w14.alloc (.cells #[.int .i64 kda, .int .i64 ata, .int .i64 opa, .int .i64 wda, .int .u64 (numa : Int), .string nma, .slice Aa na ca, .int .i64 kdb, .int .i64 atb, .int .i64 opb, .int .i64 wdb, .int .u64 (numb : Int), .string nmb, .slice Ab nb cb, .int .i64 kdc, .int .i64 atc, .int .i64 opc, .int .i64 wdc, .int .u64 (numc : Int), .string nmc, .slice Ac nc cc] 56)).drew) := Lib.hid (((Only.refl _ w14).alloc _).drew)
    have hzD : ((w14.alloc (.cells #[.int .i64 kda, .int .i64 ata, .int .i64 opa, .int .i64 wda, .int .u64 (numa : Int), .string nma, .slice Aa na ca, .int .i64 kdb, .int .i64 atb, .int .i64 opb, .int .i64 wdb, .int .u64 (numb : Int), .string nmb, .slice Ab nb cb, .int .i64 kdc, .int .i64 atc, .int .i64 opc, .int .i64 wdc, .int .u64 (numc : Int), .string nmc, .slice Ac nc cc] 56)).drew).heap.size = w14.heap.size + 1 := (by simp : (w14.alloc (.cells #[.int .i64 kda, .int .i64 ata, .int .i64 opa, .int .i64 wda, .int .u64 (numa : Int), .string nma, .slice Aa na ca, .int .i64 kdb, .int .i64 atb, .int .i64 opb, .int .i64 wdb, .int .u64 (numb : Int), .string nmb, .slice Ab nb cb, .int .i64 kdc, .int .i64 atc, .int .i64 opc, .int .i64 wdc, .int .u64 (numc : Int), .string nmc, .slice Ac nc cc] 56)).heap.size = w14.heap.size + 1)
    refine AnyZ.one (i := 4) (by kernel_rfl) rfl (fun K hK => ?_)
    go_simp
    clear va0 va1 va2 va3 va4 va5 va6 vb0 vb1 vb2 vb3 vb4 vb5 vb6 vc0 vc1 vc2 vc3 vc4 vc5 vc6
    generalize (w14.alloc (.cells #[.int .i64 kda, .int .i64 ata, .int .i64 opa, .int .i64 wda, .int .u64 (numa : Int), .string nma, .slice Aa na ca, .int .i64 kdb, .int .i64 atb, .int .i64 opb, .int .i64 wdb, .int .u64 (numb : Int), .string nmb, .slice Ab nb cb, .int .i64 kdc, .int .i64 atc, .int .i64 opc, .int .i64 wdc, .int .u64 (numc : Int), .string nmc, .slice Ac nc cc] 56)).drew = w15 at *
    obtain ⟨bD, hbD⟩ : ∃ x, x = w14.heap.size := ⟨_, rfl⟩
    rw [← hbD] at HD
    try rw [← hbD]
    have haD : w14.heap.size ≤ bD := by omega
    have hbD2 : bD < w15.heap.size := by omega
    clear hbD hzD
    have hs15 := HOD.out.size
    replace HW : Hid (OnlyB b w w15) := Lib.hid (HW.out.then_ HOD.out (fun _ _ h => h.elim))
    replace HR := Lib.hid (HR.out.only HOD.out (fun h => h))
    replace HTc1 := Lib.hid (HTc1.out.only HOD.out (fun _ h => h.elim))
    replace HK5 := Lib.hid (HOD.out.heap HK5.out (fun h => h))
    replace HTc2 := Lib.hid (HTc2.out.only HOD.out (fun _ h => h.elim))
    replace HK6 := Lib.hid (HOD.out.heap HK6.out (fun h => h))
    replace HTc3 := Lib.hid (HTc3.out.only HOD.out (fun _ h => h.elim))
    replace HK7 := Lib.hid (HOD.out.heap HK7.out (fun h => h))
    clear HOD
    obtain ⟨⟨va0, va1, va2, va3, va4, va5, va6⟩, _⟩ := box7 HK5.out
    obtain ⟨⟨vb0, vb1, vb2, vb3, vb4, vb5, vb6⟩, _⟩ := box7 HK6.out
    obtain ⟨⟨vc0, vc1, vc2, vc3, vc4, vc5, vc6⟩, _⟩ := box7 HK7.out
    refine hK _ _ (fun _ => ⟨va0, va1, va2, va3, va4, va5, va6, vb0, vb1, vb2, vb3, vb4, vb5, vb6, vc0, vc1, vc2, vc3, vc4, vc5, vc6⟩) ?_
    clear hK
    refine AnyZ.mid [6] [] 0 rfl (by kernel_rfl) (by kernel_rfl) (by kernel_rfl) (fun _ _ _ _ e h => ⟨e.symm.trans h.1, h.2⟩) ⟨va0, va1, va2, va3, va4, va5, va6, vb0, vb1, vb2, vb3, vb4, vb5, vb6, vc0, vc1, vc2, vc3, vc4, vc5, vc6⟩ ?_
    iterate 1
     refine Heads.step (v := ?_) rfl (by first | (go_simp; done) | rfl) (fun W hW => ?_) ?_
     rotate_left
     ·
      (obtain ⟨t0, t1, t2, t3, t4, t5, t6, t7, t8, t9, t10, t11, t12, t13, t14, t15, t16, t17, t18, t19, t20⟩ := hW; go_simp; try with_reducible rfl)
    refine AnyZ.done (by kernel_rfl) ?_
    clear va0 va1 va2 va3 va4 va5 va6 vb0 vb1 vb2 vb3 vb4 vb5 vb6 vc0 vc1 vc2 vc3 vc4 vc5 vc6
    go_wp2_with fail
    go_ret2
    exact ⟨nm, bD, t1, t2, t3, kd4, kd7, kd12, m14, rfl, hnm, HR.out, HW.out, lf3 HD.out ⟨by omega, by omega⟩ (HTc1.out.wide (by omega) (by omega)) (HTc2.out.wide (by omega) (by omega)) (HTc3.out.wide (by omega) (by omega)), by have := HM1.out; have := HM2.out; have := HM3.out; have := HM4.out; have := HM6.out; have := HM7.out; have := HM9.out; have := HM10.out; have := HM11.out; have := HM12.out; have := HM14.out; omega⟩
  ·
   have q1 : ((kd : Int) != 1) = true := by rw [bne_iff_ne]; omega
   clear h1 HF
   go_wp2_with fail
   clear y1 y4 y7 z1 z4 z7
   refine (fail_any HR.out).mono ?_
   rintro e w10 ⟨rfl, hr, ho⟩
   replace HR := Lib.hid hr
   have HOx := Lib.hid ho
   have hs10 := HOx.out.size
   clear hr ho
   replace HW : Hid (OnlyB b w w10) := Lib.hid (HW.out.then_ HOx.out (fun _ _ h => h))
   replace HTc1 := Lib.hid (HTc1.out.only HOx.out (fun i (h : i = b) => by omega))
   replace HK5 := Lib.hid (HOx.out.heap HK5.out (by omega))
   replace HTc2 := Lib.hid (HTc2.out.only HOx.out (fun i (h : i = b) => by omega))
   replace HK6 := Lib.hid (HOx.out.heap HK6.out (by omega))
   clear HOx
   go_wp2_with fail
   refine (name_any HR.out).mono ?_
   rintro e w11 ⟨nm2, m11, rfl, hnm2, hr, ho, hm⟩
   have hle11 : m11 ≤ 0 := by omega
   have HM11 := Lib.hid hm
   clear hm
   replace HR := Lib.hid hr
   have HOx := Lib.hid ho
   have hs11 := HOx.out.size
   clear hr ho
   replace HW : Hid (OnlyB b w w11) := Lib.hid (HW.out.then_ HOx.out (fun _ _ h => h))
   replace HTc1 := Lib.hid (HTc1.out.only HOx.out (fun i (h : i = b) => by omega))
   replace HK5 := Lib.hid (HOx.out.heap HK5.out (by omega))
   replace HTc2 := Lib.hid (HTc2.out.only HOx.out (fun i (h : i = b) => by omega))
   replace HK6 := Lib.hid (HOx.out.heap HK6.out (by omega))
   clear HOx
   go_wp2_with fail
   refine (must_any HR.out _).mono ?_
   rintro e w12 ⟨rfl, m12, hr, ho, hm⟩
   have hle12 : m12 ≤ m11 := by omega
   have HM12 := Lib.hid hm
   clear hm
   replace HR := Lib.hid hr
   have HOx := Lib.hid ho
   have hs12 := HOx.out.size
   clear hr ho
   replace HW : Hid (OnlyB b w w12) := Lib.hid (HW.out.then_ HOx.out (fun _ _ h => h))
   replace HTc1 := Lib.hid (HTc1.out.only HOx.out (fun i (h : i = b) => by omega))
   replace HK5 := Lib.hid (HOx.out.heap HK5.out (by omega))
   replace HTc2 := Lib.hid (HTc2.out.only HOx.out (fun i (h : i = b) => by omega))
   replace HK6 := Lib.hid (HOx.out.heap HK6.out (by omega))
   clear HOx
   go_wp2_with fail
   refine (expr_any HR.out).mono ?_
   rintro e w13 ⟨c3, t3, kd13, m13, rfl, hr, ho, ht, hm⟩
   have hle13 : m13 ≤ m12 := by omega
   have HM13 := Lib.hid hm
   have HTc3 := Lib.hid ht
   clear hm ht
   replace HR := Lib.hid hr
   have HOx := Lib.hid ho
   have hs13 := HOx.out.size
   clear hr ho
   replace HW : Hid (OnlyB b w w13) := Lib.hid (HW.out.then_ HOx.out (fun _ _ h => h))
   replace HTc1 := Lib.hid (HTc1.out.only HOx.out (fun i (h : i = b) => by omega))
   replace HK5 := Lib.hid (HOx.out.heap HK5.out (by omega))
   replace HTc2 := Lib.hid (HTc2.out.only HOx.out (fun i (h : i = b) => by omega))
   replace HK6 := Lib.hid (HOx.out.heap HK6.out (by omega))
   clear HOx
   go_wp2_with (refine wpl_box rfl rfl 56 rfl 7 rfl (.tmp 52) rfl rfl Tryd.zeroValue56 (cells := c3.toArray) (fun _ => rfl) (fun _ => rfl) stE HTc3.out.size rfl HTc3.out.ones ?_)
   refine ⟨fun w14 b7 HK7 ho14 ha7 hb7 => ?_⟩
   have hs14 := ho14.out.size
   replace HW : Hid (OnlyB b w w14) := Lib.hid (HW.out.then_ ho14.out (fun _ _ h => h.elim))
   replace HR := Lib.hid (HR.out.only ho14.out (fun h => h))
   replace HTc1 := Lib.hid (HTc1.out.only ho14.out (fun _ h => h.elim))
   replace HK5 := Lib.hid (ho14.out.heap HK5.out (fun h => h))
   replace HTc2 := Lib.hid (HTc2.out.only ho14.out (fun _ h => h.elim))
   replace HK6 := Lib.hid (ho14.out.heap HK6.out (fun h => h))
   replace HTc3 := Lib.hid (HTc3.out.only ho14.out (fun _ h => h.elim))
   clear ho14
   go_wp2_with fail
   refine (must_any HR.out _).mono ?_
   rintro e w15 ⟨rfl, m15, hr, ho, hm⟩
   have hle15 : m15 ≤ m13 := by omega
   have HM15 := Lib.hid hm
   clear hm
   replace HR := Lib.hid hr
   have HOx := Lib.hid ho
   have hs15 := HOx.out.size
   clear hr ho
   replace HW : Hid (OnlyB b w w15) := Lib.hid (HW.out.then_ HOx.out (fun _ _ h => h))
   replace HTc1 := Lib.hid (HTc1.out.only HOx.out (fun i (h : i = b) => by omega))
   replace HK5 := Lib.hid (HOx.out.heap HK5.out (by omega))
   replace HTc2 := Lib.hid (HTc2.out.only HOx.out (fun i (h : i = b) => by omega))
   replace HK6 := Lib.hid (HOx.out.heap HK6.out (by omega))
   replace HTc3 := Lib.hid (HTc3.out.only HOx.out (fun i (h : i = b) => by omega))
   replace HK7 := Lib.hid (HOx.out.heap HK7.out (by omega))
   clear HOx
   obtain ⟨kda, ata, opa, wda, numa, nma, Aa, na, ca, ea⟩ := HTc1.out.cells
   subst ea
   obtain ⟨kdb, atb, opb, wdb, numb, nmb, Ab, nb, cb, eb⟩ := HTc2.out.cells
   subst eb
   obtain ⟨kdc, atc, opc, wdc, numc, nmc, Ac, nc, cc, ec⟩ := HTc3.out.cells
   subst ec
   go_wp2_with fail
   obtain ⟨⟨va0, va1, va2, va3, va4, va5, va6⟩, _⟩ := box7 HK5.out
   obtain ⟨⟨vb0, vb1, vb2, vb3, vb4, vb5, vb6⟩, _⟩ := box7 HK6.out
   obtain ⟨⟨vc0, vc1, vc2, vc3, vc4, vc5, vc6⟩, _⟩ := box7 HK7.out
   refine wp_region_z (fun w' => w'.cell? ⟨b5, 0, none⟩ = some (.int .i64 kda) ∧ w'.cell? ⟨b5, 1, none⟩ = some (.int .i64 ata) ∧ w'.cell? ⟨b5, 2, none⟩ = some (.int .i64 opa) ∧ w'.cell? ⟨b5, 3, none⟩ = some (.int .i64 wda) ∧ w'.cell? ⟨b5, 4, none⟩ = some (.int .u64 (numa : Int)) ∧ w'.cell? ⟨b5, 5, none⟩ = some (.string nma) ∧ w'.cell? ⟨b5, 6, none⟩ = some (.slice Aa na ca) ∧ w'.cell? ⟨b6, 0, none⟩ = some (.int .i64 kdb) ∧ w'.cell? ⟨b6, 1, none⟩ = some (.int .i64 atb) ∧ w'.cell? ⟨b6, 2, none⟩ = some (.int .i64 opb) ∧ w'.cell? ⟨b6, 3, none⟩ = some (.int .i64 wdb) ∧ w'.cell? ⟨b6, 4, none⟩ = some (.int .u64 (numb : Int)) ∧ w'.cell? ⟨b6, 5, none⟩ = some (.string nmb) ∧ w'.cell? ⟨b6, 6, none⟩ = some (.slice Ab nb cb) ∧ w'.cell? ⟨b7, 0, none⟩ = some (.int .i64 kdc) ∧ w'.cell? ⟨b7, 1, none⟩ = some (.int .i64 atc) ∧ w'.cell? ⟨b7, 2, none⟩ = some (.int .i64 opc) ∧ w'.cell? ⟨b7, 3, none⟩ = some (.int .i64 wdc) ∧ w'.cell? ⟨b7, 4, none⟩ = some (.int .u64 (numc : Int)) ∧ w'.cell? ⟨b7, 5, none⟩ = some (.string nmc) ∧ w'.cell? ⟨b7, 6, none⟩ = some (.slice Ac nc cc)) [0, 1, 2, 3, 5] [] (by kernel_rfl) (by kernel_rfl) (by kernel_rfl) (by rfl) (fun _ _ _ _ e h => ⟨e.symm.trans h.1, h.2⟩) ⟨va0, va1, va2, va3, va4, va5, va6, vb0, vb1, vb2, vb3, vb4, vb5, vb6, vc0, vc1, vc2, vc3, vc4, vc5, vc6⟩ ?_
   iterate 5
    refine Heads.step (v := ?_) rfl (by first | (go_simp; done) | rfl) (fun W hW => ?_) ?_
    rotate_left
    ·
     (obtain ⟨t0, t1, t2, t3, t4, t5, t6, t7, t8, t9, t10, t11, t12, t13, t14, t15, t16, t17, t18, t19, t20⟩ := hW; go_simp; try with_reducible rfl)
   have HD : Hid ((w15.alloc (.cells #[.int .i64 kda, .int .i64 ata, .int .i64 opa, .int .i64 wda, .int .u64 (numa : Int), .string nma, .slice Aa na ca, .int .i64 kdb, .int .i64 atb, .int .i64 opb, .int .i64 wdb, .int .u64 (numb : Int), .string nmb, .slice Ab nb cb, .int .i64 kdc, .int .i64 atc, .int .i64 opc, .int .i64 wdc, .int .u64 (numc : Int), .string nmc, .slice Ac nc cc] 56)).drew.heap[w15.heap.size]? = some (.cells #[.int .i64 kda, .int .i64 ata, .int .i64 opa, .int .i64 wda, .int .u64 (numa : Int), .string nma, .slice Aa na ca, .int .i64 kdb, .int .i64 atb, .int .i64 opb, .int .i64 wdb, .int .u64 (numb : Int), .string nmb, .slice Ab nb cb, .int .i64 kdc, .int .i64 atc, .int .i64 opc, .int .i64 wdc, .int .u64 (numc : Int), .string nmc, .slice Ac nc cc] 56)) := Lib.hid (heap_alloc_new w15 (.cells #[.int .i64 kda, .int .i64 ata, .int .i64 opa, .int .i64 wda, .int .u64 (numa : Int), .string nma, .slice Aa na ca, .int .i64 kdb, .int .i64 atb, .int .i64 opb, .int .i64 wdb, .int .u64 (numb : Int), .string nmb, .slice Ab nb cb, .int .i64 kdc, .int .i64 atc, .int .i64 opc, .int .i64 wdc, .int .u64 (numc : Int), .string nmc, .slice Ac nc cc] 56))
   have HOD : Hid (Only (fun _ => False) w15 (w15.alloc (.cells #[.int .i64 kda, .int .i64 ata, .int .i64 opa, .int .i64 wda, .int .u64 (numa : Int), .string nma, .slice Aa na ca, .int .i64 kdb, .int .i64 atb, .int .i64 opb, .int .i64 wdb, .int .u64 (numb : Int), .string nmb, .slice Ab nb cb, .int .i64 kdc, .int .i64 atc, .int .i64 opc, .int .i64 wdc, .int .u64 (numc : Int), .string nmc, .slice Ac nc cc] 56)).drew) := Lib.hid (((Only.refl _ w15).alloc _).drew)
   have hzD : ((w15.alloc (.cells #[.int .i64 kda, .int .i64 ata, .int .i64 opa, .int .i64 wda, .int .u64 (numa : Int), .string nma, .slice Aa na ca, .int .i64 kdb, .int .i64 atb, .int .i64 opb, .int .i64 wdb, .int .u64 (numb : Int), .string nmb, .slice Ab nb cb, .int .i64 kdc, .int .i64 atc, .int .i64 opc, .int .i64 wdc, .int .u64 (numc : Int), .string nmc, .slice Ac nc cc] 56)).drew).heap.size = w15.heap.size + 1 := (by simp : (w15.alloc (.cells #[.int .i64 kda, .int .i64 ata, .int .i64 opa, .int .i64 wda, .int .u64 (numa : Int), .string nma, .slice Aa na ca, .int .i64 kdb, .int .i64 atb, .int .i64 opb, .int .i64 wdb, .int .u64 (numb : Int), .string nmb, .slice Ab nb cb, .int .i64 kdc, .int .i64 atc, .int .i64 opc, .int .i64 wdc, .int .u64 (numc : Int), .string nmc, .slice Ac nc cc] 56)).heap.size = w15.heap.size + 1)
   refine AnyZ.one (i := 4) (by kernel_rfl) rfl (fun K hK => ?_)
   go_simp
   clear va0 va1 va2 va3 va4 va5 va6 vb0 vb1 vb2 vb3 vb4 vb5 vb6 vc0 vc1 vc2 vc3 vc4 vc5 vc6
   generalize (w15.alloc (.cells #[.int .i64 kda, .int .i64 ata, .int .i64 opa, .int .i64 wda, .int .u64 (numa : Int), .string nma, .slice Aa na ca, .int .i64 kdb, .int .i64 atb, .int .i64 opb, .int .i64 wdb, .int .u64 (numb : Int), .string nmb, .slice Ab nb cb, .int .i64 kdc, .int .i64 atc, .int .i64 opc, .int .i64 wdc, .int .u64 (numc : Int), .string nmc, .slice Ac nc cc] 56)).drew = w16 at *
   obtain ⟨bD, hbD⟩ : ∃ x, x = w15.heap.size := ⟨_, rfl⟩
   rw [← hbD] at HD
   try rw [← hbD]
   have haD : w15.heap.size ≤ bD := by omega
   have hbD2 : bD < w16.heap.size := by omega
   clear hbD hzD
   have hs16 := HOD.out.size
   replace HW : Hid (OnlyB b w w16) := Lib.hid (HW.out.then_ HOD.out (fun _ _ h => h.elim))
   replace HR := Lib.hid (HR.out.only HOD.out (fun h => h))
   replace HTc1 := Lib.hid (HTc1.out.only HOD.out (fun _ h => h.elim))
   replace HK5 := Lib.hid (HOD.out.heap HK5.out (fun h => h))
   replace HTc2 := Lib.hid (HTc2.out.only HOD.out (fun _ h => h.elim))
   replace HK6 := Lib.hid (HOD.out.heap HK6.out (fun h => h))
   replace HTc3 := Lib.hid (HTc3.out.only HOD.out (fun _ h => h.elim))
   replace HK7 := Lib.hid (HOD.out.heap HK7.out (fun h => h))
   clear HOD
   obtain ⟨⟨va0, va1, va2, va3, va4, va5, va6⟩, _⟩ := box7 HK5.out
   obtain ⟨⟨vb0, vb1, vb2, vb3, vb4, vb5, vb6⟩, _⟩ := box7 HK6.out
   obtain ⟨⟨vc0, vc1, vc2, vc3, vc4, vc5, vc6⟩, _⟩ := box7 HK7.out
   refine hK _ _ (fun _ => ⟨va0, va1, va2, va3, va4, va5, va6, vb0, vb1, vb2, vb3, vb4, vb5, vb6, vc0, vc1, vc2, vc3, vc4, vc5, vc6⟩) ?_
   clear hK
   refine AnyZ.mid [6] [] 0 rfl (by kernel_rfl) (by kernel_rfl) (by kernel_rfl) (fun _ _ _ _ e h => ⟨e.symm.trans h.1, h.2⟩) ⟨va0, va1, va2, va3, va4, va5, va6, vb0, vb1, vb2, vb3, vb4, vb5, vb6, vc0, vc1, vc2, vc3, vc4, vc5, vc6⟩ ?_
   iterate 1
    refine Heads.step (v := ?_) rfl (by first | (go_simp; done) | rfl) (fun W hW => ?_) ?_
    rotate_left
    ·
     (obtain ⟨t0, t1, t2, t3, t4, t5, t6, t7, t8, t9, t10, t11, t12, t13, t14, t15, t16, t17, t18, t19, t20⟩ := hW; go_simp; try with_reducible rfl)
   refine AnyZ.done (by kernel_rfl) ?_
   clear va0 va1 va2 va3 va4 va5 va6 vb0 vb1 vb2 vb3 vb4 vb5 vb6 vc0 vc1 vc2 vc3 vc4 vc5 vc6
   go_wp2_with fail
   go_ret2
   exact ⟨nm, bD, t1, t2, t3, kd4, kd7, kd13, m15, rfl, hnm, HR.out, HW.out, lf3 HD.out ⟨by omega, by omega⟩ (HTc1.out.wide (by omega) (by omega)) (HTc2.out.wide (by omega) (by omega)) (HTc3.out.wide (by omega) (by omega)), by have := HM1.out; have := HM2.out; have := HM3.out; have := HM4.out; have := HM6.out; have := HM7.out; have := HM9.out; have := HM11.out; have := HM12.out; have := HM13.out; have := HM15.out; omega⟩
 ·
  have q1 : ((code : Int) == 0) = false := by rw [beq_eq_false_iff_ne]; omega
  clear hc HF
  go_wp2_with fail
  clear y1 y4 y7 z1 z4 z7
  go_wp2_with fail
  refine (name_any HR.out).mono ?_
  rintro e w10 ⟨nm2, m10, rfl, hnm2, hr, ho, hm⟩
  have hle10 : m10 ≤ m9 := by omega
  have HM10 := Lib.hid hm
  clear hm
  replace HR := Lib.hid hr
  have HOx := Lib.hid ho
  have hs10 := HOx.out.size
  clear hr ho
  replace HW : Hid (OnlyB b w w10) := Lib.hid (HW.out.then_ HOx.out (fun _ _ h => h))
  replace HTc1 := Lib.hid (HTc1.out.only HOx.out (fun i (h : i = b) => by omega))
  replace HK5 := Lib.hid (HOx.out.heap HK5.out (by omega))
  replace HTc2 := Lib.hid (HTc2.out.only HOx.out (fun i (h : i = b) => by omega))
  replace HK6 := Lib.hid (HOx.out.heap HK6.out (by omega))
  clear HOx
  go_wp2_with fail
  refine (must_any HR.out _).mono ?_
  rintro e w11 ⟨rfl, m11, hr, ho, hm⟩
  have hle11 : m11 ≤ m10 := by omega
  have HM11 := Lib.hid hm
  clear hm
  replace HR := Lib.hid hr
  have HOx := Lib.hid ho
  have hs11 := HOx.out.size
  clear hr ho
  replace HW : Hid (OnlyB b w w11) := Lib.hid (HW.out.then_ HOx.out (fun _ _ h => h))
  replace HTc1 := Lib.hid (HTc1.out.only HOx.out (fun i (h : i = b) => by omega))
  replace HK5 := Lib.hid (HOx.out.heap HK5.out (by omega))
  replace HTc2 := Lib.hid (HTc2.out.only HOx.out (fun i (h : i = b) => by omega))
  replace HK6 := Lib.hid (HOx.out.heap HK6.out (by omega))
  clear HOx
  go_wp2_with fail
  refine (expr_any HR.out).mono ?_
  rintro e w12 ⟨c3, t3, kd12, m12, rfl, hr, ho, ht, hm⟩
  have hle12 : m12 ≤ m11 := by omega
  have HM12 := Lib.hid hm
  have HTc3 := Lib.hid ht
  clear hm ht
  replace HR := Lib.hid hr
  have HOx := Lib.hid ho
  have hs12 := HOx.out.size
  clear hr ho
  replace HW : Hid (OnlyB b w w12) := Lib.hid (HW.out.then_ HOx.out (fun _ _ h => h))
  replace HTc1 := Lib.hid (HTc1.out.only HOx.out (fun i (h : i = b) => by omega))
  replace HK5 := Lib.hid (HOx.out.heap HK5.out (by omega))
  replace HTc2 := Lib.hid (HTc2.out.only HOx.out (fun i (h : i = b) => by omega))
  replace HK6 := Lib.hid (HOx.out.heap HK6.out (by omega))
  clear HOx
  go_wp2_with (refine wpl_box rfl rfl 56 rfl 7 rfl (.tmp 52) rfl rfl Tryd.zeroValue56 (cells := c3.toArray) (fun _ => rfl) (fun _ => rfl) stE HTc3.out.size rfl HTc3.out.ones ?_)
  refine ⟨fun w13 b7 HK7 ho13 ha7 hb7 => ?_⟩
  have hs13 := ho13.out.size
  replace HW : Hid (OnlyB b w w13) := Lib.hid (HW.out.then_ ho13.out (fun _ _ h => h.elim))
  replace HR := Lib.hid (HR.out.only ho13.out (fun h => h))
  replace HTc1 := Lib.hid (HTc1.out.only ho13.out (fun _ h => h.elim))
  replace HK5 := Lib.hid (ho13.out.heap HK5.out (fun h => h))
  replace HTc2 := Lib.hid (HTc2.out.only ho13.out (fun _ h => h.elim))
  replace HK6 := Lib.hid (ho13.out.heap HK6.out (fun h => h))
  replace HTc3 := Lib.hid (HTc3.out.only ho13.out (fun _ h => h.elim))
  clear ho13
  go_wp2_with fail
  refine (must_any HR.out _).mono ?_
  rintro e w14 ⟨rfl, m14, hr, ho, hm⟩
  have hle14 : m14 ≤ m12 := by omega
  have HM14 := Lib.hid hm
  clear hm
  replace HR := Lib.hid hr
  have HOx := Lib.hid ho
  have hs14 := HOx.out.size
  clear hr ho
  replace HW : Hid (OnlyB b w w14) := Lib.hid (HW.out.then_ HOx.out (fun _ _ h => h))
  replace HTc1 := Lib.hid (HTc1.out.only HOx.out (fun i (h : i = b) => by omega))
  replace HK5 := Lib.hid (HOx.out.heap HK5.out (by omega))
  replace HTc2 := Lib.hid (HTc2.out.only HOx.out (fun i (h : i = b) => by omega))
  replace HK6 := Lib.hid (HOx.out.heap HK6.out (by omega))
  replace HTc3 := Lib.hid (HTc3.out.only HOx.out (fun i (h : i = b) => by omega))
  replace HK7 := Lib.hid (HOx.out.heap HK7.out (by omega))
  clear HOx
  obtain ⟨kda, ata, opa, wda, numa, nma, Aa, na, ca, ea⟩ := HTc1.out.cells
  subst ea
  obtain ⟨kdb, atb, opb, wdb, numb, nmb, Ab, nb, cb, eb⟩ := HTc2.out.cells
  subst eb
  obtain ⟨kdc, atc, opc, wdc, numc, nmc, Ac, nc, cc, ec⟩ := HTc3.out.cells
  subst ec
  go_wp2_with fail
  obtain ⟨⟨va0, va1, va2, va3, va4, va5, va6⟩, _⟩ := box7 HK5.out
  obtain ⟨⟨vb0, vb1, vb2, vb3, vb4, vb5, vb6⟩, _⟩ := box7 HK6.out
  obtain ⟨⟨vc0, vc1, vc2, vc3, vc4, vc5, vc6⟩, _⟩ := box7 HK7.out
  refine wp_region_z (fun w' => w'.cell? ⟨b5, 0, none⟩ = some (.int .i64 kda) ∧ w'.cell? ⟨b5, 1, none⟩ = some (.int .i64 ata) ∧ w'.cell? ⟨b5, 2, none⟩ = some (.int .i64 opa) ∧ w'.cell? ⟨b5, 3, none⟩ = some (.int .i64 wda) ∧ w'.cell? ⟨b5, 4, none⟩ = some (.int .u64 (numa : Int)) ∧ w'.cell? ⟨b5, 5, none⟩ = some (.string nma) ∧ w'.cell? ⟨b5, 6, none⟩ = some (.slice Aa na ca) ∧ w'.cell? ⟨b6, 0, none⟩ = some (.int .i64 kdb) ∧ w'.cell? ⟨b6, 1, none⟩ = some (.int .i64 atb) ∧ w'.cell? ⟨b6, 2, none⟩ = some (.int .i64 opb) ∧ w'.cell? ⟨b6, 3, none⟩ = some (.int .i64 wdb) ∧ w'.cell? ⟨b6, 4, none⟩ = some (.int .u64 (numb : Int)) ∧ w'.cell? ⟨b6, 5, none⟩ = some (.string nmb) ∧ w'.cell? ⟨b6, 6, none⟩ = some (.slice Ab nb cb) ∧ w'.cell? ⟨b7, 0, none⟩ = some (.int .i64 kdc) ∧ w'.cell? ⟨b7, 1, none⟩ = some (.int .i64 atc) ∧ w'.cell? ⟨b7, 2, none⟩ = some (.int .i64 opc) ∧ w'.cell? ⟨b7, 3, none⟩ = some (.int .i64 wdc) ∧ w'.cell? ⟨b7, 4, none⟩ = some (.int .u64 (numc : Int)) ∧ w'.cell? ⟨b7, 5, none⟩ = some (.string nmc) ∧ w'.cell? ⟨b7, 6, none⟩ = some (.slice Ac nc cc)) [0, 1, 2, 3, 5] [] (by kernel_rfl) (by kernel_rfl) (by kernel_rfl) (by rfl) (fun _ _ _ _ e h => ⟨e.symm.trans h.1, h.2⟩) ⟨va0, va1, va2, va3, va4, va5, va6, vb0, vb1, vb2, vb3, vb4, vb5, vb6, vc0, vc1, vc2, vc3, vc4, vc5, vc6⟩ ?_
  iterate 5
   refine Heads.step (v := ?_) rfl (by first | (go_simp; done) | rfl) (fun W hW => ?_) ?_
   rotate_left
   ·
    (obtain ⟨t0, t1, t2, t3, t4, t5, t6, t7, t8, t9, t10, t11, t12, t13, t14, t15, t16, t17, t18, t19, t20⟩ := hW; go_simp; try with_reducible rfl)
  have HD : Hid ((w14.alloc (.cells #[.int .i64 kda, .int .i64 ata, .int .i64 opa, .int .i64 wda, .int .u64 (numa : Int), .string nma, .slice Aa na ca, .int .i64 kdb, .int .i64 atb, .int .i64 opb, .int .i64 wdb, .int .u64 (numb : Int), .string nmb, .slice Ab nb cb, .int .i64 kdc, .int .i64 atc, .int .i64 opc, .int .i64 wdc, .int .u64 (numc : Int), .string nmc, .slice Ac nc cc] 56)).drew.heap[w14.heap.size]? = some (.cells #[.int .i64 kda, .int .i64 ata, .int .i64 opa, .int .i64 wda, .int .u64 (numa : Int), .string nma, .slice Aa na ca, .int .i64 kdb, .int .i64 atb, .int .i64 opb, .int .i64 wdb, .int .u64 (numb : Int), .string nmb, .slice Ab nb cb, .int .i64 kdc, .int .i64 atc, .int .i64 opc, .int .i64 wdc, .int .u64 (numc : Int), .string nmc, .slice Ac nc cc] 56)) := Lib.hid (heap_alloc_new w14 (.cells #[.int .i64 kda, .int .i64 ata, .int .i64 opa, .int .i64 wda, .int .u64 (numa : Int), .string nma, .slice Aa na ca, .int .i64 kdb, .int .i64 atb, .int .i64 opb, .int .i64 wdb, .int .u64 (numb : Int), .string nmb, .slice Ab nb cb, .int .i64 kdc, .int .i64 atc, .int .i64 opc, .int .i64 wdc, .int .u64 (numc : Int), .string nmc, .slice Ac nc cc] 56))
  have HOD : Hid (Only (fun _ => False) w14 (w14.alloc (.cells #[.int .i64 kda, .int .i64 ata, .int .i64 opa, .int .i64 wda, .int .u64 (numa : Int), .string nma, .slice Aa na ca, .int .i64 kdb, .int .i64 atb, .int .i64 opb, .int .i64 wdb, .int .u64 (numb : Int), .string nmb, .slice Ab nb cb, .int .i64 kdc, .int .i64 atc, .int .i64 opc, .int .i64 wdc, .int .u64 (numc : Int), .string nmc, .slice Ac nc cc] 56)).drew) := Lib.hid (((Only.refl _ w14).alloc _).drew)
  have hzD : ((w14.alloc (.cells #[.int .i64 kda, .int .i64 ata, .int .i64 opa, .int .i64 wda, .int .u64 (numa : Int), .string nma, .slice Aa na ca, .int .i64 kdb, .int .i64 atb, .int .i64 opb, .int .i64 wdb, .int .u64 (numb : Int), .string nmb, .slice Ab nb cb, .int .i64 kdc, .int .i64 atc, .int .i64 opc, .int .i64 wdc, .int .u64 (numc : Int), .string nmc, .slice Ac nc cc] 56)).drew).heap.size = w14.heap.size + 1 := (by simp : (w14.alloc (.cells #[.int .i64 kda, .int .i64 ata, .int .i64 opa, .int .i64 wda, .int .u64 (numa : Int), .string nma, .slice Aa na ca, .int .i64 kdb, .int .i64 atb, .int .i64 opb, .int .i64 wdb, .int .u64 (numb : Int), .string nmb, .slice Ab nb cb, .int .i64 kdc, .int .i64 atc, .int .i64 opc, .int .i64 wdc, .int .u64 (numc : Int), .string nmc, .slice Ac nc cc] 56)).heap.size = w14.heap.size + 1)
  refine AnyZ.one (i := 4) (by kernel_rfl) rfl (fun K hK => ?_)
  go_simp
  clear va0 va1 va2 va3 va4 va5 va6 vb0 vb1 vb2 vb3 vb4 vb5 vb6 vc0 vc1 vc2 vc3 vc4 vc5 vc6
  generalize (w14.alloc (.cells #[.int .i64 kda, .int .i64 ata, .int .i64 opa, .int .i64 wda, .int .u64 (numa : Int), .string nma, .slice Aa na ca, .int .i64 kdb, .int .i64 atb, .int .i64 opb, .int .i64 wdb, .int .u64 (numb : Int), .string nmb, .slice Ab nb cb, .int .i64 kdc, .int .i64 atc, .int .i64 opc, .int .i64 wdc, .int .u64 (numc : Int), .string nmc, .slice Ac nc cc] 56)).drew = w15 at *
  obtain ⟨bD, hbD⟩ : ∃ x, x = w14.heap.size := ⟨_, rfl⟩
  rw [← hbD] at HD
  try rw [← hbD]
  have haD : w14.heap.size ≤ bD := by omega
  have hbD2 : bD < w15.heap.size := by omega
  clear hbD hzD
  have hs15 := HOD.out.size
  replace HW : Hid (OnlyB b w w15) := Lib.hid (HW.out.then_ HOD.out (fun _ _ h => h.elim))
  replace HR := Lib.hid (HR.out.only HOD.out (fun h => h))
  replace HTc1 := Lib.hid (HTc1.out.only HOD.out (fun _ h => h.elim))
  replace HK5 := Lib.hid (HOD.out.heap HK5.out (fun h => h))
  replace HTc2 := Lib.hid (HTc2.out.only HOD.out (fun _ h => h.elim))
  replace HK6 := Lib.hid (HOD.out.heap HK6.out (fun h => h))
  replace HTc3 := Lib.hid (HTc3.out.only HOD.out (fun _ h => h.elim))
  replace HK7 := Lib.hid (HOD.out.heap HK7.out (fun h => h))
  clear HOD
  obtain ⟨⟨va0, va1, va2, va3, va4, va5, va6⟩, _⟩ := box7 HK5.out
  obtain ⟨⟨vb0, vb1, vb2, vb3, vb4, vb5, vb6⟩, _⟩ := box7 HK6.out
  obtain ⟨⟨vc0, vc1, vc2, vc3, vc4, vc5, vc6⟩, _⟩ := box7 HK7.out
  refine hK _ _ (fun _ => ⟨va0, va1, va2, va3, va4, va5, va6, vb0, vb1, vb2, vb3, vb4, vb5, vb6, vc0, vc1, vc2, vc3, vc4, vc5, vc6⟩) ?_
  clear hK
  refine AnyZ.mid [6] [] 0 rfl (by kernel_rfl) (by kernel_rfl) (by kernel_rfl) (fun _ _ _ _ e h => ⟨e.symm.trans h.1, h.2⟩) ⟨va0, va1, va2, va3, va4, va5, va6, vb0, vb1, vb2, vb3, vb4, vb5, vb6, vc0, vc1, vc2, vc3, vc4, vc5, vc6⟩ ?_
  iterate 1
   refine Heads.step (v := ?_) rfl (by first | (go_simp; done) | rfl) (fun W hW => ?_) ?_
   rotate_left
   ·
    (obtain ⟨t0, t1, t2, t3, t4, t5, t6, t7, t8, t9, t10, t11, t12, t13, t14, t15, t16, t17, t18, t19, t20⟩ := hW; go_simp; try with_reducible rfl)
  refine AnyZ.done (by kernel_rfl) ?_
  clear va0 va1 va2 va3 va4 va5 va6 vb0 vb1 vb2 vb3 vb4 vb5 vb6 vc0 vc1 vc2 vc3 vc4 vc5 vc6
  go_wp2_with fail
  go_ret2
  exact ⟨nm, bD, t1, t2, t3, kd4, kd7, kd12, m14, rfl, hnm, HR.out, HW.out, lf3 HD.out ⟨by omega, by omega⟩ (HTc1.out.wide (by omega) (by omega)) (HTc2.out.wide (by omega) (by omega)) (HTc3.out.wide (by omega) (by omega)), by have := HM1.out; have := HM2.out; have := HM3.out; have := HM4.out; have := HM6.out; have := HM7.out; have := HM9.out; have := HM10.out; have := HM11.out; have := HM12.out; have := HM14.out; omega⟩
end Go.Proofs.YtbdcpealkllfnaaDoor
