/- A module's tree made; what its loops keep. Condition: the text has at most 60000 bytes. The reference's Reader: module, walked. Condition: the text has at most 60000 bytes. -/
import Derived.Test.YtbdcpealkllfnaaDoorNtD
namespace Go.Proofs.YtbdcpealkllfnaaDoor
open Go.RowKit Go.Deep

theorem trm_mk {p : Nat → Prop} {w : World} {nm : LB} {at_ : Int} {AP AQ AI : Option Addr} {np cp nq cq ni ci : Nat} {TP : Nat → BiT} {TQ : Nat → PoT} {TI : Nat → LB} (hn : nm.length ≤ 100000) (hP : LfP FB 58 10 p w AP np TP) (hQ : LfP FPo 63 19 p w AQ nq TQ) (hI : LfP FI 75 65 p w AI ni TI) (h3 : np ≤ 3000000 ∧ nq ≤ 3000000 ∧ ni ≤ 3000000) :
  TrP FM p w [.string (bstr nm), .int .i64 at_, .slice AP np cp, .slice AQ nq cq, .slice AI ni ci] (modL nm np (fun i => parT i (TP i)) nq (fun i => portT i (TQ i)) ni TI) := by
 obtain ⟨d1, h1⟩ := Rw.of hP h3.1
 obtain ⟨d2, h2⟩ := Rw.of hQ h3.2.1
 obtain ⟨d4, h4⟩ := Rw.of hI h3.2.2
 exact ⟨d1 + d2 + d4, nm, at_, AP, AQ, AI, np, cp, nq, cq, ni, ci, TP, TQ, TI, rfl, hn, h1.imp (fun _ _ h => FB.deep (by omega) h), h2.imp (fun _ _ h => FPo.deep (by omega) h), h4.imp (fun _ _ h => PrI.deep (by omega) h), rfl⟩
theorem catP_snoc_len (T : Nat → BiT) (n : Nat) (t : BiT) : (catL (fun i => parT i (snocF T n t i)) (n + 1)).length ≤ (catL (fun i => parT i (T i)) n).length + 5 + t.1.length + t.2.2.length := by
 simp only [catL]
 rw [catL_congr (T' := fun i => parT i (T i)) n (fun i hi => by rw [snocF_lt _ _ hi]), snocF_at, List.length_append]
 unfold parT parL
 split <;> simp only [List.length_append, List.length_cons, List.length_nil] <;> omega
theorem catQ_snoc_len (T : Nat → PoT) (n : Nat) (t : PoT) : (catL (fun i => portT i (snocF T n t i)) (n + 1)).length ≤ (catL (fun i => portT i (T i)) n).length + 13 + (spanT t.2.2.1).length + t.2.2.2.length := by
 simp only [catL]
 rw [catL_congr (T' := fun i => portT i (T i)) n (fun i hi => by rw [snocF_lt _ _ hi]), snocF_at, List.length_append]
 unfold portT portL
 simp only [List.length_append]
 have h1 : (if n = 0 then ([] : LB) else [44, 32]).length ≤ 2 := by split <;> simp
 have h2 : (if t.1 = true ∧ t.2.1 = true then ([111, 117, 116, 112, 117, 116, 32, 114, 101, 103, 32] : LB) else if t.1 = true then [111, 117, 116, 112, 117, 116, 32] else [105, 110, 112, 117, 116, 32]).length ≤ 11 := by
  split
  ·
   simp
  ·
   split <;> simp
 omega
theorem modL_len (nm : LB) (np : Nat) (P : Nat → LB) (nq : Nat) (Q : Nat → LB) (ni : Nat) (I : Nat → LB) : (modL nm np P nq Q ni I).length ≤ 30 + nm.length + (catL P np).length + (catL Q nq).length + (catL I ni).length := by
 unfold modL
 simp only [List.length_append, List.length_cons, List.length_nil]
 have h1 : (if 0 < np then ([41, 32] : LB) else []).length ≤ 2 := by split <;> simp
 omega
structure MpI (s : ByteArray) (b m : Nat) (w : World) (Z b2 b3 at_ : Nat) (nm : LB) (g : Nat) (wr : World) (A : Option Addr) (n c : Nat) (T : Nat → BiT) : Prop where
 rd : RdS s b wr g
 ol : OnlyB b w wr
 k2 : wr.heap[b2]? = some (.cells #[.string ⟨#[]⟩, .int .i64 0, .slice none 0 0, .slice none 0 0, .slice none 0 0] 40)
 k3 : wr.heap[b3]? = some (.cells #[.string (bstr nm), .int .i64 (at_ : Int), .slice A n c, .slice none 0 0, .slice none 0 0] 40)
 ls : Ls FB 58 10 Z b wr A n c T
 nn : n + g ≤ m + 1
 gm : g ≤ m
 tx : g = 0 ∨ (g < m ∧ (catL (fun i => parT i (T i)) n).length + 60 * g + 60 ≤ 60 * m)
 sz : Z ≤ wr.heap.size
structure MqI (s : ByteArray) (b m : Nat) (w : World) (ZP HP Z b2 b3 at_ : Nat) (nm : LB) (AP : Option Addr) (np cp : Nat) (TP : Nat → BiT) (mp : Nat) (g : Nat) (wr : World) (A : Option Addr) (n c : Nat) (T : Nat → PoT) : Prop where
 rd : RdS s b wr g
 ol : OnlyB b w wr
 k2 : wr.heap[b2]? = some (.cells #[.string ⟨#[]⟩, .int .i64 0, .slice none 0 0, .slice none 0 0, .slice none 0 0] 40)
 k3 : wr.heap[b3]? = some (.cells #[.string (bstr nm), .int .i64 (at_ : Int), .slice AP np cp, .slice A n c, .slice none 0 0] 40)
 lp : Lf FB 58 10 ZP HP wr AP np TP
 ls : Ls FPo 63 19 Z b wr A n c T
 nn : n + g ≤ m + 1
 gm : g ≤ mp
 tx : g = 0 ∨ (catL (fun i => portT i (T i)) n).length + 60 * g ≤ 60 * mp
 sz : Z ≤ wr.heap.size
end Go.Proofs.YtbdcpealkllfnaaDoor
namespace Go.Proofs.YtbdcpealkllfnaaDoor
open Go.RowKit Go.Deep

set_option maxRecDepth 100000 in
set_option maxHeartbeats 8000000 in
theorem module_any {s : ByteArray} {b m : Nat} {w : World} (HR : Hid (RdS s b w m)) : Calls Tryd.prog 10 #[.pointer (some ⟨b, 0, none⟩)] w (MoOut s b m w) := by
 have HR0 := HR
 have hlt := HR.out.lt
 have HW : Hid (OnlyB b w w) := Lib.hid (Only.refl _ w)
 go_enter Tryd.func10, Tryd.ntmps10
 go_wp2_with (refine wpl_alloc rfl 40 rfl (some 2) rfl Tryd.zeroValue40 ?_)
 refine ⟨fun w1 b2 HK2 ho1 ha2 hb2 => ?_⟩
 have hs1 := ho1.out.size
 replace HW : Hid (OnlyB b w w1) := Lib.hid (HW.out.then_ ho1.out (fun _ _ h => h.elim))
 replace HR := Lib.hid (HR.out.only ho1.out (fun h => h))
 clear ho1
 obtain ⟨kd, at_, wd, T, num, q, code, fat, hrf⟩ := HR.out
 have HF := Lib.hid hrf
 clear hrf
 obtain ⟨y2, z2⟩ := HF.out.c2
 go_wp2_with (refine wpl_box rfl rfl 40 rfl 3 rfl (.tmp 15) rfl rfl Tryd.zeroValue40 (cells := #[.string ⟨#[]⟩, .int .i64 (at_ : Int), .slice none 0 0, .slice none 0 0, .slice none 0 0]) (fun _ => rfl) (fun _ => rfl) stM rfl rfl (ones rfl) ?_)
 refine ⟨fun w2 b3 HK3 ho2 ha3 hb3 => ?_⟩
 have hs2 := ho2.out.size
 replace HW : Hid (OnlyB b w w2) := Lib.hid (HW.out.then_ ho2.out (fun _ _ h => h.elim))
 replace HR := Lib.hid (HR.out.only ho2.out (fun h => h))
 replace HK2 := Lib.hid (ho2.out.heap HK2.out (fun h => h))
 clear ho2
 clear y2 z2 HF
 go_wp2_with fail
 refine (must_any HR.out _).mono ?_
 rintro e w3 ⟨rfl, m3, hr, ho, hm⟩
 have hle3 : m3 ≤ m := by omega
 have HM3 := Lib.hid hm
 clear hm
 replace HR := Lib.hid hr
 have HOx := Lib.hid ho
 have hs3 := HOx.out.size
 clear hr ho
 replace HW : Hid (OnlyB b w w3) := Lib.hid (HW.out.then_ HOx.out (fun _ _ h => h))
 replace HK2 := Lib.hid (HOx.out.heap HK2.out (by omega))
 replace HK3 := Lib.hid (HOx.out.heap HK3.out (by omega))
 clear HOx
 go_wp2_with fail
 refine (name_any HR.out).mono ?_
 rintro e w4 ⟨nm, m4, rfl, hnm, hr, ho, hm⟩
 have hle4 : m4 ≤ m3 := by omega
 have HM4 := Lib.hid hm
 clear hm
 replace HR := Lib.hid hr
 have HOx := Lib.hid ho
 have hs4 := HOx.out.size
 clear hr ho
 replace HW : Hid (OnlyB b w w4) := Lib.hid (HW.out.then_ HOx.out (fun _ _ h => h))
 replace HK2 := Lib.hid (HOx.out.heap HK2.out (by omega))
 replace HK3 := Lib.hid (HOx.out.heap HK3.out (by omega))
 clear HOx
 go_wp2_with (refine wpl_set rfl 9 (.tmp 20) (.tmp 19) rfl b3 0 rfl (v := .string (bstr nm)) rfl Tryd.sizeOf9 rfl rfl HK3.out (by simp) ?_)
 clear HK3
 refine ⟨fun w5 HK3 ho5 => ?_⟩
 have hs5 := ho5.out.size
 replace HK3 : Hid (w5.heap[b3]? = some (.cells #[.string (bstr nm), .int .i64 (at_ : Int), .slice none 0 0, .slice none 0 0, .slice none 0 0] _)) := HK3
 replace HW : Hid (OnlyB b w w5) := Lib.hid (HW.out.then_ ho5.out (fun i hi (h : i = b3) => by omega))
 replace HR := Lib.hid (HR.out.only ho5.out (by omega))
 replace HK2 := Lib.hid (ho5.out.heap HK2.out (by omega))
 clear ho5
 have hmm := HR0.out.le
 go_wp2_with fail
 refine (accept_any HR.out _).mono ?_
 rintro e w6 ⟨ok, m6, rfl, hr, ho, hy, hn⟩
 replace HR := Lib.hid hr
 have HOx := Lib.hid ho
 have hs6 := HOx.out.size
 clear hr ho
 replace HW : Hid (OnlyB b w w6) := Lib.hid (HW.out.then_ HOx.out (fun _ _ h => h))
 replace HK2 := Lib.hid (HOx.out.heap HK2.out (by omega))
 replace HK3 := Lib.hid (HOx.out.heap HK3.out (by omega))
 clear HOx
 cases ok with
 | false =>
  obtain rfl : m6 = m4 := hn rfl
  clear hy hn
  go_wp2_with fail
  refine (must_any HR.out _).mono ?_
  rintro e w7 ⟨rfl, m7, hr, ho, hm⟩
  have hle7 : m7 ≤ m6 := by omega
  have HM7 := Lib.hid hm
  clear hm
  replace HR := Lib.hid hr
  have HOx := Lib.hid ho
  have hs7 := HOx.out.size
  clear hr ho
  replace HW : Hid (OnlyB b w w7) := Lib.hid (HW.out.then_ HOx.out (fun _ _ h => h))
  replace HK2 := Lib.hid (HOx.out.heap HK2.out (by omega))
  replace HK3 := Lib.hid (HOx.out.heap HK3.out (by omega))
  clear HOx
  go_wp2_with fail
  refine (is_any HR.out _).mono ?_
  rintro e w8 ⟨cl, rfl, hwe, hik⟩
  obtain rfl := hwe.symm
  clear hik
  have HLP : Hid (Lf FB 58 10 w7.heap.size w7.heap.size w7 none 0 (fun _ => (([], false, []) : BiT))) := Lib.hid LfP.nil
  go_wp2_with fail
  have hgm0 : m7 ≤ m := by omega
  have H1 : Hid (MqI s b m w w7.heap.size w7.heap.size w7.heap.size b2 b3 at_ nm none 0 0 (fun _ => (([], false, []) : BiT)) m7 m7 w7 none 0 0 (fun _ => ((false, false, (false, [], []), []) : PoT))) := Lib.hid ⟨HR.out, HW.out, HK2.out, HK3.out, HLP.out, Ls.nil, by omega, by omega, by simp only [catL, List.length_nil]; omega, by omega⟩
  clear HR HW HK2 HK3 HLP
  go_loopg [7] m7 (fun g v7 wr => ∃ cl Aq nq cq Tq, v7 = .bool cl ∧ Hid (MqI s b m w w7.heap.size w7.heap.size w7.heap.size b2 b3 at_ nm none 0 0 (fun _ => (([], false, []) : BiT)) m7 g wr Aq nq cq Tq))
  case atStart => exact ⟨_, _, _, _, _, rfl, H1⟩
  case round =>
   clear H1
   obtain ⟨cl2, A2, n2, c2, T2, rfl, HB⟩ := hrel
   have HR := Lib.hid HB.out.rd
   have HW := Lib.hid HB.out.ol
   have HK2 := Lib.hid HB.out.k2
   have HK3 := Lib.hid HB.out.k3
   have HLP := Lib.hid HB.out.lp
   have HL := Lib.hid HB.out.ls
   have hnn2 := HB.out.nn
   have hgm2 := HB.out.gm
   have HTX2 := Lib.hid HB.out.tx
   have hsr2 := HB.out.sz
   clear HB
   obtain ⟨kdx, at_x, wdx, Tx, numx, qx, codex, fatx, hrf⟩ := HR.out
   have HFx := Lib.hid hrf
   clear hrf
   have HF := HFx
   clear HFx
   obtain ⟨y7, z7⟩ := HF.out.c7
   by_cases hc : codex = 0
   ·
    subst hc
    have hg0 : 0 < gk := by rw [HF.out.hm]; exact rdM_pos
    clear HF
    cases cl2 with
    | true =>
     go_wp2_with fail
     clear y7 z7
     go_wp2_with fail
     refine (must_any HR.out _).mono ?_
     rintro e w9 ⟨rfl, m9, hr, ho, hm⟩
     have hle9 : m9 ≤ gk := by omega
     have HM9 := Lib.hid hm
     clear hm
     replace HR := Lib.hid hr
     have HOx := Lib.hid ho
     have hs9 := HOx.out.size
     clear hr ho
     replace HW : Hid (OnlyB b w w9) := Lib.hid (HW.out.then_ HOx.out (fun _ _ h => h))
     replace HK2 := Lib.hid (HOx.out.heap HK2.out (by omega))
     replace HK3 := Lib.hid (HOx.out.heap HK3.out (by omega))
     replace HLP := Lib.hid (HLP.out.only HOx.out (fun i (h : i = b) => by omega))
     replace HL := Lib.hid (HL.out.only HOx.out (fun i hi (h : i = b) => by omega))
     clear HOx
     go_wp2_with fail
     refine (must_any HR.out _).mono ?_
     rintro e w10 ⟨rfl, m10, hr, ho, hm⟩
     have hle10 : m10 ≤ m9 := by omega
     have HM10 := Lib.hid hm
     clear hm
     replace HR := Lib.hid hr
     have HOx := Lib.hid ho
     have hs10 := HOx.out.size
     clear hr ho
     replace HW : Hid (OnlyB b w w10) := Lib.hid (HW.out.then_ HOx.out (fun _ _ h => h))
     replace HK2 := Lib.hid (HOx.out.heap HK2.out (by omega))
     replace HK3 := Lib.hid (HOx.out.heap HK3.out (by omega))
     replace HLP := Lib.hid (HLP.out.only HOx.out (fun i (h : i = b) => by omega))
     replace HL := Lib.hid (HL.out.only HOx.out (fun i hi (h : i = b) => by omega))
     clear HOx
     go_wp2_with fail
     refine (items_any _ HR.out).mono ?_
     rintro e w11 ⟨AI, ni, ci, TI, m11, rfl, hr, ho, ht, hni, hle11, hm⟩
     have HM11 := Lib.hid hm
     have HLI := Lib.hid ht
     clear hm ht
     replace HR := Lib.hid hr
     have HOx := Lib.hid ho
     have hs11 := HOx.out.size
     clear hr ho
     replace HW : Hid (OnlyB b w w11) := Lib.hid (HW.out.then_ HOx.out (fun _ _ h => h))
     replace HK2 := Lib.hid (HOx.out.heap HK2.out (by omega))
     replace HK3 := Lib.hid (HOx.out.heap HK3.out (by omega))
     replace HLP := Lib.hid (HLP.out.only HOx.out (fun i (h : i = b) => by omega))
     replace HL := Lib.hid (HL.out.only HOx.out (fun i hi (h : i = b) => by omega))
     clear HOx
     go_wp2_with (refine wpl_set rfl 38 (.tmp 90) (.tmp 89) rfl b3 4 rfl (v := .slice AI ni ci) rfl Tryd.sizeOf38 rfl rfl HK3.out (by simp) ?_)
     clear HK3
     refine ⟨fun w12 HK3 ho12 => ?_⟩
     have hs12 := ho12.out.size
     replace HK3 : Hid (w12.heap[b3]? = some (.cells #[.string (bstr nm), .int .i64 (at_ : Int), .slice none 0 0, .slice A2 n2 c2, .slice AI ni ci] _)) := HK3
     replace HW : Hid (OnlyB b w w12) := Lib.hid (HW.out.then_ ho12.out (fun i hi (h : i = b3) => by omega))
     replace HR := Lib.hid (HR.out.only ho12.out (by omega))
     replace HK2 := Lib.hid (ho12.out.heap HK2.out (by omega))
     replace HLP := Lib.hid (HLP.out.only ho12.out (fun i (h : i = b3) => by omega))
     replace HL := Lib.hid (HL.out.only ho12.out (fun i hi (h : i = b3) => by omega))
     replace HLI := Lib.hid (HLI.out.only ho12.out (fun i (h : i = b3) => by omega))
     clear ho12
     go_wp2_with fail
     refine (must_any HR.out _).mono ?_
     rintro e w13 ⟨rfl, m13, hr, ho, hm⟩
     have hle13 : m13 ≤ m11 := by omega
     have HM13 := Lib.hid hm
     clear hm
     replace HR := Lib.hid hr
     have HOx := Lib.hid ho
     have hs13 := HOx.out.size
     clear hr ho
     replace HW : Hid (OnlyB b w w13) := Lib.hid (HW.out.then_ HOx.out (fun _ _ h => h))
     replace HK2 := Lib.hid (HOx.out.heap HK2.out (by omega))
     replace HK3 := Lib.hid (HOx.out.heap HK3.out (by omega))
     replace HLP := Lib.hid (HLP.out.only HOx.out (fun i (h : i = b) => by omega))
     replace HL := Lib.hid (HL.out.only HOx.out (fun i hi (h : i = b) => by omega))
     replace HLI := Lib.hid (HLI.out.only HOx.out (fun i (h : i = b) => by omega))
     clear HOx
     go_wp2_with (first | (refine wpl_load rfl 40 (.tmp 3) rfl b3 rfl HK3.out stM rfl ?_) | (refine wpl_store rfl 40 (.tmp 2) (.tmp 93) rfl b2 rfl (cells := #[.string (bstr nm), .int .i64 (at_ : Int), .slice none 0 0, .slice A2 n2 c2, .slice AI ni ci]) rfl HK2.out stM rfl rfl (ones rfl) ?_))
     clear HK2
     refine ⟨fun w14 HK2 ho14 => ?_⟩
     have hs14 := ho14.out.size
     replace HW : Hid (OnlyB b w w14) := Lib.hid (HW.out.then_ ho14.out (fun i hi (h : i = b2) => by omega))
     replace HR := Lib.hid (HR.out.only ho14.out (by omega))
     replace HK3 := Lib.hid (ho14.out.heap HK3.out (by omega))
     replace HLP := Lib.hid (HLP.out.only ho14.out (fun i (h : i = b2) => by omega))
     replace HL := Lib.hid (HL.out.only ho14.out (fun i hi (h : i = b2) => by omega))
     replace HLI := Lib.hid (HLI.out.only ho14.out (fun i (h : i = b2) => by omega))
     clear ho14
     go_wp2_with fail
     exact bodyPost_ret (ret_box rfl _ rfl HK2.out stM rfl) rfl ⟨[.string (bstr nm), .int .i64 (at_ : Int), .slice none 0 0, .slice A2 n2 c2, .slice AI ni ci], _, m13, rfl, HR.out, HW.out, trm_mk (TP := (fun _ => (([], false, []) : BiT))) (TQ := T2) (TI := TI) (by omega) (LfP.nil) (HL.out.done.wide (by omega) (by omega)) (HLI.out.wide (by omega) (by omega)) ⟨by omega, by omega, by omega⟩, by have := HM3.out; have := HM4.out; have h6 : (catL (fun i => parT i ((fun _ => (([], false, []) : BiT)) i)) 0).length = 0 := rfl; have := HM7.out; have := HTX2.out; have := HM9.out; have := HM10.out; have := HM11.out; have := HM13.out; have h9 := modL_len nm 0 (fun i => parT i ((fun _ => (([], false, []) : BiT)) i)) n2 (fun i => portT i (T2 i)) ni TI; simp only [KK] at *; omega⟩
    | false =>
     go_wp2_with fail
     clear y7 z7
     have HLLT := Lib.hid HL.out.lt
     refine (port_any HR).mono ?_
     rintro e w9 ⟨cP, tP, m9, rfl, hr, ho, ht, hm⟩
     have hle9 : m9 ≤ gk := by omega
     have HM9 := Lib.hid hm
     have HTcP := Lib.hid ht
     clear hm ht
     replace HR := Lib.hid hr
     have HOx := Lib.hid ho
     have hs9 := HOx.out.size
     clear hr ho
     replace HW : Hid (OnlyB b w w9) := Lib.hid (HW.out.then_ HOx.out (fun _ _ h => h))
     replace HK2 := Lib.hid (HOx.out.heap HK2.out (by omega))
     replace HK3 := Lib.hid (HOx.out.heap HK3.out (by omega))
     replace HLP := Lib.hid (HLP.out.only HOx.out (fun i (h : i = b) => by omega))
     replace HL := Lib.hid (HL.out.only HOx.out (fun i hi (h : i = b) => by omega))
     clear HOx
     go_wp2_with (refine wpl_box rfl rfl 63 rfl 8 rfl (.tmp 73) rfl rfl Tryd.zeroValue63 (cells := cP.toArray) (fun _ => rfl) (fun _ => rfl) stP (by simp [lenP HTcP.out]) rfl (by simpa using oneP HTcP.out) ?_)
     refine ⟨fun w10 b8 HK8 ho10 ha8 hb8 => ?_⟩
     have hs10 := ho10.out.size
     replace HW : Hid (OnlyB b w w10) := Lib.hid (HW.out.then_ ho10.out (fun _ _ h => h.elim))
     replace HR := Lib.hid (HR.out.only ho10.out (fun h => h))
     replace HK2 := Lib.hid (ho10.out.heap HK2.out (fun h => h))
     replace HK3 := Lib.hid (ho10.out.heap HK3.out (fun h => h))
     replace HLP := Lib.hid (HLP.out.only ho10.out (fun _ h => h.elim))
     replace HL := Lib.hid (HL.out.only ho10.out (fun _ _ h => h.elim))
     replace HTcP := Lib.hid (HTcP.out.only ho10.out (fun _ h => h.elim))
     clear ho10
     obtain ⟨y6, z6⟩ : w10.cell? ⟨b3, 3, none⟩ = some (.slice A2 n2 c2) ∧ w10.frozen? ⟨b3, 3, none⟩ = false := cell_at HK3.out rfl
     go_wp2_with (first | (refine wpl_load rfl 63 (.tmp 8) rfl b8 rfl HK8.out stP (by simp [lenP HTcP.out]) ?_) | (refine wpl_slice rfl 37 63 1 _ rfl (some 77) rfl Tryd.underlying37 cP.toArray (built19 (lenP HTcP.out)) ?_))
     refine ⟨fun w11 b77 HK77 ho11 ha77 hb77 => ?_⟩
     have hs11 := ho11.out.size
     replace HW : Hid (OnlyB b w w11) := Lib.hid (HW.out.then_ ho11.out (fun _ _ h => h.elim))
     replace HR := Lib.hid (HR.out.only ho11.out (fun h => h))
     replace HK2 := Lib.hid (ho11.out.heap HK2.out (fun h => h))
     replace HK3 := Lib.hid (ho11.out.heap HK3.out (fun h => h))
     replace HLP := Lib.hid (HLP.out.only ho11.out (fun _ h => h.elim))
     replace HL := Lib.hid (HL.out.only ho11.out (fun _ _ h => h.elim))
     replace HTcP := Lib.hid (HTcP.out.only ho11.out (fun _ h => h.elim))
     replace HK8 := Lib.hid (ho11.out.heap HK8.out (fun h => h))
     clear ho11
     clear y6 z6
     go_wp2_with (refine wpl_push rfl (.tmp 75) (.tmp 77) 37 rfl elP rfl HL.out rfl HK77.out (lenP HTcP.out) (oneP HTcP.out) HTcP.out (by omega) (by omega) (fun k hk => by have := HLLT.out k hk; omega) (by omega) (by omega) (by omega) ?_)
     refine ⟨fun A3 c3 w12 HLn ho12 => ?_⟩
     have hs12 := ho12.out.size
     clear HL HTcP
     clear HK8
     clear HK77
     replace HW : Hid (OnlyB b w w12) := Lib.hid (HW.out.then_ ho12.out (fun i hi (h : w7.heap.size ≤ i) => by omega))
     replace HR := Lib.hid (HR.out.only ho12.out (by omega))
     replace HK2 := Lib.hid (ho12.out.heap HK2.out (by omega))
     replace HK3 := Lib.hid (ho12.out.heap HK3.out (by omega))
     replace HLP := Lib.hid (HLP.out.only ho12.out (fun i (h : w7.heap.size ≤ i) => by omega))
     clear ho12
     have HL := HLn
     clear HLn
     go_wp2_with (refine wpl_set rfl 37 (.tmp 79) (.tmp 78) rfl b3 3 rfl (v := .slice A3 (n2 + 1) c3) rfl Tryd.sizeOf37 rfl rfl HK3.out (by simp) ?_)
     clear HK3
     refine ⟨fun w13 HK3 ho13 => ?_⟩
     have hs13 := ho13.out.size
     replace HK3 : Hid (w13.heap[b3]? = some (.cells #[.string (bstr nm), .int .i64 (at_ : Int), .slice none 0 0, .slice A3 (n2 + 1) c3, .slice none 0 0] _)) := HK3
     replace HW : Hid (OnlyB b w w13) := Lib.hid (HW.out.then_ ho13.out (fun i hi (h : i = b3) => by omega))
     replace HR := Lib.hid (HR.out.only ho13.out (by omega))
     replace HK2 := Lib.hid (ho13.out.heap HK2.out (by omega))
     replace HLP := Lib.hid (HLP.out.only ho13.out (fun i (h : i = b3) => by omega))
     replace HL := Lib.hid (HL.out.only ho13.out (fun i hi (h : i = b3) => by omega))
     clear ho13
     go_wp2_with fail
     refine (accept_any HR.out _).mono ?_
     rintro e w14 ⟨om, m14, rfl, hr, ho, hy, hn⟩
     replace HR := Lib.hid hr
     have HOx := Lib.hid ho
     have hs14 := HOx.out.size
     clear hr ho
     replace HW : Hid (OnlyB b w w14) := Lib.hid (HW.out.then_ HOx.out (fun _ _ h => h))
     replace HK2 := Lib.hid (HOx.out.heap HK2.out (by omega))
     replace HK3 := Lib.hid (HOx.out.heap HK3.out (by omega))
     replace HLP := Lib.hid (HLP.out.only HOx.out (fun i (h : i = b) => by omega))
     replace HL := Lib.hid (HL.out.only HOx.out (fun i hi (h : i = b) => by omega))
     clear HOx
     have hac : m14 ≤ m9 := by cases om with
      | true => exact Nat.le_of_lt (hy rfl).2
      | false => exact Nat.le_of_eq (hn rfl)
     clear hy hn
     go_wp2_with fail
     have hlt9 : m14 < gk := by have := HM9.out; omega
     go_roundg m14
     case measure => omega
     case rel => exact ⟨_, A3, n2 + 1, c3, _, rfl, Lib.hid ⟨HR.out, HW.out, HK2.out, HK3.out, HLP.out, HL.out, by omega, by omega, by have := HTX2.out; have := HM9.out; have := catQ_snoc_len T2 n2 tP; omega, by omega⟩⟩
   ·
    have hci : ((codex : Int) == 0) = false := by rw [beq_eq_false_iff_ne]; omega
    clear hc HF
    cases cl2 with
    | true =>
     go_wp2_with fail
     clear y7 z7
     go_wp2_with fail
     refine (must_any HR.out _).mono ?_
     rintro e w9 ⟨rfl, m9, hr, ho, hm⟩
     have hle9 : m9 ≤ gk := by omega
     have HM9 := Lib.hid hm
     clear hm
     replace HR := Lib.hid hr
     have HOx := Lib.hid ho
     have hs9 := HOx.out.size
     clear hr ho
     replace HW : Hid (OnlyB b w w9) := Lib.hid (HW.out.then_ HOx.out (fun _ _ h => h))
     replace HK2 := Lib.hid (HOx.out.heap HK2.out (by omega))
     replace HK3 := Lib.hid (HOx.out.heap HK3.out (by omega))
     replace HLP := Lib.hid (HLP.out.only HOx.out (fun i (h : i = b) => by omega))
     replace HL := Lib.hid (HL.out.only HOx.out (fun i hi (h : i = b) => by omega))
     clear HOx
     go_wp2_with fail
     refine (must_any HR.out _).mono ?_
     rintro e w10 ⟨rfl, m10, hr, ho, hm⟩
     have hle10 : m10 ≤ m9 := by omega
     have HM10 := Lib.hid hm
     clear hm
     replace HR := Lib.hid hr
     have HOx := Lib.hid ho
     have hs10 := HOx.out.size
     clear hr ho
     replace HW : Hid (OnlyB b w w10) := Lib.hid (HW.out.then_ HOx.out (fun _ _ h => h))
     replace HK2 := Lib.hid (HOx.out.heap HK2.out (by omega))
     replace HK3 := Lib.hid (HOx.out.heap HK3.out (by omega))
     replace HLP := Lib.hid (HLP.out.only HOx.out (fun i (h : i = b) => by omega))
     replace HL := Lib.hid (HL.out.only HOx.out (fun i hi (h : i = b) => by omega))
     clear HOx
     go_wp2_with fail
     refine (items_any _ HR.out).mono ?_
     rintro e w11 ⟨AI, ni, ci, TI, m11, rfl, hr, ho, ht, hni, hle11, hm⟩
     have HM11 := Lib.hid hm
     have HLI := Lib.hid ht
     clear hm ht
     replace HR := Lib.hid hr
     have HOx := Lib.hid ho
     have hs11 := HOx.out.size
     clear hr ho
     replace HW : Hid (OnlyB b w w11) := Lib.hid (HW.out.then_ HOx.out (fun _ _ h => h))
     replace HK2 := Lib.hid (HOx.out.heap HK2.out (by omega))
     replace HK3 := Lib.hid (HOx.out.heap HK3.out (by omega))
     replace HLP := Lib.hid (HLP.out.only HOx.out (fun i (h : i = b) => by omega))
     replace HL := Lib.hid (HL.out.only HOx.out (fun i hi (h : i = b) => by omega))
     clear HOx
     go_wp2_with (refine wpl_set rfl 38 (.tmp 90) (.tmp 89) rfl b3 4 rfl (v := .slice AI ni ci) rfl Tryd.sizeOf38 rfl rfl HK3.out (by simp) ?_)
     clear HK3
     refine ⟨fun w12 HK3 ho12 => ?_⟩
     have hs12 := ho12.out.size
     replace HK3 : Hid (w12.heap[b3]? = some (.cells #[.string (bstr nm), .int .i64 (at_ : Int), .slice none 0 0, .slice A2 n2 c2, .slice AI ni ci] _)) := HK3
     replace HW : Hid (OnlyB b w w12) := Lib.hid (HW.out.then_ ho12.out (fun i hi (h : i = b3) => by omega))
     replace HR := Lib.hid (HR.out.only ho12.out (by omega))
     replace HK2 := Lib.hid (ho12.out.heap HK2.out (by omega))
     replace HLP := Lib.hid (HLP.out.only ho12.out (fun i (h : i = b3) => by omega))
     replace HL := Lib.hid (HL.out.only ho12.out (fun i hi (h : i = b3) => by omega))
     replace HLI := Lib.hid (HLI.out.only ho12.out (fun i (h : i = b3) => by omega))
     clear ho12
     go_wp2_with fail
     refine (must_any HR.out _).mono ?_
     rintro e w13 ⟨rfl, m13, hr, ho, hm⟩
     have hle13 : m13 ≤ m11 := by omega
     have HM13 := Lib.hid hm
     clear hm
     replace HR := Lib.hid hr
     have HOx := Lib.hid ho
     have hs13 := HOx.out.size
     clear hr ho
     replace HW : Hid (OnlyB b w w13) := Lib.hid (HW.out.then_ HOx.out (fun _ _ h => h))
     replace HK2 := Lib.hid (HOx.out.heap HK2.out (by omega))
     replace HK3 := Lib.hid (HOx.out.heap HK3.out (by omega))
     replace HLP := Lib.hid (HLP.out.only HOx.out (fun i (h : i = b) => by omega))
     replace HL := Lib.hid (HL.out.only HOx.out (fun i hi (h : i = b) => by omega))
     replace HLI := Lib.hid (HLI.out.only HOx.out (fun i (h : i = b) => by omega))
     clear HOx
     go_wp2_with (first | (refine wpl_load rfl 40 (.tmp 3) rfl b3 rfl HK3.out stM rfl ?_) | (refine wpl_store rfl 40 (.tmp 2) (.tmp 93) rfl b2 rfl (cells := #[.string (bstr nm), .int .i64 (at_ : Int), .slice none 0 0, .slice A2 n2 c2, .slice AI ni ci]) rfl HK2.out stM rfl rfl (ones rfl) ?_))
     clear HK2
     refine ⟨fun w14 HK2 ho14 => ?_⟩
     have hs14 := ho14.out.size
     replace HW : Hid (OnlyB b w w14) := Lib.hid (HW.out.then_ ho14.out (fun i hi (h : i = b2) => by omega))
     replace HR := Lib.hid (HR.out.only ho14.out (by omega))
     replace HK3 := Lib.hid (ho14.out.heap HK3.out (by omega))
     replace HLP := Lib.hid (HLP.out.only ho14.out (fun i (h : i = b2) => by omega))
     replace HL := Lib.hid (HL.out.only ho14.out (fun i hi (h : i = b2) => by omega))
     replace HLI := Lib.hid (HLI.out.only ho14.out (fun i (h : i = b2) => by omega))
     clear ho14
     go_wp2_with fail
     exact bodyPost_ret (ret_box rfl _ rfl HK2.out stM rfl) rfl ⟨[.string (bstr nm), .int .i64 (at_ : Int), .slice none 0 0, .slice A2 n2 c2, .slice AI ni ci], _, m13, rfl, HR.out, HW.out, trm_mk (TP := (fun _ => (([], false, []) : BiT))) (TQ := T2) (TI := TI) (by omega) (LfP.nil) (HL.out.done.wide (by omega) (by omega)) (HLI.out.wide (by omega) (by omega)) ⟨by omega, by omega, by omega⟩, by have := HM3.out; have := HM4.out; have h6 : (catL (fun i => parT i ((fun _ => (([], false, []) : BiT)) i)) 0).length = 0 := rfl; have := HM7.out; have := HTX2.out; have := HM9.out; have := HM10.out; have := HM11.out; have := HM13.out; have h9 := modL_len nm 0 (fun i => parT i ((fun _ => (([], false, []) : BiT)) i)) n2 (fun i => portT i (T2 i)) ni TI; simp only [KK] at *; omega⟩
    | false =>
     go_wp2_with fail
     clear y7 z7
     go_wp2_with fail
     refine (must_any HR.out _).mono ?_
     rintro e w9 ⟨rfl, m9, hr, ho, hm⟩
     have hle9 : m9 ≤ gk := by omega
     have HM9 := Lib.hid hm
     clear hm
     replace HR := Lib.hid hr
     have HOx := Lib.hid ho
     have hs9 := HOx.out.size
     clear hr ho
     replace HW : Hid (OnlyB b w w9) := Lib.hid (HW.out.then_ HOx.out (fun _ _ h => h))
     replace HK2 := Lib.hid (HOx.out.heap HK2.out (by omega))
     replace HK3 := Lib.hid (HOx.out.heap HK3.out (by omega))
     replace HLP := Lib.hid (HLP.out.only HOx.out (fun i (h : i = b) => by omega))
     replace HL := Lib.hid (HL.out.only HOx.out (fun i hi (h : i = b) => by omega))
     clear HOx
     go_wp2_with fail
     refine (must_any HR.out _).mono ?_
     rintro e w10 ⟨rfl, m10, hr, ho, hm⟩
     have hle10 : m10 ≤ m9 := by omega
     have HM10 := Lib.hid hm
     clear hm
     replace HR := Lib.hid hr
     have HOx := Lib.hid ho
     have hs10 := HOx.out.size
     clear hr ho
     replace HW : Hid (OnlyB b w w10) := Lib.hid (HW.out.then_ HOx.out (fun _ _ h => h))
     replace HK2 := Lib.hid (HOx.out.heap HK2.out (by omega))
     replace HK3 := Lib.hid (HOx.out.heap HK3.out (by omega))
     replace HLP := Lib.hid (HLP.out.only HOx.out (fun i (h : i = b) => by omega))
     replace HL := Lib.hid (HL.out.only HOx.out (fun i hi (h : i = b) => by omega))
     clear HOx
     go_wp2_with fail
     refine (items_any _ HR.out).mono ?_
     rintro e w11 ⟨AI, ni, ci, TI, m11, rfl, hr, ho, ht, hni, hle11, hm⟩
     have HM11 := Lib.hid hm
     have HLI := Lib.hid ht
     clear hm ht
     replace HR := Lib.hid hr
     have HOx := Lib.hid ho
     have hs11 := HOx.out.size
     clear hr ho
     replace HW : Hid (OnlyB b w w11) := Lib.hid (HW.out.then_ HOx.out (fun _ _ h => h))
     replace HK2 := Lib.hid (HOx.out.heap HK2.out (by omega))
     replace HK3 := Lib.hid (HOx.out.heap HK3.out (by omega))
     replace HLP := Lib.hid (HLP.out.only HOx.out (fun i (h : i = b) => by omega))
     replace HL := Lib.hid (HL.out.only HOx.out (fun i hi (h : i = b) => by omega))
     clear HOx
     go_wp2_with (refine wpl_set rfl 38 (.tmp 90) (.tmp 89) rfl b3 4 rfl (v := .slice AI ni ci) rfl Tryd.sizeOf38 rfl rfl HK3.out (by simp) ?_)
     clear HK3
     refine ⟨fun w12 HK3 ho12 => ?_⟩
     have hs12 := ho12.out.size
     replace HK3 : Hid (w12.heap[b3]? = some (.cells #[.string (bstr nm), .int .i64 (at_ : Int), .slice none 0 0, .slice A2 n2 c2, .slice AI ni ci] _)) := HK3
     replace HW : Hid (OnlyB b w w12) := Lib.hid (HW.out.then_ ho12.out (fun i hi (h : i = b3) => by omega))
     replace HR := Lib.hid (HR.out.only ho12.out (by omega))
     replace HK2 := Lib.hid (ho12.out.heap HK2.out (by omega))
     replace HLP := Lib.hid (HLP.out.only ho12.out (fun i (h : i = b3) => by omega))
     replace HL := Lib.hid (HL.out.only ho12.out (fun i hi (h : i = b3) => by omega))
     replace HLI := Lib.hid (HLI.out.only ho12.out (fun i (h : i = b3) => by omega))
     clear ho12
     go_wp2_with fail
     refine (must_any HR.out _).mono ?_
     rintro e w13 ⟨rfl, m13, hr, ho, hm⟩
     have hle13 : m13 ≤ m11 := by omega
     have HM13 := Lib.hid hm
     clear hm
     replace HR := Lib.hid hr
     have HOx := Lib.hid ho
     have hs13 := HOx.out.size
     clear hr ho
     replace HW : Hid (OnlyB b w w13) := Lib.hid (HW.out.then_ HOx.out (fun _ _ h => h))
     replace HK2 := Lib.hid (HOx.out.heap HK2.out (by omega))
     replace HK3 := Lib.hid (HOx.out.heap HK3.out (by omega))
     replace HLP := Lib.hid (HLP.out.only HOx.out (fun i (h : i = b) => by omega))
     replace HL := Lib.hid (HL.out.only HOx.out (fun i hi (h : i = b) => by omega))
     replace HLI := Lib.hid (HLI.out.only HOx.out (fun i (h : i = b) => by omega))
     clear HOx
     go_wp2_with (first | (refine wpl_load rfl 40 (.tmp 3) rfl b3 rfl HK3.out stM rfl ?_) | (refine wpl_store rfl 40 (.tmp 2) (.tmp 93) rfl b2 rfl (cells := #[.string (bstr nm), .int .i64 (at_ : Int), .slice none 0 0, .slice A2 n2 c2, .slice AI ni ci]) rfl HK2.out stM rfl rfl (ones rfl) ?_))
     clear HK2
     refine ⟨fun w14 HK2 ho14 => ?_⟩
     have hs14 := ho14.out.size
     replace HW : Hid (OnlyB b w w14) := Lib.hid (HW.out.then_ ho14.out (fun i hi (h : i = b2) => by omega))
     replace HR := Lib.hid (HR.out.only ho14.out (by omega))
     replace HK3 := Lib.hid (ho14.out.heap HK3.out (by omega))
     replace HLP := Lib.hid (HLP.out.only ho14.out (fun i (h : i = b2) => by omega))
     replace HL := Lib.hid (HL.out.only ho14.out (fun i hi (h : i = b2) => by omega))
     replace HLI := Lib.hid (HLI.out.only ho14.out (fun i (h : i = b2) => by omega))
     clear ho14
     go_wp2_with fail
     exact bodyPost_ret (ret_box rfl _ rfl HK2.out stM rfl) rfl ⟨[.string (bstr nm), .int .i64 (at_ : Int), .slice none 0 0, .slice A2 n2 c2, .slice AI ni ci], _, m13, rfl, HR.out, HW.out, trm_mk (TP := (fun _ => (([], false, []) : BiT))) (TQ := T2) (TI := TI) (by omega) (LfP.nil) (HL.out.done.wide (by omega) (by omega)) (HLI.out.wide (by omega) (by omega)) ⟨by omega, by omega, by omega⟩, by have := HM3.out; have := HM4.out; have h6 : (catL (fun i => parT i ((fun _ => (([], false, []) : BiT)) i)) 0).length = 0 := rfl; have := HM7.out; have := HTX2.out; have := HM9.out; have := HM10.out; have := HM11.out; have := HM13.out; have h9 := modL_len nm 0 (fun i => parT i ((fun _ => (([], false, []) : BiT)) i)) n2 (fun i => portT i (T2 i)) ni TI; simp only [KK] at *; omega⟩
 | true =>
  obtain ⟨hp6, hl6⟩ := hy rfl
  clear hy hn
  go_wp2_with fail
  refine (must_any HR.out _).mono ?_
  rintro e w7 ⟨rfl, m7, hr, ho, hm⟩
  have hle7 : m7 ≤ m6 := by omega
  have HM7 := Lib.hid hm
  clear hm
  replace HR := Lib.hid hr
  have HOx := Lib.hid ho
  have hs7 := HOx.out.size
  clear hr ho
  replace HW : Hid (OnlyB b w w7) := Lib.hid (HW.out.then_ HOx.out (fun _ _ h => h))
  replace HK2 := Lib.hid (HOx.out.heap HK2.out (by omega))
  replace HK3 := Lib.hid (HOx.out.heap HK3.out (by omega))
  clear HOx
  go_wp2_with fail
  have H0 : Hid (MpI s b m w w7.heap.size b2 b3 at_ nm m7 w7 none 0 0 (fun _ => (([], false, []) : BiT))) := Lib.hid ⟨HR.out, HW.out, HK2.out, HK3.out, Ls.nil, by omega, by omega, by have := HM3.out; have := HM4.out; have := HM7.out; simp only [catL, List.length_nil]; omega, by omega⟩
  clear HR HW HK2 HK3
  go_loopg [5] m7 (fun g _ wr => ∃ A n c T, Hid (MpI s b m w w7.heap.size b2 b3 at_ nm g wr A n c T))
  case atStart => exact ⟨_, _, _, _, H0⟩
  case round =>
   clear H0
   obtain ⟨A, n, c, T, HB⟩ := hrel
   obtain ⟨wo, hwo⟩ : ∃ x, x = wr := ⟨_, rfl⟩
   subst hwo
   obtain ⟨go, hgo⟩ : ∃ x, x = gk := ⟨_, rfl⟩
   subst hgo
   have HR := Lib.hid HB.out.rd
   have HW := Lib.hid HB.out.ol
   have HK2 := Lib.hid HB.out.k2
   have HK3 := Lib.hid HB.out.k3
   have HL0 := Lib.hid HB.out.ls
   have hnn := HB.out.nn
   have hgm := HB.out.gm
   have HTX := Lib.hid HB.out.tx
   have hsr := HB.out.sz
   clear HB
   obtain ⟨kdx, at_x, wdx, Tx, numx, qx, codex, fatx, hrf⟩ := HR.out
   have HFx := Lib.hid hrf
   clear hrf
   have HF := HFx
   clear HFx
   obtain ⟨y7, z7⟩ := HF.out.c7
   by_cases hc : codex = 0
   ·
    subst hc
    have hg0 : 0 < go := by rw [HF.out.hm]; exact rdM_pos
    obtain ⟨y2, z2⟩ := HF.out.c2
    have HQ : Hid (OnlyB b wo wo) := Lib.hid (Only.refl _ _)
    have HLLT := Lib.hid HL0.out.lt
    go_wp2_with (refine wpl_box rfl rfl 58 rfl 5 rfl (.tmp 37) rfl rfl Tryd.zeroValue58 (cells := #[.string ⟨#[]⟩, .int .i64 (at_x : Int), .bool true, .int .i64 0, .int .i64 0, .int .i64 0, .int .i64 0, .int .u64 0, .string ⟨#[]⟩, .slice none 0 0]) (fun _ => rfl) (fun _ => rfl) stB rfl rfl (ones rfl) ?_)
    refine ⟨fun w8 b5 HK5 ho8 ha5 hb5 => ?_⟩
    have hs8 := ho8.out.size
    replace HW : Hid (OnlyB b w w8) := Lib.hid (HW.out.then_ ho8.out (fun _ _ h => h.elim))
    replace HR := Lib.hid (HR.out.only ho8.out (fun h => h))
    replace HK2 := Lib.hid (ho8.out.heap HK2.out (fun h => h))
    replace HK3 := Lib.hid (ho8.out.heap HK3.out (fun h => h))
    replace HQ : Hid (OnlyB b wo w8) := Lib.hid (HQ.out.then_ ho8.out (fun _ _ h => h.elim))
    clear ho8
    clear y7 z7 y2 z2 HF
    go_wp2_with fail
    refine (name_any HR.out).mono ?_
    rintro e w9 ⟨np, m9, rfl, hnp, hr, ho, hm⟩
    have hle9 : m9 ≤ go := by omega
    have HM9 := Lib.hid hm
    clear hm
    replace HR := Lib.hid hr
    have HOx := Lib.hid ho
    have hs9 := HOx.out.size
    clear hr ho
    replace HW : Hid (OnlyB b w w9) := Lib.hid (HW.out.then_ HOx.out (fun _ _ h => h))
    replace HK2 := Lib.hid (HOx.out.heap HK2.out (by omega))
    replace HK3 := Lib.hid (HOx.out.heap HK3.out (by omega))
    replace HQ : Hid (OnlyB b wo w9) := Lib.hid (HQ.out.then_ HOx.out (fun _ _ h => h))
    replace HK5 := Lib.hid (HOx.out.heap HK5.out (by omega))
    clear HOx
    go_wp2_with (refine wpl_set rfl 9 (.tmp 40) (.tmp 39) rfl b5 0 rfl (v := .string (bstr np)) rfl Tryd.sizeOf9 rfl rfl HK5.out (by simp) ?_)
    clear HK5
    refine ⟨fun w10 HK5 ho10 => ?_⟩
    have hs10 := ho10.out.size
    replace HK5 : Hid (w10.heap[b5]? = some (.cells #[.string (bstr np), .int .i64 (at_x : Int), .bool true, .int .i64 0, .int .i64 0, .int .i64 0, .int .i64 0, .int .u64 0, .string ⟨#[]⟩, .slice none 0 0] _)) := HK5
    replace HW : Hid (OnlyB b w w10) := Lib.hid (HW.out.then_ ho10.out (fun i hi (h : i = b5) => by omega))
    replace HR := Lib.hid (HR.out.only ho10.out (by omega))
    replace HK2 := Lib.hid (ho10.out.heap HK2.out (by omega))
    replace HK3 := Lib.hid (ho10.out.heap HK3.out (by omega))
    replace HQ : Hid (OnlyB b wo w10) := Lib.hid (HQ.out.then_ ho10.out (fun i hi (h : i = b5) => by omega))
    clear ho10
    go_wp2_with fail
    refine (must_any HR.out _).mono ?_
    rintro e w11 ⟨rfl, m11, hr, ho, hm⟩
    have hle11 : m11 ≤ m9 := by omega
    have HM11 := Lib.hid hm
    clear hm
    replace HR := Lib.hid hr
    have HOx := Lib.hid ho
    have hs11 := HOx.out.size
    clear hr ho
    replace HW : Hid (OnlyB b w w11) := Lib.hid (HW.out.then_ HOx.out (fun _ _ h => h))
    replace HK2 := Lib.hid (HOx.out.heap HK2.out (by omega))
    replace HK3 := Lib.hid (HOx.out.heap HK3.out (by omega))
    replace HQ : Hid (OnlyB b wo w11) := Lib.hid (HQ.out.then_ HOx.out (fun _ _ h => h))
    replace HK5 := Lib.hid (HOx.out.heap HK5.out (by omega))
    clear HOx
    go_wp2_with fail
    refine (expr_any HR.out).mono ?_
    rintro e w12 ⟨c1, t1, kd12, m12, rfl, hr, ho, ht, hm⟩
    have hle12 : m12 ≤ m11 := by omega
    have HM12 := Lib.hid hm
    have HTc1 := Lib.hid ht
    clear hm ht
    replace HR := Lib.hid hr
    have HOx := Lib.hid ho
    have hs12 := HOx.out.size
    clear hr ho
    replace HW : Hid (OnlyB b w w12) := Lib.hid (HW.out.then_ HOx.out (fun _ _ h => h))
    replace HK2 := Lib.hid (HOx.out.heap HK2.out (by omega))
    replace HK3 := Lib.hid (HOx.out.heap HK3.out (by omega))
    replace HQ : Hid (OnlyB b wo w12) := Lib.hid (HQ.out.then_ HOx.out (fun _ _ h => h))
    replace HK5 := Lib.hid (HOx.out.heap HK5.out (by omega))
    clear HOx
    go_wp2_with (refine wpl_seg rfl 56 (.tmp 45) (.tmp 44) rfl b5 3 rfl (c := c1) rfl HK5.out [.string (bstr np), .int .i64 (at_x : Int), .bool true] zEL [] rfl rfl stE HTc1.out.len rfl HTc1.out.one (.string (bstr np) :: .int .i64 (at_x : Int) :: .bool true :: c1) (by simp) ?_)
    clear HK5
    refine ⟨fun w13 HK5 ho13 => ?_⟩
    have hs13 := ho13.out.size
    replace HW : Hid (OnlyB b w w13) := Lib.hid (HW.out.then_ ho13.out (fun i hi (h : i = b5) => by omega))
    replace HR := Lib.hid (HR.out.only ho13.out (by omega))
    replace HK2 := Lib.hid (ho13.out.heap HK2.out (by omega))
    replace HK3 := Lib.hid (ho13.out.heap HK3.out (by omega))
    replace HQ : Hid (OnlyB b wo w13) := Lib.hid (HQ.out.then_ ho13.out (fun i hi (h : i = b5) => by omega))
    replace HTc1 := Lib.hid (HTc1.out.only ho13.out (fun i (h : i = b5) => by omega))
    clear ho13
    have HTB : Hid (Tr FB wo.heap.size w13.heap.size w13 (.string (bstr np) :: .int .i64 (at_x : Int) :: .bool true :: c1) (np, true, t1)) := Lib.hid (trb_mk (given := true) (t := (t1, kd12)) (by omega) (HTc1.out.wide (by omega) (by omega)))
    clear HTc1
    generalize (.string (bstr np) :: .int .i64 (at_x : Int) :: .bool true :: c1 : List Value) = cB at HK5 HTB
    have HL := Lib.hid (HL0.out.only HQ.out (fun i hi (h : i = b) => by omega))
    clear HQ HL0
    obtain ⟨y6, z6⟩ : w13.cell? ⟨b3, 2, none⟩ = some (.slice A n c) ∧ w13.frozen? ⟨b3, 2, none⟩ = false := cell_at HK3.out rfl
    go_wp2_with (first | (refine wpl_load rfl 58 (.tmp 5) rfl b5 rfl HK5.out stB (by simp [lenB HTB.out]) ?_) | (refine wpl_slice rfl 36 58 1 _ rfl (some 49) rfl Tryd.underlying36 cB.toArray (built10 (lenB HTB.out)) ?_))
    refine ⟨fun w14 b49 HK49 ho14 ha49 hb49 => ?_⟩
    have hs14 := ho14.out.size
    replace HW : Hid (OnlyB b w w14) := Lib.hid (HW.out.then_ ho14.out (fun _ _ h => h.elim))
    replace HR := Lib.hid (HR.out.only ho14.out (fun h => h))
    replace HK2 := Lib.hid (ho14.out.heap HK2.out (fun h => h))
    replace HK3 := Lib.hid (ho14.out.heap HK3.out (fun h => h))
    replace HK5 := Lib.hid (ho14.out.heap HK5.out (fun h => h))
    replace HTB := Lib.hid (HTB.out.only ho14.out (fun _ h => h.elim))
    replace HL := Lib.hid (HL.out.only ho14.out (fun _ _ h => h.elim))
    clear ho14
    clear y6 z6
    go_wp2_with (refine wpl_push rfl (.tmp 47) (.tmp 49) 36 rfl elB rfl HL.out rfl HK49.out (lenB HTB.out) (oneB HTB.out) HTB.out (by omega) (by omega) (fun k hk => by have := HLLT.out k hk; omega) (by omega) (by omega) (by omega) ?_)
    refine ⟨fun A1 c1n w15 HLn ho15 => ?_⟩
    have hs15 := ho15.out.size
    clear HL HTB
    clear HK5
    clear HK49
    replace HW : Hid (OnlyB b w w15) := Lib.hid (HW.out.then_ ho15.out (fun i hi (h : w7.heap.size ≤ i) => by omega))
    replace HR := Lib.hid (HR.out.only ho15.out (by omega))
    replace HK2 := Lib.hid (ho15.out.heap HK2.out (by omega))
    replace HK3 := Lib.hid (ho15.out.heap HK3.out (by omega))
    clear ho15
    have HL := HLn
    clear HLn
    go_wp2_with (refine wpl_set rfl 36 (.tmp 51) (.tmp 50) rfl b3 2 rfl (v := .slice A1 (n + 1) c1n) rfl Tryd.sizeOf36 rfl rfl HK3.out (by simp) ?_)
    clear HK3
    refine ⟨fun w16 HK3 ho16 => ?_⟩
    have hs16 := ho16.out.size
    replace HK3 : Hid (w16.heap[b3]? = some (.cells #[.string (bstr nm), .int .i64 (at_ : Int), .slice A1 (n + 1) c1n, .slice none 0 0, .slice none 0 0] _)) := HK3
    replace HW : Hid (OnlyB b w w16) := Lib.hid (HW.out.then_ ho16.out (fun i hi (h : i = b3) => by omega))
    replace HR := Lib.hid (HR.out.only ho16.out (by omega))
    replace HK2 := Lib.hid (ho16.out.heap HK2.out (by omega))
    replace HL := Lib.hid (HL.out.only ho16.out (fun i hi (h : i = b3) => by omega))
    clear ho16
    go_wp2_with fail
    refine (accept_any HR.out _).mono ?_
    rintro e w17 ⟨om, m17, rfl, hr, ho, hy, hn⟩
    replace HR := Lib.hid hr
    have HOx := Lib.hid ho
    have hs17 := HOx.out.size
    clear hr ho
    replace HW : Hid (OnlyB b w w17) := Lib.hid (HW.out.then_ HOx.out (fun _ _ h => h))
    replace HK2 := Lib.hid (HOx.out.heap HK2.out (by omega))
    replace HK3 := Lib.hid (HOx.out.heap HK3.out (by omega))
    replace HL := Lib.hid (HL.out.only HOx.out (fun i hi (h : i = b) => by omega))
    clear HOx
    cases om with
    | true =>
     obtain ⟨hp17, hl17⟩ := hy rfl
     clear hy hn
     go_wp2_with fail
     have hlt9 : m17 < go := by have := HM9.out; omega
     go_roundg m17
     case measure => omega
     case rel => exact ⟨A1, n + 1, c1n, _, Lib.hid ⟨HR.out, HW.out, HK2.out, HK3.out, HL.out, by omega, by omega, by have := HTX.out; have := HM9.out; have := HM11.out; have := HM12.out; have := catP_snoc_len T n (np, true, t1); simp only at *; omega, by omega⟩⟩
    | false =>
     obtain rfl : m17 = m12 := hn rfl
     clear hy hn
     obtain ⟨T1, hT1⟩ : ∃ t, t = snocF T n (np, true, t1) := ⟨_, rfl⟩
     rw [← hT1] at HL
     have HT1 := Lib.hid hT1
     clear hT1
     have HTXP : Hid (m17 = 0 ∨ (m17 < m ∧ (catL (fun i => parT i (T1 i)) (n + 1)).length + 60 * m17 + 60 ≤ 60 * m)) := Lib.hid (by rw [HT1.out]; have := HTX.out; have := HM9.out; have := HM11.out; have := HM12.out; have := catP_snoc_len T n (np, true, t1); simp only at *; omega)
     have HLP := Lib.hid HL.out.done
     clear HL
     go_wp2_with fail
     refine (must_any HR.out _).mono ?_
     rintro e w18 ⟨rfl, m18, hr, ho, hm⟩
     have hle18 : m18 ≤ m17 := by omega
     have HM18 := Lib.hid hm
     clear hm
     replace HR := Lib.hid hr
     have HOx := Lib.hid ho
     have hs18 := HOx.out.size
     clear hr ho
     replace HW : Hid (OnlyB b w w18) := Lib.hid (HW.out.then_ HOx.out (fun _ _ h => h))
     replace HK2 := Lib.hid (HOx.out.heap HK2.out (by omega))
     replace HK3 := Lib.hid (HOx.out.heap HK3.out (by omega))
     replace HLP := Lib.hid (HLP.out.only HOx.out (fun i (h : i = b) => by omega))
     clear HOx
     go_wp2_with fail
     refine (must_any HR.out _).mono ?_
     rintro e w19 ⟨rfl, m19, hr, ho, hm⟩
     have hle19 : m19 ≤ m18 := by omega
     have HM19 := Lib.hid hm
     clear hm
     replace HR := Lib.hid hr
     have HOx := Lib.hid ho
     have hs19 := HOx.out.size
     clear hr ho
     replace HW : Hid (OnlyB b w w19) := Lib.hid (HW.out.then_ HOx.out (fun _ _ h => h))
     replace HK2 := Lib.hid (HOx.out.heap HK2.out (by omega))
     replace HK3 := Lib.hid (HOx.out.heap HK3.out (by omega))
     replace HLP := Lib.hid (HLP.out.only HOx.out (fun i (h : i = b) => by omega))
     clear HOx
     go_wp2_with fail
     refine (is_any HR.out _).mono ?_
     rintro e w20 ⟨cl, rfl, hwe, hik⟩
     obtain rfl := hwe.symm
     clear hik
     go_wp2_with fail
     have hgm0 : m19 ≤ m := by omega
     have H1 : Hid (MqI s b m w w7.heap.size w17.heap.size w19.heap.size b2 b3 at_ nm A1 (n + 1) c1n T1 m19 m19 w19 none 0 0 (fun _ => ((false, false, (false, [], []), []) : PoT))) := Lib.hid ⟨HR.out, HW.out, HK2.out, HK3.out, HLP.out, Ls.nil, by omega, by omega, by simp only [catL, List.length_nil]; omega, by omega⟩
     clear HR HW HK2 HK3 HLP
     go_loopg [7] m19 (fun g v7 wr => ∃ cl Aq nq cq Tq, v7 = .bool cl ∧ Hid (MqI s b m w w7.heap.size w17.heap.size w19.heap.size b2 b3 at_ nm A1 (n + 1) c1n T1 m19 g wr Aq nq cq Tq))
     case atStart => exact ⟨_, _, _, _, _, rfl, H1⟩
     case round =>
      clear H1
      obtain ⟨cl2, A2, n2, c2, T2, rfl, HB⟩ := hrel
      have HR := Lib.hid HB.out.rd
      have HW := Lib.hid HB.out.ol
      have HK2 := Lib.hid HB.out.k2
      have HK3 := Lib.hid HB.out.k3
      have HLP := Lib.hid HB.out.lp
      have HL := Lib.hid HB.out.ls
      have hnn2 := HB.out.nn
      have hgm2 := HB.out.gm
      have HTX2 := Lib.hid HB.out.tx
      have hsr2 := HB.out.sz
      clear HB
      obtain ⟨kdx, at_x, wdx, Tx, numx, qx, codex, fatx, hrf⟩ := HR.out
      have HFx := Lib.hid hrf
      clear hrf
      have HF := HFx
      clear HFx
      obtain ⟨y7, z7⟩ := HF.out.c7
      by_cases hc : codex = 0
      ·
       subst hc
       have hg0 : 0 < gk := by rw [HF.out.hm]; exact rdM_pos
       clear HF
       cases cl2 with
       | true =>
        go_wp2_with fail
        clear y7 z7
        go_wp2_with fail
        refine (must_any HR.out _).mono ?_
        rintro e w21 ⟨rfl, m21, hr, ho, hm⟩
        have hle21 : m21 ≤ gk := by omega
        have HM21 := Lib.hid hm
        clear hm
        replace HR := Lib.hid hr
        have HOx := Lib.hid ho
        have hs21 := HOx.out.size
        clear hr ho
        replace HW : Hid (OnlyB b w w21) := Lib.hid (HW.out.then_ HOx.out (fun _ _ h => h))
        replace HK2 := Lib.hid (HOx.out.heap HK2.out (by omega))
        replace HK3 := Lib.hid (HOx.out.heap HK3.out (by omega))
        replace HLP := Lib.hid (HLP.out.only HOx.out (fun i (h : i = b) => by omega))
        replace HL := Lib.hid (HL.out.only HOx.out (fun i hi (h : i = b) => by omega))
        clear HOx
        go_wp2_with fail
        refine (must_any HR.out _).mono ?_
        rintro e w22 ⟨rfl, m22, hr, ho, hm⟩
        have hle22 : m22 ≤ m21 := by omega
        have HM22 := Lib.hid hm
        clear hm
        replace HR := Lib.hid hr
        have HOx := Lib.hid ho
        have hs22 := HOx.out.size
        clear hr ho
        replace HW : Hid (OnlyB b w w22) := Lib.hid (HW.out.then_ HOx.out (fun _ _ h => h))
        replace HK2 := Lib.hid (HOx.out.heap HK2.out (by omega))
        replace HK3 := Lib.hid (HOx.out.heap HK3.out (by omega))
        replace HLP := Lib.hid (HLP.out.only HOx.out (fun i (h : i = b) => by omega))
        replace HL := Lib.hid (HL.out.only HOx.out (fun i hi (h : i = b) => by omega))
        clear HOx
        go_wp2_with fail
        refine (items_any _ HR.out).mono ?_
        rintro e w23 ⟨AI, ni, ci, TI, m23, rfl, hr, ho, ht, hni, hle23, hm⟩
        have HM23 := Lib.hid hm
        have HLI := Lib.hid ht
        clear hm ht
        replace HR := Lib.hid hr
        have HOx := Lib.hid ho
        have hs23 := HOx.out.size
        clear hr ho
        replace HW : Hid (OnlyB b w w23) := Lib.hid (HW.out.then_ HOx.out (fun _ _ h => h))
        replace HK2 := Lib.hid (HOx.out.heap HK2.out (by omega))
        replace HK3 := Lib.hid (HOx.out.heap HK3.out (by omega))
        replace HLP := Lib.hid (HLP.out.only HOx.out (fun i (h : i = b) => by omega))
        replace HL := Lib.hid (HL.out.only HOx.out (fun i hi (h : i = b) => by omega))
        clear HOx
        go_wp2_with (refine wpl_set rfl 38 (.tmp 90) (.tmp 89) rfl b3 4 rfl (v := .slice AI ni ci) rfl Tryd.sizeOf38 rfl rfl HK3.out (by simp) ?_)
        clear HK3
        refine ⟨fun w24 HK3 ho24 => ?_⟩
        have hs24 := ho24.out.size
        replace HK3 : Hid (w24.heap[b3]? = some (.cells #[.string (bstr nm), .int .i64 (at_ : Int), .slice A1 (n + 1) c1n, .slice A2 n2 c2, .slice AI ni ci] _)) := HK3
        replace HW : Hid (OnlyB b w w24) := Lib.hid (HW.out.then_ ho24.out (fun i hi (h : i = b3) => by omega))
        replace HR := Lib.hid (HR.out.only ho24.out (by omega))
        replace HK2 := Lib.hid (ho24.out.heap HK2.out (by omega))
        replace HLP := Lib.hid (HLP.out.only ho24.out (fun i (h : i = b3) => by omega))
        replace HL := Lib.hid (HL.out.only ho24.out (fun i hi (h : i = b3) => by omega))
        replace HLI := Lib.hid (HLI.out.only ho24.out (fun i (h : i = b3) => by omega))
        clear ho24
        go_wp2_with fail
        refine (must_any HR.out _).mono ?_
        rintro e w25 ⟨rfl, m25, hr, ho, hm⟩
        have hle25 : m25 ≤ m23 := by omega
        have HM25 := Lib.hid hm
        clear hm
        replace HR := Lib.hid hr
        have HOx := Lib.hid ho
        have hs25 := HOx.out.size
        clear hr ho
        replace HW : Hid (OnlyB b w w25) := Lib.hid (HW.out.then_ HOx.out (fun _ _ h => h))
        replace HK2 := Lib.hid (HOx.out.heap HK2.out (by omega))
        replace HK3 := Lib.hid (HOx.out.heap HK3.out (by omega))
        replace HLP := Lib.hid (HLP.out.only HOx.out (fun i (h : i = b) => by omega))
        replace HL := Lib.hid (HL.out.only HOx.out (fun i hi (h : i = b) => by omega))
        replace HLI := Lib.hid (HLI.out.only HOx.out (fun i (h : i = b) => by omega))
        clear HOx
        go_wp2_with (first | (refine wpl_load rfl 40 (.tmp 3) rfl b3 rfl HK3.out stM rfl ?_) | (refine wpl_store rfl 40 (.tmp 2) (.tmp 93) rfl b2 rfl (cells := #[.string (bstr nm), .int .i64 (at_ : Int), .slice A1 (n + 1) c1n, .slice A2 n2 c2, .slice AI ni ci]) rfl HK2.out stM rfl rfl (ones rfl) ?_))
        clear HK2
        refine ⟨fun w26 HK2 ho26 => ?_⟩
        have hs26 := ho26.out.size
        replace HW : Hid (OnlyB b w w26) := Lib.hid (HW.out.then_ ho26.out (fun i hi (h : i = b2) => by omega))
        replace HR := Lib.hid (HR.out.only ho26.out (by omega))
        replace HK3 := Lib.hid (ho26.out.heap HK3.out (by omega))
        replace HLP := Lib.hid (HLP.out.only ho26.out (fun i (h : i = b2) => by omega))
        replace HL := Lib.hid (HL.out.only ho26.out (fun i hi (h : i = b2) => by omega))
        replace HLI := Lib.hid (HLI.out.only ho26.out (fun i (h : i = b2) => by omega))
        clear ho26
        go_wp2_with fail
        exact bodyPost_ret (ret_box rfl _ rfl HK2.out stM rfl) rfl ⟨[.string (bstr nm), .int .i64 (at_ : Int), .slice A1 (n + 1) c1n, .slice A2 n2 c2, .slice AI ni ci], _, m25, rfl, HR.out, HW.out, trm_mk (TP := T1) (TQ := T2) (TI := TI) (by omega) (HLP.out.wide (by omega) (by omega)) (HL.out.done.wide (by omega) (by omega)) (HLI.out.wide (by omega) (by omega)) ⟨by omega, by omega, by omega⟩, by have := HM3.out; have := HM4.out; have := HTXP.out; have := HM18.out; have := HM19.out; have := HTX2.out; have := HM21.out; have := HM22.out; have := HM23.out; have := HM25.out; have h9 := modL_len nm (n + 1) (fun i => parT i (T1 i)) n2 (fun i => portT i (T2 i)) ni TI; simp only [KK] at *; omega⟩
       | false =>
        go_wp2_with fail
        clear y7 z7
        have HLLT := Lib.hid HL.out.lt
        refine (port_any HR).mono ?_
        rintro e w21 ⟨cP, tP, m21, rfl, hr, ho, ht, hm⟩
        have hle21 : m21 ≤ gk := by omega
        have HM21 := Lib.hid hm
        have HTcP := Lib.hid ht
        clear hm ht
        replace HR := Lib.hid hr
        have HOx := Lib.hid ho
        have hs21 := HOx.out.size
        clear hr ho
        replace HW : Hid (OnlyB b w w21) := Lib.hid (HW.out.then_ HOx.out (fun _ _ h => h))
        replace HK2 := Lib.hid (HOx.out.heap HK2.out (by omega))
        replace HK3 := Lib.hid (HOx.out.heap HK3.out (by omega))
        replace HLP := Lib.hid (HLP.out.only HOx.out (fun i (h : i = b) => by omega))
        replace HL := Lib.hid (HL.out.only HOx.out (fun i hi (h : i = b) => by omega))
        clear HOx
        go_wp2_with (refine wpl_box rfl rfl 63 rfl 8 rfl (.tmp 73) rfl rfl Tryd.zeroValue63 (cells := cP.toArray) (fun _ => rfl) (fun _ => rfl) stP (by simp [lenP HTcP.out]) rfl (by simpa using oneP HTcP.out) ?_)
        refine ⟨fun w22 b8 HK8 ho22 ha8 hb8 => ?_⟩
        have hs22 := ho22.out.size
        replace HW : Hid (OnlyB b w w22) := Lib.hid (HW.out.then_ ho22.out (fun _ _ h => h.elim))
        replace HR := Lib.hid (HR.out.only ho22.out (fun h => h))
        replace HK2 := Lib.hid (ho22.out.heap HK2.out (fun h => h))
        replace HK3 := Lib.hid (ho22.out.heap HK3.out (fun h => h))
        replace HLP := Lib.hid (HLP.out.only ho22.out (fun _ h => h.elim))
        replace HL := Lib.hid (HL.out.only ho22.out (fun _ _ h => h.elim))
        replace HTcP := Lib.hid (HTcP.out.only ho22.out (fun _ h => h.elim))
        clear ho22
        obtain ⟨y6, z6⟩ : w22.cell? ⟨b3, 3, none⟩ = some (.slice A2 n2 c2) ∧ w22.frozen? ⟨b3, 3, none⟩ = false := cell_at HK3.out rfl
        go_wp2_with (first | (refine wpl_load rfl 63 (.tmp 8) rfl b8 rfl HK8.out stP (by simp [lenP HTcP.out]) ?_) | (refine wpl_slice rfl 37 63 1 _ rfl (some 77) rfl Tryd.underlying37 cP.toArray (built19 (lenP HTcP.out)) ?_))
        refine ⟨fun w23 b77 HK77 ho23 ha77 hb77 => ?_⟩
        have hs23 := ho23.out.size
        replace HW : Hid (OnlyB b w w23) := Lib.hid (HW.out.then_ ho23.out (fun _ _ h => h.elim))
        replace HR := Lib.hid (HR.out.only ho23.out (fun h => h))
        replace HK2 := Lib.hid (ho23.out.heap HK2.out (fun h => h))
        replace HK3 := Lib.hid (ho23.out.heap HK3.out (fun h => h))
        replace HLP := Lib.hid (HLP.out.only ho23.out (fun _ h => h.elim))
        replace HL := Lib.hid (HL.out.only ho23.out (fun _ _ h => h.elim))
        replace HTcP := Lib.hid (HTcP.out.only ho23.out (fun _ h => h.elim))
        replace HK8 := Lib.hid (ho23.out.heap HK8.out (fun h => h))
        clear ho23
        clear y6 z6
        go_wp2_with (refine wpl_push rfl (.tmp 75) (.tmp 77) 37 rfl elP rfl HL.out rfl HK77.out (lenP HTcP.out) (oneP HTcP.out) HTcP.out (by omega) (by omega) (fun k hk => by have := HLLT.out k hk; omega) (by omega) (by omega) (by omega) ?_)
        refine ⟨fun A3 c3 w24 HLn ho24 => ?_⟩
        have hs24 := ho24.out.size
        clear HL HTcP
        clear HK8
        clear HK77
        replace HW : Hid (OnlyB b w w24) := Lib.hid (HW.out.then_ ho24.out (fun i hi (h : w19.heap.size ≤ i) => by omega))
        replace HR := Lib.hid (HR.out.only ho24.out (by omega))
        replace HK2 := Lib.hid (ho24.out.heap HK2.out (by omega))
        replace HK3 := Lib.hid (ho24.out.heap HK3.out (by omega))
        replace HLP := Lib.hid (HLP.out.only ho24.out (fun i (h : w19.heap.size ≤ i) => by omega))
        clear ho24
        have HL := HLn
        clear HLn
        go_wp2_with (refine wpl_set rfl 37 (.tmp 79) (.tmp 78) rfl b3 3 rfl (v := .slice A3 (n2 + 1) c3) rfl Tryd.sizeOf37 rfl rfl HK3.out (by simp) ?_)
        clear HK3
        refine ⟨fun w25 HK3 ho25 => ?_⟩
        have hs25 := ho25.out.size
        replace HK3 : Hid (w25.heap[b3]? = some (.cells #[.string (bstr nm), .int .i64 (at_ : Int), .slice A1 (n + 1) c1n, .slice A3 (n2 + 1) c3, .slice none 0 0] _)) := HK3
        replace HW : Hid (OnlyB b w w25) := Lib.hid (HW.out.then_ ho25.out (fun i hi (h : i = b3) => by omega))
        replace HR := Lib.hid (HR.out.only ho25.out (by omega))
        replace HK2 := Lib.hid (ho25.out.heap HK2.out (by omega))
        replace HLP := Lib.hid (HLP.out.only ho25.out (fun i (h : i = b3) => by omega))
        replace HL := Lib.hid (HL.out.only ho25.out (fun i hi (h : i = b3) => by omega))
        clear ho25
        go_wp2_with fail
        refine (accept_any HR.out _).mono ?_
        rintro e w26 ⟨om, m26, rfl, hr, ho, hy, hn⟩
        replace HR := Lib.hid hr
        have HOx := Lib.hid ho
        have hs26 := HOx.out.size
        clear hr ho
        replace HW : Hid (OnlyB b w w26) := Lib.hid (HW.out.then_ HOx.out (fun _ _ h => h))
        replace HK2 := Lib.hid (HOx.out.heap HK2.out (by omega))
        replace HK3 := Lib.hid (HOx.out.heap HK3.out (by omega))
        replace HLP := Lib.hid (HLP.out.only HOx.out (fun i (h : i = b) => by omega))
        replace HL := Lib.hid (HL.out.only HOx.out (fun i hi (h : i = b) => by omega))
        clear HOx
        have hac : m26 ≤ m21 := by cases om with
         | true => exact Nat.le_of_lt (hy rfl).2
         | false => exact Nat.le_of_eq (hn rfl)
        clear hy hn
        go_wp2_with fail
        have hlt9 : m26 < gk := by have := HM21.out; omega
        go_roundg m26
        case measure => omega
        case rel => exact ⟨_, A3, n2 + 1, c3, _, rfl, Lib.hid ⟨HR.out, HW.out, HK2.out, HK3.out, HLP.out, HL.out, by omega, by omega, by have := HTX2.out; have := HM21.out; have := catQ_snoc_len T2 n2 tP; omega, by omega⟩⟩
      ·
       have hci : ((codex : Int) == 0) = false := by rw [beq_eq_false_iff_ne]; omega
       clear hc HF
       cases cl2 with
       | true =>
        go_wp2_with fail
        clear y7 z7
        go_wp2_with fail
        refine (must_any HR.out _).mono ?_
        rintro e w21 ⟨rfl, m21, hr, ho, hm⟩
        have hle21 : m21 ≤ gk := by omega
        have HM21 := Lib.hid hm
        clear hm
        replace HR := Lib.hid hr
        have HOx := Lib.hid ho
        have hs21 := HOx.out.size
        clear hr ho
        replace HW : Hid (OnlyB b w w21) := Lib.hid (HW.out.then_ HOx.out (fun _ _ h => h))
        replace HK2 := Lib.hid (HOx.out.heap HK2.out (by omega))
        replace HK3 := Lib.hid (HOx.out.heap HK3.out (by omega))
        replace HLP := Lib.hid (HLP.out.only HOx.out (fun i (h : i = b) => by omega))
        replace HL := Lib.hid (HL.out.only HOx.out (fun i hi (h : i = b) => by omega))
        clear HOx
        go_wp2_with fail
        refine (must_any HR.out _).mono ?_
        rintro e w22 ⟨rfl, m22, hr, ho, hm⟩
        have hle22 : m22 ≤ m21 := by omega
        have HM22 := Lib.hid hm
        clear hm
        replace HR := Lib.hid hr
        have HOx := Lib.hid ho
        have hs22 := HOx.out.size
        clear hr ho
        replace HW : Hid (OnlyB b w w22) := Lib.hid (HW.out.then_ HOx.out (fun _ _ h => h))
        replace HK2 := Lib.hid (HOx.out.heap HK2.out (by omega))
        replace HK3 := Lib.hid (HOx.out.heap HK3.out (by omega))
        replace HLP := Lib.hid (HLP.out.only HOx.out (fun i (h : i = b) => by omega))
        replace HL := Lib.hid (HL.out.only HOx.out (fun i hi (h : i = b) => by omega))
        clear HOx
        go_wp2_with fail
        refine (items_any _ HR.out).mono ?_
        rintro e w23 ⟨AI, ni, ci, TI, m23, rfl, hr, ho, ht, hni, hle23, hm⟩
        have HM23 := Lib.hid hm
        have HLI := Lib.hid ht
        clear hm ht
        replace HR := Lib.hid hr
        have HOx := Lib.hid ho
        have hs23 := HOx.out.size
        clear hr ho
        replace HW : Hid (OnlyB b w w23) := Lib.hid (HW.out.then_ HOx.out (fun _ _ h => h))
        replace HK2 := Lib.hid (HOx.out.heap HK2.out (by omega))
        replace HK3 := Lib.hid (HOx.out.heap HK3.out (by omega))
        replace HLP := Lib.hid (HLP.out.only HOx.out (fun i (h : i = b) => by omega))
        replace HL := Lib.hid (HL.out.only HOx.out (fun i hi (h : i = b) => by omega))
        clear HOx
        go_wp2_with (refine wpl_set rfl 38 (.tmp 90) (.tmp 89) rfl b3 4 rfl (v := .slice AI ni ci) rfl Tryd.sizeOf38 rfl rfl HK3.out (by simp) ?_)
        clear HK3
        refine ⟨fun w24 HK3 ho24 => ?_⟩
        have hs24 := ho24.out.size
        replace HK3 : Hid (w24.heap[b3]? = some (.cells #[.string (bstr nm), .int .i64 (at_ : Int), .slice A1 (n + 1) c1n, .slice A2 n2 c2, .slice AI ni ci] _)) := HK3
        replace HW : Hid (OnlyB b w w24) := Lib.hid (HW.out.then_ ho24.out (fun i hi (h : i = b3) => by omega))
        replace HR := Lib.hid (HR.out.only ho24.out (by omega))
        replace HK2 := Lib.hid (ho24.out.heap HK2.out (by omega))
        replace HLP := Lib.hid (HLP.out.only ho24.out (fun i (h : i = b3) => by omega))
        replace HL := Lib.hid (HL.out.only ho24.out (fun i hi (h : i = b3) => by omega))
        replace HLI := Lib.hid (HLI.out.only ho24.out (fun i (h : i = b3) => by omega))
        clear ho24
        go_wp2_with fail
        refine (must_any HR.out _).mono ?_
        rintro e w25 ⟨rfl, m25, hr, ho, hm⟩
        have hle25 : m25 ≤ m23 := by omega
        have HM25 := Lib.hid hm
        clear hm
        replace HR := Lib.hid hr
        have HOx := Lib.hid ho
        have hs25 := HOx.out.size
        clear hr ho
        replace HW : Hid (OnlyB b w w25) := Lib.hid (HW.out.then_ HOx.out (fun _ _ h => h))
        replace HK2 := Lib.hid (HOx.out.heap HK2.out (by omega))
        replace HK3 := Lib.hid (HOx.out.heap HK3.out (by omega))
        replace HLP := Lib.hid (HLP.out.only HOx.out (fun i (h : i = b) => by omega))
        replace HL := Lib.hid (HL.out.only HOx.out (fun i hi (h : i = b) => by omega))
        replace HLI := Lib.hid (HLI.out.only HOx.out (fun i (h : i = b) => by omega))
        clear HOx
        go_wp2_with (first | (refine wpl_load rfl 40 (.tmp 3) rfl b3 rfl HK3.out stM rfl ?_) | (refine wpl_store rfl 40 (.tmp 2) (.tmp 93) rfl b2 rfl (cells := #[.string (bstr nm), .int .i64 (at_ : Int), .slice A1 (n + 1) c1n, .slice A2 n2 c2, .slice AI ni ci]) rfl HK2.out stM rfl rfl (ones rfl) ?_))
        clear HK2
        refine ⟨fun w26 HK2 ho26 => ?_⟩
        have hs26 := ho26.out.size
        replace HW : Hid (OnlyB b w w26) := Lib.hid (HW.out.then_ ho26.out (fun i hi (h : i = b2) => by omega))
        replace HR := Lib.hid (HR.out.only ho26.out (by omega))
        replace HK3 := Lib.hid (ho26.out.heap HK3.out (by omega))
        replace HLP := Lib.hid (HLP.out.only ho26.out (fun i (h : i = b2) => by omega))
        replace HL := Lib.hid (HL.out.only ho26.out (fun i hi (h : i = b2) => by omega))
        replace HLI := Lib.hid (HLI.out.only ho26.out (fun i (h : i = b2) => by omega))
        clear ho26
        go_wp2_with fail
        exact bodyPost_ret (ret_box rfl _ rfl HK2.out stM rfl) rfl ⟨[.string (bstr nm), .int .i64 (at_ : Int), .slice A1 (n + 1) c1n, .slice A2 n2 c2, .slice AI ni ci], _, m25, rfl, HR.out, HW.out, trm_mk (TP := T1) (TQ := T2) (TI := TI) (by omega) (HLP.out.wide (by omega) (by omega)) (HL.out.done.wide (by omega) (by omega)) (HLI.out.wide (by omega) (by omega)) ⟨by omega, by omega, by omega⟩, by have := HM3.out; have := HM4.out; have := HTXP.out; have := HM18.out; have := HM19.out; have := HTX2.out; have := HM21.out; have := HM22.out; have := HM23.out; have := HM25.out; have h9 := modL_len nm (n + 1) (fun i => parT i (T1 i)) n2 (fun i => portT i (T2 i)) ni TI; simp only [KK] at *; omega⟩
       | false =>
        go_wp2_with fail
        clear y7 z7
        go_wp2_with fail
        refine (must_any HR.out _).mono ?_
        rintro e w21 ⟨rfl, m21, hr, ho, hm⟩
        have hle21 : m21 ≤ gk := by omega
        have HM21 := Lib.hid hm
        clear hm
        replace HR := Lib.hid hr
        have HOx := Lib.hid ho
        have hs21 := HOx.out.size
        clear hr ho
        replace HW : Hid (OnlyB b w w21) := Lib.hid (HW.out.then_ HOx.out (fun _ _ h => h))
        replace HK2 := Lib.hid (HOx.out.heap HK2.out (by omega))
        replace HK3 := Lib.hid (HOx.out.heap HK3.out (by omega))
        replace HLP := Lib.hid (HLP.out.only HOx.out (fun i (h : i = b) => by omega))
        replace HL := Lib.hid (HL.out.only HOx.out (fun i hi (h : i = b) => by omega))
        clear HOx
        go_wp2_with fail
        refine (must_any HR.out _).mono ?_
        rintro e w22 ⟨rfl, m22, hr, ho, hm⟩
        have hle22 : m22 ≤ m21 := by omega
        have HM22 := Lib.hid hm
        clear hm
        replace HR := Lib.hid hr
        have HOx := Lib.hid ho
        have hs22 := HOx.out.size
        clear hr ho
        replace HW : Hid (OnlyB b w w22) := Lib.hid (HW.out.then_ HOx.out (fun _ _ h => h))
        replace HK2 := Lib.hid (HOx.out.heap HK2.out (by omega))
        replace HK3 := Lib.hid (HOx.out.heap HK3.out (by omega))
        replace HLP := Lib.hid (HLP.out.only HOx.out (fun i (h : i = b) => by omega))
        replace HL := Lib.hid (HL.out.only HOx.out (fun i hi (h : i = b) => by omega))
        clear HOx
        go_wp2_with fail
        refine (items_any _ HR.out).mono ?_
        rintro e w23 ⟨AI, ni, ci, TI, m23, rfl, hr, ho, ht, hni, hle23, hm⟩
        have HM23 := Lib.hid hm
        have HLI := Lib.hid ht
        clear hm ht
        replace HR := Lib.hid hr
        have HOx := Lib.hid ho
        have hs23 := HOx.out.size
        clear hr ho
        replace HW : Hid (OnlyB b w w23) := Lib.hid (HW.out.then_ HOx.out (fun _ _ h => h))
        replace HK2 := Lib.hid (HOx.out.heap HK2.out (by omega))
        replace HK3 := Lib.hid (HOx.out.heap HK3.out (by omega))
        replace HLP := Lib.hid (HLP.out.only HOx.out (fun i (h : i = b) => by omega))
        replace HL := Lib.hid (HL.out.only HOx.out (fun i hi (h : i = b) => by omega))
        clear HOx
        go_wp2_with (refine wpl_set rfl 38 (.tmp 90) (.tmp 89) rfl b3 4 rfl (v := .slice AI ni ci) rfl Tryd.sizeOf38 rfl rfl HK3.out (by simp) ?_)
        clear HK3
        refine ⟨fun w24 HK3 ho24 => ?_⟩
        have hs24 := ho24.out.size
        replace HK3 : Hid (w24.heap[b3]? = some (.cells #[.string (bstr nm), .int .i64 (at_ : Int), .slice A1 (n + 1) c1n, .slice A2 n2 c2, .slice AI ni ci] _)) := HK3
        replace HW : Hid (OnlyB b w w24) := Lib.hid (HW.out.then_ ho24.out (fun i hi (h : i = b3) => by omega))
        replace HR := Lib.hid (HR.out.only ho24.out (by omega))
        replace HK2 := Lib.hid (ho24.out.heap HK2.out (by omega))
        replace HLP := Lib.hid (HLP.out.only ho24.out (fun i (h : i = b3) => by omega))
        replace HL := Lib.hid (HL.out.only ho24.out (fun i hi (h : i = b3) => by omega))
        replace HLI := Lib.hid (HLI.out.only ho24.out (fun i (h : i = b3) => by omega))
        clear ho24
        go_wp2_with fail
        refine (must_any HR.out _).mono ?_
        rintro e w25 ⟨rfl, m25, hr, ho, hm⟩
        have hle25 : m25 ≤ m23 := by omega
        have HM25 := Lib.hid hm
        clear hm
        replace HR := Lib.hid hr
        have HOx := Lib.hid ho
        have hs25 := HOx.out.size
        clear hr ho
        replace HW : Hid (OnlyB b w w25) := Lib.hid (HW.out.then_ HOx.out (fun _ _ h => h))
        replace HK2 := Lib.hid (HOx.out.heap HK2.out (by omega))
        replace HK3 := Lib.hid (HOx.out.heap HK3.out (by omega))
        replace HLP := Lib.hid (HLP.out.only HOx.out (fun i (h : i = b) => by omega))
        replace HL := Lib.hid (HL.out.only HOx.out (fun i hi (h : i = b) => by omega))
        replace HLI := Lib.hid (HLI.out.only HOx.out (fun i (h : i = b) => by omega))
        clear HOx
        go_wp2_with (first | (refine wpl_load rfl 40 (.tmp 3) rfl b3 rfl HK3.out stM rfl ?_) | (refine wpl_store rfl 40 (.tmp 2) (.tmp 93) rfl b2 rfl (cells := #[.string (bstr nm), .int .i64 (at_ : Int), .slice A1 (n + 1) c1n, .slice A2 n2 c2, .slice AI ni ci]) rfl HK2.out stM rfl rfl (ones rfl) ?_))
        clear HK2
        refine ⟨fun w26 HK2 ho26 => ?_⟩
        have hs26 := ho26.out.size
        replace HW : Hid (OnlyB b w w26) := Lib.hid (HW.out.then_ ho26.out (fun i hi (h : i = b2) => by omega))
        replace HR := Lib.hid (HR.out.only ho26.out (by omega))
        replace HK3 := Lib.hid (ho26.out.heap HK3.out (by omega))
        replace HLP := Lib.hid (HLP.out.only ho26.out (fun i (h : i = b2) => by omega))
        replace HL := Lib.hid (HL.out.only ho26.out (fun i hi (h : i = b2) => by omega))
        replace HLI := Lib.hid (HLI.out.only ho26.out (fun i (h : i = b2) => by omega))
        clear ho26
        go_wp2_with fail
        exact bodyPost_ret (ret_box rfl _ rfl HK2.out stM rfl) rfl ⟨[.string (bstr nm), .int .i64 (at_ : Int), .slice A1 (n + 1) c1n, .slice A2 n2 c2, .slice AI ni ci], _, m25, rfl, HR.out, HW.out, trm_mk (TP := T1) (TQ := T2) (TI := TI) (by omega) (HLP.out.wide (by omega) (by omega)) (HL.out.done.wide (by omega) (by omega)) (HLI.out.wide (by omega) (by omega)) ⟨by omega, by omega, by omega⟩, by have := HM3.out; have := HM4.out; have := HTXP.out; have := HM18.out; have := HM19.out; have := HTX2.out; have := HM21.out; have := HM22.out; have := HM23.out; have := HM25.out; have h9 := modL_len nm (n + 1) (fun i => parT i (T1 i)) n2 (fun i => portT i (T2 i)) ni TI; simp only [KK] at *; omega⟩
   ·
    have hci : ((codex : Int) == 0) = false := by rw [beq_eq_false_iff_ne]; omega
    clear hc HF
    have HL := HL0
    clear HL0
    go_wp2_with fail
    clear y7 z7
    have HTXP : Hid (go = 0 ∨ (go < m ∧ (catL (fun i => parT i (T i)) n).length + 60 * go + 60 ≤ 60 * m)) := Lib.hid (by exact HTX.out)
    have HLP := Lib.hid HL.out.done
    clear HL
    go_wp2_with fail
    refine (must_any HR.out _).mono ?_
    rintro e w8 ⟨rfl, m8, hr, ho, hm⟩
    have hle8 : m8 ≤ go := by omega
    have HM8 := Lib.hid hm
    clear hm
    replace HR := Lib.hid hr
    have HOx := Lib.hid ho
    have hs8 := HOx.out.size
    clear hr ho
    replace HW : Hid (OnlyB b w w8) := Lib.hid (HW.out.then_ HOx.out (fun _ _ h => h))
    replace HK2 := Lib.hid (HOx.out.heap HK2.out (by omega))
    replace HK3 := Lib.hid (HOx.out.heap HK3.out (by omega))
    replace HLP := Lib.hid (HLP.out.only HOx.out (fun i (h : i = b) => by omega))
    clear HOx
    go_wp2_with fail
    refine (must_any HR.out _).mono ?_
    rintro e w9 ⟨rfl, m9, hr, ho, hm⟩
    have hle9 : m9 ≤ m8 := by omega
    have HM9 := Lib.hid hm
    clear hm
    replace HR := Lib.hid hr
    have HOx := Lib.hid ho
    have hs9 := HOx.out.size
    clear hr ho
    replace HW : Hid (OnlyB b w w9) := Lib.hid (HW.out.then_ HOx.out (fun _ _ h => h))
    replace HK2 := Lib.hid (HOx.out.heap HK2.out (by omega))
    replace HK3 := Lib.hid (HOx.out.heap HK3.out (by omega))
    replace HLP := Lib.hid (HLP.out.only HOx.out (fun i (h : i = b) => by omega))
    clear HOx
    go_wp2_with fail
    refine (is_any HR.out _).mono ?_
    rintro e w10 ⟨cl, rfl, hwe, hik⟩
    obtain rfl := hwe.symm
    clear hik
    go_wp2_with fail
    have hgm0 : m9 ≤ m := by omega
    have H1 : Hid (MqI s b m w w7.heap.size wo.heap.size w9.heap.size b2 b3 at_ nm A n c T m9 m9 w9 none 0 0 (fun _ => ((false, false, (false, [], []), []) : PoT))) := Lib.hid ⟨HR.out, HW.out, HK2.out, HK3.out, HLP.out, Ls.nil, by omega, by omega, by simp only [catL, List.length_nil]; omega, by omega⟩
    clear HR HW HK2 HK3 HLP
    go_loopg [7] m9 (fun g v7 wr => ∃ cl Aq nq cq Tq, v7 = .bool cl ∧ Hid (MqI s b m w w7.heap.size wo.heap.size w9.heap.size b2 b3 at_ nm A n c T m9 g wr Aq nq cq Tq))
    case atStart => exact ⟨_, _, _, _, _, rfl, H1⟩
    case round =>
     clear H1
     obtain ⟨cl2, A2, n2, c2, T2, rfl, HB⟩ := hrel
     have HR := Lib.hid HB.out.rd
     have HW := Lib.hid HB.out.ol
     have HK2 := Lib.hid HB.out.k2
     have HK3 := Lib.hid HB.out.k3
     have HLP := Lib.hid HB.out.lp
     have HL := Lib.hid HB.out.ls
     have hnn2 := HB.out.nn
     have hgm2 := HB.out.gm
     have HTX2 := Lib.hid HB.out.tx
     have hsr2 := HB.out.sz
     clear HB
     obtain ⟨kdx, at_x, wdx, Tx, numx, qx, codex, fatx, hrf⟩ := HR.out
     have HFx := Lib.hid hrf
     clear hrf
     have HF := HFx
     clear HFx
     obtain ⟨y7, z7⟩ := HF.out.c7
     by_cases hc : codex = 0
     ·
      subst hc
      have hg0 : 0 < gk := by rw [HF.out.hm]; exact rdM_pos
      clear HF
      cases cl2 with
      | true =>
       go_wp2_with fail
       clear y7 z7
       go_wp2_with fail
       refine (must_any HR.out _).mono ?_
       rintro e w11 ⟨rfl, m11, hr, ho, hm⟩
       have hle11 : m11 ≤ gk := by omega
       have HM11 := Lib.hid hm
       clear hm
       replace HR := Lib.hid hr
       have HOx := Lib.hid ho
       have hs11 := HOx.out.size
       clear hr ho
       replace HW : Hid (OnlyB b w w11) := Lib.hid (HW.out.then_ HOx.out (fun _ _ h => h))
       replace HK2 := Lib.hid (HOx.out.heap HK2.out (by omega))
       replace HK3 := Lib.hid (HOx.out.heap HK3.out (by omega))
       replace HLP := Lib.hid (HLP.out.only HOx.out (fun i (h : i = b) => by omega))
       replace HL := Lib.hid (HL.out.only HOx.out (fun i hi (h : i = b) => by omega))
       clear HOx
       go_wp2_with fail
       refine (must_any HR.out _).mono ?_
       rintro e w12 ⟨rfl, m12, hr, ho, hm⟩
       have hle12 : m12 ≤ m11 := by omega
       have HM12 := Lib.hid hm
       clear hm
       replace HR := Lib.hid hr
       have HOx := Lib.hid ho
       have hs12 := HOx.out.size
       clear hr ho
       replace HW : Hid (OnlyB b w w12) := Lib.hid (HW.out.then_ HOx.out (fun _ _ h => h))
       replace HK2 := Lib.hid (HOx.out.heap HK2.out (by omega))
       replace HK3 := Lib.hid (HOx.out.heap HK3.out (by omega))
       replace HLP := Lib.hid (HLP.out.only HOx.out (fun i (h : i = b) => by omega))
       replace HL := Lib.hid (HL.out.only HOx.out (fun i hi (h : i = b) => by omega))
       clear HOx
       go_wp2_with fail
       refine (items_any _ HR.out).mono ?_
       rintro e w13 ⟨AI, ni, ci, TI, m13, rfl, hr, ho, ht, hni, hle13, hm⟩
       have HM13 := Lib.hid hm
       have HLI := Lib.hid ht
       clear hm ht
       replace HR := Lib.hid hr
       have HOx := Lib.hid ho
       have hs13 := HOx.out.size
       clear hr ho
       replace HW : Hid (OnlyB b w w13) := Lib.hid (HW.out.then_ HOx.out (fun _ _ h => h))
       replace HK2 := Lib.hid (HOx.out.heap HK2.out (by omega))
       replace HK3 := Lib.hid (HOx.out.heap HK3.out (by omega))
       replace HLP := Lib.hid (HLP.out.only HOx.out (fun i (h : i = b) => by omega))
       replace HL := Lib.hid (HL.out.only HOx.out (fun i hi (h : i = b) => by omega))
       clear HOx
       go_wp2_with (refine wpl_set rfl 38 (.tmp 90) (.tmp 89) rfl b3 4 rfl (v := .slice AI ni ci) rfl Tryd.sizeOf38 rfl rfl HK3.out (by simp) ?_)
       clear HK3
       refine ⟨fun w14 HK3 ho14 => ?_⟩
       have hs14 := ho14.out.size
       replace HK3 : Hid (w14.heap[b3]? = some (.cells #[.string (bstr nm), .int .i64 (at_ : Int), .slice A n c, .slice A2 n2 c2, .slice AI ni ci] _)) := HK3
       replace HW : Hid (OnlyB b w w14) := Lib.hid (HW.out.then_ ho14.out (fun i hi (h : i = b3) => by omega))
       replace HR := Lib.hid (HR.out.only ho14.out (by omega))
       replace HK2 := Lib.hid (ho14.out.heap HK2.out (by omega))
       replace HLP := Lib.hid (HLP.out.only ho14.out (fun i (h : i = b3) => by omega))
       replace HL := Lib.hid (HL.out.only ho14.out (fun i hi (h : i = b3) => by omega))
       replace HLI := Lib.hid (HLI.out.only ho14.out (fun i (h : i = b3) => by omega))
       clear ho14
       go_wp2_with fail
       refine (must_any HR.out _).mono ?_
       rintro e w15 ⟨rfl, m15, hr, ho, hm⟩
       have hle15 : m15 ≤ m13 := by omega
       have HM15 := Lib.hid hm
       clear hm
       replace HR := Lib.hid hr
       have HOx := Lib.hid ho
       have hs15 := HOx.out.size
       clear hr ho
       replace HW : Hid (OnlyB b w w15) := Lib.hid (HW.out.then_ HOx.out (fun _ _ h => h))
       replace HK2 := Lib.hid (HOx.out.heap HK2.out (by omega))
       replace HK3 := Lib.hid (HOx.out.heap HK3.out (by omega))
       replace HLP := Lib.hid (HLP.out.only HOx.out (fun i (h : i = b) => by omega))
       replace HL := Lib.hid (HL.out.only HOx.out (fun i hi (h : i = b) => by omega))
       replace HLI := Lib.hid (HLI.out.only HOx.out (fun i (h : i = b) => by omega))
       clear HOx
       go_wp2_with (first | (refine wpl_load rfl 40 (.tmp 3) rfl b3 rfl HK3.out stM rfl ?_) | (refine wpl_store rfl 40 (.tmp 2) (.tmp 93) rfl b2 rfl (cells := #[.string (bstr nm), .int .i64 (at_ : Int), .slice A n c, .slice A2 n2 c2, .slice AI ni ci]) rfl HK2.out stM rfl rfl (ones rfl) ?_))
       clear HK2
       refine ⟨fun w16 HK2 ho16 => ?_⟩
       have hs16 := ho16.out.size
       replace HW : Hid (OnlyB b w w16) := Lib.hid (HW.out.then_ ho16.out (fun i hi (h : i = b2) => by omega))
       replace HR := Lib.hid (HR.out.only ho16.out (by omega))
       replace HK3 := Lib.hid (ho16.out.heap HK3.out (by omega))
       replace HLP := Lib.hid (HLP.out.only ho16.out (fun i (h : i = b2) => by omega))
       replace HL := Lib.hid (HL.out.only ho16.out (fun i hi (h : i = b2) => by omega))
       replace HLI := Lib.hid (HLI.out.only ho16.out (fun i (h : i = b2) => by omega))
       clear ho16
       go_wp2_with fail
       exact bodyPost_ret (ret_box rfl _ rfl HK2.out stM rfl) rfl ⟨[.string (bstr nm), .int .i64 (at_ : Int), .slice A n c, .slice A2 n2 c2, .slice AI ni ci], _, m15, rfl, HR.out, HW.out, trm_mk (TP := T) (TQ := T2) (TI := TI) (by omega) (HLP.out.wide (by omega) (by omega)) (HL.out.done.wide (by omega) (by omega)) (HLI.out.wide (by omega) (by omega)) ⟨by omega, by omega, by omega⟩, by have := HM3.out; have := HM4.out; have := HTXP.out; have := HM8.out; have := HM9.out; have := HTX2.out; have := HM11.out; have := HM12.out; have := HM13.out; have := HM15.out; have h9 := modL_len nm n (fun i => parT i (T i)) n2 (fun i => portT i (T2 i)) ni TI; simp only [KK] at *; omega⟩
      | false =>
       go_wp2_with fail
       clear y7 z7
       have HLLT := Lib.hid HL.out.lt
       refine (port_any HR).mono ?_
       rintro e w11 ⟨cP, tP, m11, rfl, hr, ho, ht, hm⟩
       have hle11 : m11 ≤ gk := by omega
       have HM11 := Lib.hid hm
       have HTcP := Lib.hid ht
       clear hm ht
       replace HR := Lib.hid hr
       have HOx := Lib.hid ho
       have hs11 := HOx.out.size
       clear hr ho
       replace HW : Hid (OnlyB b w w11) := Lib.hid (HW.out.then_ HOx.out (fun _ _ h => h))
       replace HK2 := Lib.hid (HOx.out.heap HK2.out (by omega))
       replace HK3 := Lib.hid (HOx.out.heap HK3.out (by omega))
       replace HLP := Lib.hid (HLP.out.only HOx.out (fun i (h : i = b) => by omega))
       replace HL := Lib.hid (HL.out.only HOx.out (fun i hi (h : i = b) => by omega))
       clear HOx
       go_wp2_with (refine wpl_box rfl rfl 63 rfl 8 rfl (.tmp 73) rfl rfl Tryd.zeroValue63 (cells := cP.toArray) (fun _ => rfl) (fun _ => rfl) stP (by simp [lenP HTcP.out]) rfl (by simpa using oneP HTcP.out) ?_)
       refine ⟨fun w12 b8 HK8 ho12 ha8 hb8 => ?_⟩
       have hs12 := ho12.out.size
       replace HW : Hid (OnlyB b w w12) := Lib.hid (HW.out.then_ ho12.out (fun _ _ h => h.elim))
       replace HR := Lib.hid (HR.out.only ho12.out (fun h => h))
       replace HK2 := Lib.hid (ho12.out.heap HK2.out (fun h => h))
       replace HK3 := Lib.hid (ho12.out.heap HK3.out (fun h => h))
       replace HLP := Lib.hid (HLP.out.only ho12.out (fun _ h => h.elim))
       replace HL := Lib.hid (HL.out.only ho12.out (fun _ _ h => h.elim))
       replace HTcP := Lib.hid (HTcP.out.only ho12.out (fun _ h => h.elim))
       clear ho12
       obtain ⟨y6, z6⟩ : w12.cell? ⟨b3, 3, none⟩ = some (.slice A2 n2 c2) ∧ w12.frozen? ⟨b3, 3, none⟩ = false := cell_at HK3.out rfl
       go_wp2_with (first | (refine wpl_load rfl 63 (.tmp 8) rfl b8 rfl HK8.out stP (by simp [lenP HTcP.out]) ?_) | (refine wpl_slice rfl 37 63 1 _ rfl (some 77) rfl Tryd.underlying37 cP.toArray (built19 (lenP HTcP.out)) ?_))
       refine ⟨fun w13 b77 HK77 ho13 ha77 hb77 => ?_⟩
       have hs13 := ho13.out.size
       replace HW : Hid (OnlyB b w w13) := Lib.hid (HW.out.then_ ho13.out (fun _ _ h => h.elim))
       replace HR := Lib.hid (HR.out.only ho13.out (fun h => h))
       replace HK2 := Lib.hid (ho13.out.heap HK2.out (fun h => h))
       replace HK3 := Lib.hid (ho13.out.heap HK3.out (fun h => h))
       replace HLP := Lib.hid (HLP.out.only ho13.out (fun _ h => h.elim))
       replace HL := Lib.hid (HL.out.only ho13.out (fun _ _ h => h.elim))
       replace HTcP := Lib.hid (HTcP.out.only ho13.out (fun _ h => h.elim))
       replace HK8 := Lib.hid (ho13.out.heap HK8.out (fun h => h))
       clear ho13
       clear y6 z6
       go_wp2_with (refine wpl_push rfl (.tmp 75) (.tmp 77) 37 rfl elP rfl HL.out rfl HK77.out (lenP HTcP.out) (oneP HTcP.out) HTcP.out (by omega) (by omega) (fun k hk => by have := HLLT.out k hk; omega) (by omega) (by omega) (by omega) ?_)
       refine ⟨fun A3 c3 w14 HLn ho14 => ?_⟩
       have hs14 := ho14.out.size
       clear HL HTcP
       clear HK8
       clear HK77
       replace HW : Hid (OnlyB b w w14) := Lib.hid (HW.out.then_ ho14.out (fun i hi (h : w9.heap.size ≤ i) => by omega))
       replace HR := Lib.hid (HR.out.only ho14.out (by omega))
       replace HK2 := Lib.hid (ho14.out.heap HK2.out (by omega))
       replace HK3 := Lib.hid (ho14.out.heap HK3.out (by omega))
       replace HLP := Lib.hid (HLP.out.only ho14.out (fun i (h : w9.heap.size ≤ i) => by omega))
       clear ho14
       have HL := HLn
       clear HLn
       go_wp2_with (refine wpl_set rfl 37 (.tmp 79) (.tmp 78) rfl b3 3 rfl (v := .slice A3 (n2 + 1) c3) rfl Tryd.sizeOf37 rfl rfl HK3.out (by simp) ?_)
       clear HK3
       refine ⟨fun w15 HK3 ho15 => ?_⟩
       have hs15 := ho15.out.size
       replace HK3 : Hid (w15.heap[b3]? = some (.cells #[.string (bstr nm), .int .i64 (at_ : Int), .slice A n c, .slice A3 (n2 + 1) c3, .slice none 0 0] _)) := HK3
       replace HW : Hid (OnlyB b w w15) := Lib.hid (HW.out.then_ ho15.out (fun i hi (h : i = b3) => by omega))
       replace HR := Lib.hid (HR.out.only ho15.out (by omega))
       replace HK2 := Lib.hid (ho15.out.heap HK2.out (by omega))
       replace HLP := Lib.hid (HLP.out.only ho15.out (fun i (h : i = b3) => by omega))
       replace HL := Lib.hid (HL.out.only ho15.out (fun i hi (h : i = b3) => by omega))
       clear ho15
       go_wp2_with fail
       refine (accept_any HR.out _).mono ?_
       rintro e w16 ⟨om, m16, rfl, hr, ho, hy, hn⟩
       replace HR := Lib.hid hr
       have HOx := Lib.hid ho
       have hs16 := HOx.out.size
       clear hr ho
       replace HW : Hid (OnlyB b w w16) := Lib.hid (HW.out.then_ HOx.out (fun _ _ h => h))
       replace HK2 := Lib.hid (HOx.out.heap HK2.out (by omega))
       replace HK3 := Lib.hid (HOx.out.heap HK3.out (by omega))
       replace HLP := Lib.hid (HLP.out.only HOx.out (fun i (h : i = b) => by omega))
       replace HL := Lib.hid (HL.out.only HOx.out (fun i hi (h : i = b) => by omega))
       clear HOx
       have hac : m16 ≤ m11 := by cases om with
        | true => exact Nat.le_of_lt (hy rfl).2
        | false => exact Nat.le_of_eq (hn rfl)
       clear hy hn
       go_wp2_with fail
       have hlt9 : m16 < gk := by have := HM11.out; omega
       go_roundg m16
       case measure => omega
       case rel => exact ⟨_, A3, n2 + 1, c3, _, rfl, Lib.hid ⟨HR.out, HW.out, HK2.out, HK3.out, HLP.out, HL.out, by omega, by omega, by have := HTX2.out; have := HM11.out; have := catQ_snoc_len T2 n2 tP; omega, by omega⟩⟩
     ·
      have hci : ((codex : Int) == 0) = false := by rw [beq_eq_false_iff_ne]; omega
      clear hc HF
      cases cl2 with
      | true =>
       go_wp2_with fail
       clear y7 z7
       go_wp2_with fail
       refine (must_any HR.out _).mono ?_
       rintro e w11 ⟨rfl, m11, hr, ho, hm⟩
       have hle11 : m11 ≤ gk := by omega
       have HM11 := Lib.hid hm
       clear hm
       replace HR := Lib.hid hr
       have HOx := Lib.hid ho
       have hs11 := HOx.out.size
       clear hr ho
       replace HW : Hid (OnlyB b w w11) := Lib.hid (HW.out.then_ HOx.out (fun _ _ h => h))
       replace HK2 := Lib.hid (HOx.out.heap HK2.out (by omega))
       replace HK3 := Lib.hid (HOx.out.heap HK3.out (by omega))
       replace HLP := Lib.hid (HLP.out.only HOx.out (fun i (h : i = b) => by omega))
       replace HL := Lib.hid (HL.out.only HOx.out (fun i hi (h : i = b) => by omega))
       clear HOx
       go_wp2_with fail
       refine (must_any HR.out _).mono ?_
       rintro e w12 ⟨rfl, m12, hr, ho, hm⟩
       have hle12 : m12 ≤ m11 := by omega
       have HM12 := Lib.hid hm
       clear hm
       replace HR := Lib.hid hr
       have HOx := Lib.hid ho
       have hs12 := HOx.out.size
       clear hr ho
       replace HW : Hid (OnlyB b w w12) := Lib.hid (HW.out.then_ HOx.out (fun _ _ h => h))
       replace HK2 := Lib.hid (HOx.out.heap HK2.out (by omega))
       replace HK3 := Lib.hid (HOx.out.heap HK3.out (by omega))
       replace HLP := Lib.hid (HLP.out.only HOx.out (fun i (h : i = b) => by omega))
       replace HL := Lib.hid (HL.out.only HOx.out (fun i hi (h : i = b) => by omega))
       clear HOx
       go_wp2_with fail
       refine (items_any _ HR.out).mono ?_
       rintro e w13 ⟨AI, ni, ci, TI, m13, rfl, hr, ho, ht, hni, hle13, hm⟩
       have HM13 := Lib.hid hm
       have HLI := Lib.hid ht
       clear hm ht
       replace HR := Lib.hid hr
       have HOx := Lib.hid ho
       have hs13 := HOx.out.size
       clear hr ho
       replace HW : Hid (OnlyB b w w13) := Lib.hid (HW.out.then_ HOx.out (fun _ _ h => h))
       replace HK2 := Lib.hid (HOx.out.heap HK2.out (by omega))
       replace HK3 := Lib.hid (HOx.out.heap HK3.out (by omega))
       replace HLP := Lib.hid (HLP.out.only HOx.out (fun i (h : i = b) => by omega))
       replace HL := Lib.hid (HL.out.only HOx.out (fun i hi (h : i = b) => by omega))
       clear HOx
       go_wp2_with (refine wpl_set rfl 38 (.tmp 90) (.tmp 89) rfl b3 4 rfl (v := .slice AI ni ci) rfl Tryd.sizeOf38 rfl rfl HK3.out (by simp) ?_)
       clear HK3
       refine ⟨fun w14 HK3 ho14 => ?_⟩
       have hs14 := ho14.out.size
       replace HK3 : Hid (w14.heap[b3]? = some (.cells #[.string (bstr nm), .int .i64 (at_ : Int), .slice A n c, .slice A2 n2 c2, .slice AI ni ci] _)) := HK3
       replace HW : Hid (OnlyB b w w14) := Lib.hid (HW.out.then_ ho14.out (fun i hi (h : i = b3) => by omega))
       replace HR := Lib.hid (HR.out.only ho14.out (by omega))
       replace HK2 := Lib.hid (ho14.out.heap HK2.out (by omega))
       replace HLP := Lib.hid (HLP.out.only ho14.out (fun i (h : i = b3) => by omega))
       replace HL := Lib.hid (HL.out.only ho14.out (fun i hi (h : i = b3) => by omega))
       replace HLI := Lib.hid (HLI.out.only ho14.out (fun i (h : i = b3) => by omega))
       clear ho14
       go_wp2_with fail
       refine (must_any HR.out _).mono ?_
       rintro e w15 ⟨rfl, m15, hr, ho, hm⟩
       have hle15 : m15 ≤ m13 := by omega
       have HM15 := Lib.hid hm
       clear hm
       replace HR := Lib.hid hr
       have HOx := Lib.hid ho
       have hs15 := HOx.out.size
       clear hr ho
       replace HW : Hid (OnlyB b w w15) := Lib.hid (HW.out.then_ HOx.out (fun _ _ h => h))
       replace HK2 := Lib.hid (HOx.out.heap HK2.out (by omega))
       replace HK3 := Lib.hid (HOx.out.heap HK3.out (by omega))
       replace HLP := Lib.hid (HLP.out.only HOx.out (fun i (h : i = b) => by omega))
       replace HL := Lib.hid (HL.out.only HOx.out (fun i hi (h : i = b) => by omega))
       replace HLI := Lib.hid (HLI.out.only HOx.out (fun i (h : i = b) => by omega))
       clear HOx
       go_wp2_with (first | (refine wpl_load rfl 40 (.tmp 3) rfl b3 rfl HK3.out stM rfl ?_) | (refine wpl_store rfl 40 (.tmp 2) (.tmp 93) rfl b2 rfl (cells := #[.string (bstr nm), .int .i64 (at_ : Int), .slice A n c, .slice A2 n2 c2, .slice AI ni ci]) rfl HK2.out stM rfl rfl (ones rfl) ?_))
       clear HK2
       refine ⟨fun w16 HK2 ho16 => ?_⟩
       have hs16 := ho16.out.size
       replace HW : Hid (OnlyB b w w16) := Lib.hid (HW.out.then_ ho16.out (fun i hi (h : i = b2) => by omega))
       replace HR := Lib.hid (HR.out.only ho16.out (by omega))
       replace HK3 := Lib.hid (ho16.out.heap HK3.out (by omega))
       replace HLP := Lib.hid (HLP.out.only ho16.out (fun i (h : i = b2) => by omega))
       replace HL := Lib.hid (HL.out.only ho16.out (fun i hi (h : i = b2) => by omega))
       replace HLI := Lib.hid (HLI.out.only ho16.out (fun i (h : i = b2) => by omega))
       clear ho16
       go_wp2_with fail
       exact bodyPost_ret (ret_box rfl _ rfl HK2.out stM rfl) rfl ⟨[.string (bstr nm), .int .i64 (at_ : Int), .slice A n c, .slice A2 n2 c2, .slice AI ni ci], _, m15, rfl, HR.out, HW.out, trm_mk (TP := T) (TQ := T2) (TI := TI) (by omega) (HLP.out.wide (by omega) (by omega)) (HL.out.done.wide (by omega) (by omega)) (HLI.out.wide (by omega) (by omega)) ⟨by omega, by omega, by omega⟩, by have := HM3.out; have := HM4.out; have := HTXP.out; have := HM8.out; have := HM9.out; have := HTX2.out; have := HM11.out; have := HM12.out; have := HM13.out; have := HM15.out; have h9 := modL_len nm n (fun i => parT i (T i)) n2 (fun i => portT i (T2 i)) ni TI; simp only [KK] at *; omega⟩
      | false =>
       go_wp2_with fail
       clear y7 z7
       go_wp2_with fail
       refine (must_any HR.out _).mono ?_
       rintro e w11 ⟨rfl, m11, hr, ho, hm⟩
       have hle11 : m11 ≤ gk := by omega
       have HM11 := Lib.hid hm
       clear hm
       replace HR := Lib.hid hr
       have HOx := Lib.hid ho
       have hs11 := HOx.out.size
       clear hr ho
       replace HW : Hid (OnlyB b w w11) := Lib.hid (HW.out.then_ HOx.out (fun _ _ h => h))
       replace HK2 := Lib.hid (HOx.out.heap HK2.out (by omega))
       replace HK3 := Lib.hid (HOx.out.heap HK3.out (by omega))
       replace HLP := Lib.hid (HLP.out.only HOx.out (fun i (h : i = b) => by omega))
       replace HL := Lib.hid (HL.out.only HOx.out (fun i hi (h : i = b) => by omega))
       clear HOx
       go_wp2_with fail
       refine (must_any HR.out _).mono ?_
       rintro e w12 ⟨rfl, m12, hr, ho, hm⟩
       have hle12 : m12 ≤ m11 := by omega
       have HM12 := Lib.hid hm
       clear hm
       replace HR := Lib.hid hr
       have HOx := Lib.hid ho
       have hs12 := HOx.out.size
       clear hr ho
       replace HW : Hid (OnlyB b w w12) := Lib.hid (HW.out.then_ HOx.out (fun _ _ h => h))
       replace HK2 := Lib.hid (HOx.out.heap HK2.out (by omega))
       replace HK3 := Lib.hid (HOx.out.heap HK3.out (by omega))
       replace HLP := Lib.hid (HLP.out.only HOx.out (fun i (h : i = b) => by omega))
       replace HL := Lib.hid (HL.out.only HOx.out (fun i hi (h : i = b) => by omega))
       clear HOx
       go_wp2_with fail
       refine (items_any _ HR.out).mono ?_
       rintro e w13 ⟨AI, ni, ci, TI, m13, rfl, hr, ho, ht, hni, hle13, hm⟩
       have HM13 := Lib.hid hm
       have HLI := Lib.hid ht
       clear hm ht
       replace HR := Lib.hid hr
       have HOx := Lib.hid ho
       have hs13 := HOx.out.size
       clear hr ho
       replace HW : Hid (OnlyB b w w13) := Lib.hid (HW.out.then_ HOx.out (fun _ _ h => h))
       replace HK2 := Lib.hid (HOx.out.heap HK2.out (by omega))
       replace HK3 := Lib.hid (HOx.out.heap HK3.out (by omega))
       replace HLP := Lib.hid (HLP.out.only HOx.out (fun i (h : i = b) => by omega))
       replace HL := Lib.hid (HL.out.only HOx.out (fun i hi (h : i = b) => by omega))
       clear HOx
       go_wp2_with (refine wpl_set rfl 38 (.tmp 90) (.tmp 89) rfl b3 4 rfl (v := .slice AI ni ci) rfl Tryd.sizeOf38 rfl rfl HK3.out (by simp) ?_)
       clear HK3
       refine ⟨fun w14 HK3 ho14 => ?_⟩
       have hs14 := ho14.out.size
       replace HK3 : Hid (w14.heap[b3]? = some (.cells #[.string (bstr nm), .int .i64 (at_ : Int), .slice A n c, .slice A2 n2 c2, .slice AI ni ci] _)) := HK3
       replace HW : Hid (OnlyB b w w14) := Lib.hid (HW.out.then_ ho14.out (fun i hi (h : i = b3) => by omega))
       replace HR := Lib.hid (HR.out.only ho14.out (by omega))
       replace HK2 := Lib.hid (ho14.out.heap HK2.out (by omega))
       replace HLP := Lib.hid (HLP.out.only ho14.out (fun i (h : i = b3) => by omega))
       replace HL := Lib.hid (HL.out.only ho14.out (fun i hi (h : i = b3) => by omega))
       replace HLI := Lib.hid (HLI.out.only ho14.out (fun i (h : i = b3) => by omega))
       clear ho14
       go_wp2_with fail
       refine (must_any HR.out _).mono ?_
       rintro e w15 ⟨rfl, m15, hr, ho, hm⟩
       have hle15 : m15 ≤ m13 := by omega
       have HM15 := Lib.hid hm
       clear hm
       replace HR := Lib.hid hr
       have HOx := Lib.hid ho
       have hs15 := HOx.out.size
       clear hr ho
       replace HW : Hid (OnlyB b w w15) := Lib.hid (HW.out.then_ HOx.out (fun _ _ h => h))
       replace HK2 := Lib.hid (HOx.out.heap HK2.out (by omega))
       replace HK3 := Lib.hid (HOx.out.heap HK3.out (by omega))
       replace HLP := Lib.hid (HLP.out.only HOx.out (fun i (h : i = b) => by omega))
       replace HL := Lib.hid (HL.out.only HOx.out (fun i hi (h : i = b) => by omega))
       replace HLI := Lib.hid (HLI.out.only HOx.out (fun i (h : i = b) => by omega))
       clear HOx
       go_wp2_with (first | (refine wpl_load rfl 40 (.tmp 3) rfl b3 rfl HK3.out stM rfl ?_) | (refine wpl_store rfl 40 (.tmp 2) (.tmp 93) rfl b2 rfl (cells := #[.string (bstr nm), .int .i64 (at_ : Int), .slice A n c, .slice A2 n2 c2, .slice AI ni ci]) rfl HK2.out stM rfl rfl (ones rfl) ?_))
       clear HK2
       refine ⟨fun w16 HK2 ho16 => ?_⟩
       have hs16 := ho16.out.size
       replace HW : Hid (OnlyB b w w16) := Lib.hid (HW.out.then_ ho16.out (fun i hi (h : i = b2) => by omega))
       replace HR := Lib.hid (HR.out.only ho16.out (by omega))
       replace HK3 := Lib.hid (ho16.out.heap HK3.out (by omega))
       replace HLP := Lib.hid (HLP.out.only ho16.out (fun i (h : i = b2) => by omega))
       replace HL := Lib.hid (HL.out.only ho16.out (fun i hi (h : i = b2) => by omega))
       replace HLI := Lib.hid (HLI.out.only ho16.out (fun i (h : i = b2) => by omega))
       clear ho16
       go_wp2_with fail
       exact bodyPost_ret (ret_box rfl _ rfl HK2.out stM rfl) rfl ⟨[.string (bstr nm), .int .i64 (at_ : Int), .slice A n c, .slice A2 n2 c2, .slice AI ni ci], _, m15, rfl, HR.out, HW.out, trm_mk (TP := T) (TQ := T2) (TI := TI) (by omega) (HLP.out.wide (by omega) (by omega)) (HL.out.done.wide (by omega) (by omega)) (HLI.out.wide (by omega) (by omega)) ⟨by omega, by omega, by omega⟩, by have := HM3.out; have := HM4.out; have := HTXP.out; have := HM8.out; have := HM9.out; have := HTX2.out; have := HM11.out; have := HM12.out; have := HM13.out; have := HM15.out; have h9 := modL_len nm n (fun i => parT i (T i)) n2 (fun i => portT i (T2 i)) ni TI; simp only [KK] at *; omega⟩
end Go.Proofs.YtbdcpealkllfnaaDoor
