/- The reference's AigParse, walked: the graph, or the fault. Condition: the text is shorter than 1000000000 bytes. -/
import Derived.Test.YtngjbiipgbeemaaDoorApQ
import Derived.Test.YtngjbiipgbeemaaDoorGrA
import Derived.Deep.QuietTactic
import Derived.BigQuiet
namespace Go.Proofs.YtngjbiipgbeemaaDoor
open Go.RowKit Go.Shelf Go.Deep

def RpBad (txt : List UInt8) (e : Ending) : Prop := ∃ p, BadT txt p ∧ e = .returned (.tuple #[.agg #[.int .i64 0, .slice none 0 0, .slice none 0 0, .slice none 0 0], .agg #[.int .i64 16, .int .i64 (p : Nat)]])
def RpFine (txt : List UInt8) (e : Ending) (W : World) : Prop := ∃ h A1 A2 A3 c1 c2 c3, FineT txt h ∧ e = .returned (.tuple #[.agg #[.int .i64 (h.i : Int), .slice A1 h.l c1, .slice A2 h.a c2, .slice A3 h.o c3], .agg #[.int .i64 0, .int .i64 0]]) ∧ (h.graph (linA txt [])).At W A1 A2 A3
attribute [local go_sem] Oper.semAt_some in
theorem outsW {tmps : Array Value} {W : World} {b b' : Nat} {x0 x1 x2 x3 y0 y1 : Value} (h2 : tmps[2]? = some (.pointer (some ⟨b, 0, none⟩))) (h3 : tmps[3]? = some (.pointer (some ⟨b', 0, none⟩))) (h : W.heap[b]? = some (.cells #[x0, x1, x2, x3] 28)) (h' : W.heap[b']? = some (.cells #[y0, y1] 38)) :
    (results Tryd.f11 tmps).run Tryd.prog W = .ok (.tuple #[.agg #[x0, x1, x2, x3], .agg #[y0, y1]]) W := by
  obtain ⟨⟨c0, c1, c2, c3⟩, _⟩ := box4 h
  obtain ⟨⟨d0, d1⟩, _⟩ := box2 h'
  simp [results, Tryd.f11, go_sem, h2, h3, c0, c1, c2, c3, d0, d1]
attribute [local go_sem] Oper.semAt_some in
theorem badLine_any (n : Nat) (w : World) (hn : n ≤ 2000000000) : Calls Tryd.prog 24 #[.int .i64 (n : Int)] w fun e w' => e = .returned (.agg #[.int .i64 16, .int .i64 ((n + 1 : Nat) : Int)]) ∧ Below w.heap.size w w' := by
  have hn4 := heap_alloc_new w (.cells #[.int .i64 0, .int .i64 0] 38)
  have hb4 := (Below.refl w.heap.size w).alloc (Nat.le_refl _) (.cells #[.int .i64 0, .int .i64 0] 38)
  go_enter Tryd.func24, Tryd.ntmps24
  go_upto_region 1 with (fail)
  generalize w.alloc (.cells #[.int .i64 0, .int .i64 0] 38) = w1 at *
  obtain ⟨⟨x0, x1⟩, xz⟩ := box2 hn4
  have xz0 := xz 0
  have xz1 := xz 1
  have HN := Lib.hid hn4; have HB := Lib.hid hb4
  clear xz hn4 hb4
  obtain ⟨b, hb⟩ : ∃ b, b = w.heap.size := ⟨_, rfl⟩
  rw [← hb] at x0 x1 xz0 xz1 HN ⊢
  have HBE := Lib.hid hb
  clear hb
  go_wp2_with fail
  have hk := st2_only w1 b (.int .i64 16) (.int .i64 ((n : Int) + 1))
  have hh := st2_heap HN.out (.int .i64 16) (.int .i64 ((n : Int) + 1))
  refine bodyPost_ret (v := .agg #[.int .i64 16, .int .i64 ((n : Int) + 1)]) ?_ rfl ⟨rfl, HB.out.trans (hk.below (fun k _ e => by rw [e, HBE.out]; exact Nat.le_refl _) HB.out.size)⟩
  obtain ⟨⟨c0, c1⟩, _⟩ := box2 hh
  simp [results, Tryd.f24, go_sem, c0, c1, fold2s]
theorem rows_le {LS : List (List UInt8)} {h : Hd} (hd : hd0 LS = some h) (hu : h.Upto LS h.rows) : h.rows + 1 ≤ LS.length := by
  rcases Nat.eq_zero_or_pos h.rows with e | e
  · rw [e]
    cases LS with
    | nil => cases hd
    | cons _ _ => simp
  · obtain ⟨n, hn, _⟩ := hu (h.rows - 1) (by omega)
    unfold rowN at hn
    have : h.rows - 1 + 1 < LS.length := by
      refine Classical.byContradiction (fun hc => ?_)
      rw [List.getElem?_eq_none (by omega)] at hn
      cases hn
    omega

set_option maxRecDepth 100000 in
set_option maxHeartbeats 40000000 in
theorem refParse_any (txt : List UInt8) (w : World) (hl : txt.length ≤ 1000000000) (hLl : (linA txt []).length ≤ 1000000000) (hLw : ∀ i, i < (linA txt []).length → ((linA txt []).getD i []).length ≤ 1000000000) :
    Calls Tryd.prog 11 #[.string (bstr txt)] w fun e w' => (RpBad txt e ∨ RpFine txt e w') ∧ Below w.heap.size w w' := by
  have hln : ∀ w1 : World, Calls Tryd.prog 23 #[.string (bstr txt)] w1 fun e w' => (∃ A c, e = .returned (.tuple #[.slice A (linA txt []).length c, .bool (tlA txt []).isEmpty]) ∧ LsAt w' A (linA txt [])) ∧ Below w1.heap.size w1 w' := fun w1 => lines_any txt w1 hl
  obtain ⟨s, hs⟩ : ∃ s, s = bstr txt := ⟨_, rfl⟩
  rw [← hs] at hln ⊢
  obtain ⟨LL, hLL⟩ : ∃ n, n = (linA txt []).length := ⟨_, rfl⟩
  rw [← hLL] at hln hLl hLw
  have HLL := Lib.hid hLL; have HLW := Lib.hid hLw; have HLLB := Lib.hid hLl
  obtain ⟨T, hT⟩ : ∃ T, T = (tlA txt []).isEmpty := ⟨_, rfl⟩
  rw [← hT] at hln
  have HTE := Lib.hid hT
  clear hs hLL hLw hT
  have hk2 : ((w.alloc (.cells #[.int .i64 0, .slice none 0 0, .slice none 0 0, .slice none 0 0] 28)).alloc (.cells #[.int .i64 0, .int .i64 0] 38)).heap[w.heap.size]? = some (.cells #[.int .i64 0, .slice none 0 0, .slice none 0 0, .slice none 0 0] 28) := (Below.heap_alloc _ _ _ (by simp)).trans (heap_alloc_new w _)
  have hk3 : ((w.alloc (.cells #[.int .i64 0, .slice none 0 0, .slice none 0 0, .slice none 0 0] 28)).alloc (.cells #[.int .i64 0, .int .i64 0] 38)).heap[w.heap.size + 1]? = some (.cells #[.int .i64 0, .int .i64 0] 38) := by
    have h := heap_alloc_new (w.alloc (.cells #[.int .i64 0, .slice none 0 0, .slice none 0 0, .slice none 0 0] 28)) (.cells #[.int .i64 0, .int .i64 0] 38)
    rw [World.size_alloc] at h
    exact h
  have hw0 : Below w.heap.size w ((w.alloc (.cells #[.int .i64 0, .slice none 0 0, .slice none 0 0, .slice none 0 0] 28)).alloc (.cells #[.int .i64 0, .int .i64 0] 38)) := ((Below.refl _ _).alloc (Nat.le_refl _) _).alloc (by simp) _
  have hz0 : ((w.alloc (.cells #[.int .i64 0, .slice none 0 0, .slice none 0 0, .slice none 0 0] 28)).alloc (.cells #[.int .i64 0, .int .i64 0] 38)).heap.size = w.heap.size + 2 := by simp
  go_enter Tryd.func11, Tryd.ntmps11
  go_upto_region 1 with (fail)
  generalize ((w.alloc (.cells #[.int .i64 0, .slice none 0 0, .slice none 0 0, .slice none 0 0] 28)).alloc (.cells #[.int .i64 0, .int .i64 0] 38)) = wa at *
  obtain ⟨b3, hb3⟩ : ∃ b, b = w.heap.size + 1 := ⟨_, rfl⟩
  rw [← hb3] at hk3 ⊢
  obtain ⟨b2, hb2⟩ : ∃ b, b = w.heap.size := ⟨_, rfl⟩
  rw [← hb2] at hk2 ⊢
  have HE : Hid (b2 = w.heap.size ∧ b3 = b2 + 1 ∧ wa.heap.size = b3 + 1) := Lib.hid ⟨hb2, by omega, by omega⟩
  have HK2 := Lib.hid hk2; have HK3 := Lib.hid hk3; have HW0 := Lib.hid hw0
  clear hb2 hb3 hk2 hk3 hw0 hz0
  go_wp2_with fail
  refine (hln _).mono ?_
  rintro e w1 ⟨⟨A, c, rfl, hls⟩, hb1⟩
  have HX2 := Lib.hid (heap_below hb1 HK2.out); have HX3 := Lib.hid (heap_below hb1 HK3.out); have HXB := Lib.hid (HW0.out.trans (hb1.mono HW0.out.size))
  have HLS := Lib.hid hls
  have HZ1 : Hid (b3 < w1.heap.size) := Lib.hid (by have := hb1.size; have := HE.out; omega)
  clear hln hls hb1 HK2 HK3 HW0
  have hn32 : ¬ b3 = b2 := by have := HE.out; omega
  have hn23 : ¬ b2 = b3 := by have := HE.out; omega
  by_cases hL0 : LL = 0
  · have HBD : Hid (BadT txt (0 + 1)) := Lib.hid (.inl ⟨by rw [List.eq_nil_of_length_eq_zero (show (linA txt []).length = 0 by rw [← HLL.out]; exact hL0)]; rfl, rfl⟩)
    subst hL0
    have hbl := badLine_any 0 w1 (by omega)
    rw [show ((0 : Nat) : Int) = 0 from rfl] at hbl
    go_wp2_with fail
    refine hbl.mono ?_
    rintro e wy ⟨rfl, hby⟩
    have HY2 := Lib.hid (heap_below hby HX2.out); have HY3 := Lib.hid (heap_below hby HX3.out); have HYB := Lib.hid (HXB.out.trans (hby.mono HXB.out.size))
    clear hby
    obtain ⟨⟨y0, y1, y2, y3⟩, yz⟩ := box4 HY2.out
    have yz0 := yz 0
    have yz1 := yz 1
    have yz2 := yz 2
    have yz3 := yz 3
    obtain ⟨⟨v0, v1⟩, vz⟩ := box2 HY3.out
    have vz0 := vz 0
    have vz1 := vz 1
    have HR := Lib.hid (RfI.res (w0 := w) HY2.out HY3.out HYB.out (by have := HE.out; omega) (by have := HE.out; omega) (.int .i64 0) (.slice none 0 0) (.slice none 0 0) (.slice none 0 0) (.int .i64 16) (.int .i64 (((0 + 1) : Nat) : Int)))
    clear yz vz
    go_wp2_with fail
    exact bodyPost_ret (v := .tuple #[.agg #[.int .i64 0, .slice none 0 0, .slice none 0 0, .slice none 0 0], .agg #[.int .i64 16, .int .i64 (((0 + 1) : Nat) : Int)]]) (outsW rfl rfl HR.out.1 HR.out.2.1) rfl ⟨.inl ⟨(0 + 1), HBD.out, rfl⟩, HR.out.2.2.1⟩
  · have hLp : 0 < LL := by omega
    have hlx := HLS.out.at_ (i := 0) (by rw [← HLL.out]; exact hLp)
    obtain ⟨bA, oA, rfl, x0⟩ := hlx
    rw [Nat.add_zero] at x0
    have hhd := refHeader_any 97 97 103 ((linA txt []).getD 0 []) w1 (HLW.out 0 hLp)
    have hdq : hd0 (linA txt []) = hdrB [97, 97, 103] ((linA txt []).getD 0 []) := by
      have h0 := HLL.out
      cases hq : (linA txt []) with
      | nil => rw [hq] at h0; simp at h0; omega
      | cons a b => rfl
    obtain ⟨q, hq⟩ : ∃ q, q = bstr ((linA txt []).getD 0 []) := ⟨_, rfl⟩
    rw [← hq] at x0 hhd
    rw [show bstr [97, 97, 103] = ⟨#[97, 97, 103]⟩ from rfl, ← hdq] at hhd
    obtain ⟨Q, hQ⟩ : ∃ Q, Q = hd0 (linA txt []) := ⟨_, rfl⟩
    rw [← hQ] at hhd
    have HFIT : Hid (∀ h, Q = some h → h.i + h.l + h.a < 60000 ∧ h.l ≤ 6000 ∧ h.o ≤ 60000) := Lib.hid (fun h e => hdr_fits (by rw [← hdq, ← hQ]; exact e))
    have HQ := Lib.hid hQ
    clear hdq hq hQ hL0
    cases Q with
    | none =>
      have HBD : Hid (BadT txt (0 + 1)) := Lib.hid (.inl ⟨HQ.out.symm, rfl⟩)
      go_wp2_with fail
      refine hhd.mono ?_
      rintro e w2 ⟨rfl, hb2⟩
      simp only [szV, Option.isSome_none]
      have hb4 := hb2.trans (((Below.refl w2.heap.size w2).alloc (Nat.le_refl _) (.cells #[.int .i64 0, .int .i64 0, .int .i64 0, .int .i64 0] 65)).mono hb2.size)
      replace HX2 := Lib.hid (heap_below hb4 HX2.out)
      replace HX3 := Lib.hid (heap_below hb4 HX3.out)
      replace HXB := Lib.hid (HXB.out.trans (hb4.mono HXB.out.size))
      clear hhd hb2 hb4 x0
      go_upto_region 5 with (fail)
      generalize w2.alloc (.cells #[.int .i64 0, .int .i64 0, .int .i64 0, .int .i64 0] 65) = w3 at *
      have hbl := badLine_any 0 w3 (by omega)
      rw [show ((0 : Nat) : Int) = 0 from rfl] at hbl
      go_wp2_with fail
      refine hbl.mono ?_
      rintro e wy ⟨rfl, hby⟩
      have HY2 := Lib.hid (heap_below hby HX2.out); have HY3 := Lib.hid (heap_below hby HX3.out); have HYB := Lib.hid (HXB.out.trans (hby.mono HXB.out.size))
      clear hby
      obtain ⟨⟨y0, y1, y2, y3⟩, yz⟩ := box4 HY2.out
      have yz0 := yz 0
      have yz1 := yz 1
      have yz2 := yz 2
      have yz3 := yz 3
      obtain ⟨⟨v0, v1⟩, vz⟩ := box2 HY3.out
      have vz0 := vz 0
      have vz1 := vz 1
      have HR := Lib.hid (RfI.res (w0 := w) HY2.out HY3.out HYB.out (by have := HE.out; omega) (by have := HE.out; omega) (.int .i64 0) (.slice none 0 0) (.slice none 0 0) (.slice none 0 0) (.int .i64 16) (.int .i64 (((0 + 1) : Nat) : Int)))
      clear yz vz
      go_wp2_with fail
      exact bodyPost_ret (v := .tuple #[.agg #[.int .i64 0, .slice none 0 0, .slice none 0 0, .slice none 0 0], .agg #[.int .i64 16, .int .i64 (((0 + 1) : Nat) : Int)]]) (outsW rfl rfl HR.out.1 HR.out.2.1) rfl ⟨.inl ⟨(0 + 1), HBD.out, rfl⟩, HR.out.2.2.1⟩
    | some h =>
      obtain ⟨hf1, hf2, hf3⟩ := HFIT.out h rfl
      simp only [szV, Option.isSome_some] at *
      clear HFIT
      go_wp2_with fail
      refine hhd.mono ?_
      rintro e w2 ⟨rfl, hb2⟩
      go_upto_region 8 with (fail)
      have b6' := (Below.refl w2.heap.size w2).alloc (Nat.le_refl _) (.cells #[.int .i64 (h.i : Int), .int .i64 (h.l : Int), .int .i64 (h.o : Int), .int .i64 (h.a : Int)] 65)
      have k6 := heap_alloc_new w2 (.cells #[.int .i64 (h.i : Int), .int .i64 (h.l : Int), .int .i64 (h.o : Int), .int .i64 (h.a : Int)] 65)
      have z6 : (w2.alloc (.cells #[.int .i64 (h.i : Int), .int .i64 (h.l : Int), .int .i64 (h.o : Int), .int .i64 (h.a : Int)] 65)).heap.size = w2.heap.size + 1 := by simp
      generalize w2.alloc (.cells #[.int .i64 (h.i : Int), .int .i64 (h.l : Int), .int .i64 (h.o : Int), .int .i64 (h.a : Int)] 65) = w6 at *
      have b8' := (Below.refl w6.heap.size w6).alloc (Nat.le_refl _) (.cells #[.int .i64 (h.i : Int), .slice none 0 0, .slice none 0 0, .slice none 0 0] 28)
      have k8 := heap_alloc_new w6 (.cells #[.int .i64 (h.i : Int), .slice none 0 0, .slice none 0 0, .slice none 0 0] 28)
      have z8 : (w6.alloc (.cells #[.int .i64 (h.i : Int), .slice none 0 0, .slice none 0 0, .slice none 0 0] 28)).heap.size = w6.heap.size + 1 := by simp
      generalize w6.alloc (.cells #[.int .i64 (h.i : Int), .slice none 0 0, .slice none 0 0, .slice none 0 0] 28) = w8 at *
      rw [z6] at k8
      have hb28 : Below w2.heap.size w2 w8 := b6'.trans (b8'.mono (by omega))
      have hb18 := hb2.trans (hb28.mono hb2.size)
      obtain ⟨z, hz⟩ : ∃ z, z = w8.heap.size := ⟨_, rfl⟩
      have hw12 := hb2.size
      obtain ⟨b6, hb6⟩ : ∃ b, b = w2.heap.size := ⟨_, rfl⟩
      obtain ⟨b8, hb8⟩ : ∃ b, b = w2.heap.size + 1 := ⟨_, rfl⟩
      rw [← hb8, ← hb6]
      obtain ⟨A, hA⟩ : ∃ A : Option Addr, A = some ⟨bA, oA, none⟩ := ⟨_, rfl⟩
      rw [← hA] at HLS ⊢
      have HI0 : Hid (RfI w (linA txt []) h b2 b3 b6 b8 z A none none none 0 0 0 0 0 0 w8) := Lib.hid
        ⟨heap_below hb18 HX2.out, heap_below hb18 HX3.out, by rw [hb6]; exact heap_below b8' k6, by rw [hb8]; exact k8, HLS.out.below hb18, World.ownsRow_nil _ _ _ _, World.ownsRow_nil _ _ _ _, World.ownsRow_nil _ _ _ _, HXB.out.trans (hb18.mono HXB.out.size), by omega,
          by have h1 := HE.out; have h2 := HZ1.out; omega⟩
      obtain ⟨M, hM⟩ : ∃ M, M = 2 * (1 + h.i + h.l + h.a) := ⟨_, rfl⟩
      have HMM : Hid (h.most = M) := Lib.hid hM.symm
      have hMl : M ≤ 200000 := by omega
      have hMi : (2 : Int) * (1 + (h.i : Int) + (h.l : Int) + (h.a : Int)) = (M : Int) := by omega
      obtain ⟨⟨s0, s1, s2, s3⟩, _⟩ := box4 HI0.out.sz
      clear hM hA hz hb6 hb8 b6' b8' k6 k8 z6 z8 hb28 hb18 hw12 hb2 hhd x0 HX2 HX3 HXB HZ1 HLS
      go_wp2_with fail
      clear s0 s1 s2 s3
      go_loopw [9, 11] (fun va vk wr => ∃ (k at_ : Nat), k ≤ h.i ∧ at_ ≤ 200000 ∧ va = .int .i64 at_ ∧ vk = .int .i64 k ∧ Hid (at_ = k + 1) ∧ Hid (h.Upto (linA txt []) (k)) ∧ Hid (RfI w (linA txt []) h b2 b3 b6 b8 z A none none none 0 0 0 0 0 0 wr)) (fun _ vk _ => h.i - (intOf vk).toNat)
      case atStart => exact ⟨0, 1, by omega, by omega, rfl, rfl, Lib.hid rfl, Lib.hid (fun s hs => absurd hs (Nat.not_lt_zero _)), HI0⟩
      case round =>
        obtain ⟨k, at_, hkl, hatl, rfl, rfl, HAT, HU, HI⟩ := hrel
        obtain ⟨wq, hwq⟩ : ∃ wq, wq = wr := ⟨_, rfl⟩
        subst hwq
        obtain ⟨⟨s0, s1, s2, s3⟩, _⟩ := box4 HI.out.sz
        by_cases hlt : k < h.i
        · have hrow := refRow_any (linA txt []) A c at_ 1 false wq HI.out.ls (fun i hi => HLW.out i (by rw [HLL.out]; exact hi)) (by omega)
          rw [← HLL.out, show ((1 : Nat) : Int) = 1 from rfl] at hrow
          obtain ⟨Q, hQ⟩ : ∃ Q, Q = rowR (linA txt []) at_ 1 false := ⟨_, rfl⟩
          rw [← hQ] at hrow
          rw [HAT.out] at hQ
          have HQR := Lib.hid hQ
          clear hQ
          go_wp2_with fail
          refine hrow.mono ?_
          rintro e w3 ⟨hr, hb3⟩
          have HI3 := Lib.hid (HI.out.below hb3)
          clear hrow
          rcases hr with ⟨v, rfl, rfl⟩ | ⟨v, ns, rfl, rfl, hnv⟩
          · have HBD : Hid (BadT txt (at_ + 1)) := Lib.hid (.inr ⟨h, HQ.out.symm, .inl ⟨k, by unfold Hd.rows; omega, HU.out, rin_no (by omega) (.inl HQR.out.symm), by rw [HAT.out]⟩⟩)
            clear s0 s1 s2 s3 hb3
            have HX2 := Lib.hid HI3.out.r2
            have HX3 := Lib.hid HI3.out.r3
            have HXB := Lib.hid HI3.out.bel
            go_wp2_with fail
            refine (badLine_any at_ w3 (by omega)).mono ?_
            rintro e wy ⟨rfl, hby⟩
            have HY2 := Lib.hid (heap_below hby HX2.out); have HY3 := Lib.hid (heap_below hby HX3.out); have HYB := Lib.hid (HXB.out.trans (hby.mono HXB.out.size))
            clear hby
            obtain ⟨⟨y0, y1, y2, y3⟩, yz⟩ := box4 HY2.out
            have yz0 := yz 0
            have yz1 := yz 1
            have yz2 := yz 2
            have yz3 := yz 3
            obtain ⟨⟨v0, v1⟩, vz⟩ := box2 HY3.out
            have vz0 := vz 0
            have vz1 := vz 1
            have HR := Lib.hid (RfI.res (w0 := w) HY2.out HY3.out HYB.out (by have := HE.out; omega) (by have := HE.out; omega) (.int .i64 0) (.slice none 0 0) (.slice none 0 0) (.slice none 0 0) (.int .i64 16) (.int .i64 (((at_ + 1) : Nat) : Int)))
            clear yz vz
            go_wp2_with fail
            exact bodyPost_ret (v := .tuple #[.agg #[.int .i64 0, .slice none 0 0, .slice none 0 0, .slice none 0 0], .agg #[.int .i64 16, .int .i64 (((at_ + 1) : Nat) : Int)]]) (outsW rfl rfl HR.out.1 HR.out.2.1) rfl ⟨.inl ⟨(at_ + 1), HBD.out, rfl⟩, HR.out.2.2.1⟩
          · obtain ⟨bN, oN, cN, rfl, hbN, hx⟩ := hnv
            obtain ⟨hn1, hn2⟩ := rowR_yes HQR.out.symm
            have hl1 : ns.length = 1 := by rcases hn2 with h | h; exact absurd h.1 (by simp); exact h
            have x0 : w3.cell? ⟨bN, oN, none⟩ = some (.int .i64 ((ns.getD 0 0 : Nat) : Int)) := hx 0 (by omega)
            have hp0 : 0 < ns.length := by omega
            obtain ⟨y, hy⟩ : ∃ y, y = ns.getD 0 0 := ⟨_, rfl⟩
            rw [← hy] at x0
            have HY := Lib.hid hy
            clear hx hbN hn1 hn2 hl1 hy s0 s1 s2 s3 hb3
            by_cases h0 : y = 2 * (1 + k)
            · have q1 : ((y : Int) != 2 * (1 + (k : Int))) = false := by rw [bne_eq_false_iff_eq]; omega
              have HU2 := Lib.hid (HU.out.next (rin_yes (t := k) (by omega) HQR.out.symm (by rw [← HY.out]; exact h0)))
              clear h0
              go_wp2_with fail
              exact ⟨⟨k + 1, at_ + 1, by omega, by have := HAT.out; omega, by simp, by simp, Lib.hid (by rw [HAT.out]), HU2, HI3⟩, by simp [intOf]; omega⟩
            · have q1 : ((y : Int) != 2 * (1 + (k : Int))) = true := by rw [bne_iff_ne]; omega
              have HBD : Hid (BadT txt (at_ + 1)) := Lib.hid (.inr ⟨h, HQ.out.symm, .inl ⟨k, by unfold Hd.rows; omega, HU.out, rin_no (by omega) (.inr ⟨ns, HQR.out.symm, by rw [← HY.out]; exact h0⟩), by rw [HAT.out]⟩⟩)
              clear h0
              have HX2 := Lib.hid HI3.out.r2
              have HX3 := Lib.hid HI3.out.r3
              have HXB := Lib.hid HI3.out.bel
              go_wp2_with fail
              refine (badLine_any at_ w3 (by omega)).mono ?_
              rintro e wy ⟨rfl, hby⟩
              have HY2 := Lib.hid (heap_below hby HX2.out); have HY3 := Lib.hid (heap_below hby HX3.out); have HYB := Lib.hid (HXB.out.trans (hby.mono HXB.out.size))
              clear hby
              obtain ⟨⟨y0, y1, y2, y3⟩, yz⟩ := box4 HY2.out
              have yz0 := yz 0
              have yz1 := yz 1
              have yz2 := yz 2
              have yz3 := yz 3
              obtain ⟨⟨v0, v1⟩, vz⟩ := box2 HY3.out
              have vz0 := vz 0
              have vz1 := vz 1
              have HR := Lib.hid (RfI.res (w0 := w) HY2.out HY3.out HYB.out (by have := HE.out; omega) (by have := HE.out; omega) (.int .i64 0) (.slice none 0 0) (.slice none 0 0) (.slice none 0 0) (.int .i64 16) (.int .i64 (((at_ + 1) : Nat) : Int)))
              clear yz vz
              go_wp2_with fail
              exact bodyPost_ret (v := .tuple #[.agg #[.int .i64 0, .slice none 0 0, .slice none 0 0, .slice none 0 0], .agg #[.int .i64 16, .int .i64 (((at_ + 1) : Nat) : Int)]]) (outsW rfl rfl HR.out.1 HR.out.2.1) rfl ⟨.inl ⟨(at_ + 1), HBD.out, rfl⟩, HR.out.2.2.1⟩
        · obtain rfl : h.i = k := by omega
          go_wp2_with fail
          clear s0 s1 s2 s3
          go_loopw [9, 14] (fun va vk wr => ∃ (k at_ : Nat) (A1 : Option Addr) (c1 : Nat), k ≤ h.l ∧ at_ ≤ 200000 ∧ va = .int .i64 at_ ∧ vk = .int .i64 k ∧ Hid (at_ = h.i + k + 1) ∧ Hid (h.Upto (linA txt []) (h.i + k)) ∧ Hid (RfI w (linA txt []) h b2 b3 b6 b8 z A A1 none none c1 0 0 k 0 0 wr)) (fun _ vk _ => h.l - (intOf vk).toNat)
          case atStart => exact ⟨0, at_, none, 0, by omega, hatl, rfl, rfl, HAT, HU, HI⟩
          case round =>
            obtain ⟨k, at_, A1, c1, hkl, hatl, rfl, rfl, HAT, HU, HI⟩ := hrel
            obtain ⟨wq, hwq⟩ : ∃ wq, wq = wr := ⟨_, rfl⟩
            subst hwq
            obtain ⟨⟨s0, s1, s2, s3⟩, _⟩ := box4 HI.out.sz
            by_cases hlt : k < h.l
            · have hrow := refRow_any (linA txt []) A c at_ 2 true wq HI.out.ls (fun i hi => HLW.out i (by rw [HLL.out]; exact hi)) (by omega)
              rw [← HLL.out, show ((2 : Nat) : Int) = 2 from rfl] at hrow
              obtain ⟨Q, hQ⟩ : ∃ Q, Q = rowR (linA txt []) at_ 2 true := ⟨_, rfl⟩
              rw [← hQ] at hrow
              rw [HAT.out] at hQ
              have HQR := Lib.hid hQ
              clear hQ
              go_wp2_with fail
              refine hrow.mono ?_
              rintro e w3 ⟨hr, hb3⟩
              have HI3 := Lib.hid (HI.out.below hb3)
              clear hrow
              rcases hr with ⟨v, rfl, rfl⟩ | ⟨v, ns, rfl, rfl, hnv⟩
              · have HBD : Hid (BadT txt (at_ + 1)) := Lib.hid (.inr ⟨h, HQ.out.symm, .inl ⟨h.i + k, by unfold Hd.rows; omega, HU.out, rla_no (by omega) (by omega) (.inl HQR.out.symm), by rw [HAT.out]⟩⟩)
                clear s0 s1 s2 s3 hb3
                go_upto_region 21 with (fail)
                go_quiet (fail)
                replace HI3 := Lib.hid (HI3.out.drewN nq)
                generalize w3.drewN nq = w4 at *
                have HI4 := HI3
                have HX2 := Lib.hid HI3.out.r2
                have HX3 := Lib.hid HI3.out.r3
                have HXB := Lib.hid HI3.out.bel
                go_wp2_with fail
                refine (badLine_any at_ w4 (by omega)).mono ?_
                rintro e wy ⟨rfl, hby⟩
                have HY2 := Lib.hid (heap_below hby HX2.out); have HY3 := Lib.hid (heap_below hby HX3.out); have HYB := Lib.hid (HXB.out.trans (hby.mono HXB.out.size))
                clear hby
                obtain ⟨⟨y0, y1, y2, y3⟩, yz⟩ := box4 HY2.out
                have yz0 := yz 0
                have yz1 := yz 1
                have yz2 := yz 2
                have yz3 := yz 3
                obtain ⟨⟨v0, v1⟩, vz⟩ := box2 HY3.out
                have vz0 := vz 0
                have vz1 := vz 1
                have HR := Lib.hid (RfI.res (w0 := w) HY2.out HY3.out HYB.out (by have := HE.out; omega) (by have := HE.out; omega) (.int .i64 0) (.slice none 0 0) (.slice none 0 0) (.slice none 0 0) (.int .i64 16) (.int .i64 (((at_ + 1) : Nat) : Int)))
                clear yz vz
                go_wp2_with fail
                exact bodyPost_ret (v := .tuple #[.agg #[.int .i64 0, .slice none 0 0, .slice none 0 0, .slice none 0 0], .agg #[.int .i64 16, .int .i64 (((at_ + 1) : Nat) : Int)]]) (outsW rfl rfl HR.out.1 HR.out.2.1) rfl ⟨.inl ⟨(at_ + 1), HBD.out, rfl⟩, HR.out.2.2.1⟩
              · obtain ⟨bN, oN, cN, rfl, hbN, hx⟩ := hnv
                have kp := Keeps.of_below hb3
                replace s0 := kp _ _ s0
                clear kp hb3 s1 s2 s3
                obtain ⟨_, hn2⟩ := rowR_yes HQR.out.symm
                have hn3 : ns.length = 2 ∨ ns.length = 3 := by rcases hn2 with h | h; exact .inr h.2.1; exact .inl h
                clear hn2
                match ns, hn3 with
                | [p, q], _ =>
                  have x0 : w3.cell? ⟨bN, oN, none⟩ = some (.int .i64 (p : Nat)) := hx 0 (by simp)
                  have x1 : w3.cell? ⟨bN, oN + 1, none⟩ = some (.int .i64 (q : Nat)) := hx 1 (by simp)
                  have ew1 : IntKind.i64.wrap (1 + (h.i : Int)) = 1 + (h.i : Int) := by rw [IntKind.wrap_i64]; omega
                  have ew2 : IntKind.i64.wrap (1 + (h.i : Int) + (k : Int)) = 1 + (h.i : Int) + (k : Int) := by rw [IntKind.wrap_i64]; omega
                  have ew3 : IntKind.i64.wrap (2 * (1 + (h.i : Int) + (k : Int))) = 2 * (1 + (h.i : Int) + (k : Int)) := by rw [IntKind.wrap_i64]; omega
                  clear hx
                  go_upto_region 21 with (fail)
                  by_cases h0 : p = 2 * (1 + (h.i + k))
                  · have q1 : ((p : Int) != 2 * (1 + (h.i : Int) + (k : Int))) = false := by rw [bne_eq_false_iff_eq]; omega
                    have H0 := Lib.hid h0
                    clear h0
                    by_cases hm : q < M
                    · have q2 : ¬ ((M : Int) ≤ (q : Int)) := by omega
                      have HVL : Hid ((h.graph (linA txt [])).L k = (q : Int) ∧ (h.graph (linA txt [])).I k = false) := Lib.hid (by
                        have e := (rowR_yes HQR.out.symm).1
                        refine ⟨by show ((numR (linA txt []) (h.i + k) 1 : Nat) : Int) = _; unfold numR; rw [e]; rfl, ?_⟩
                        show decide (((rowN (linA txt []) (h.i + k)).getD []).length = 3 ∧ numR (linA txt []) (h.i + k) 2 = 1) = _
                        unfold numR
                        rw [e]
                        simp)
                      have HU2 := Lib.hid (HU.out.next (rla_yes (t := h.i + k) (by omega) (by omega) HQR.out.symm (by have h0 := H0.out; simp; omega) (by rw [HMM.out]; exact hm)))
                      go_quiet (fail)
                      replace x1 : (w3.drewN nq).cell? ⟨bN, oN + 1, none⟩ = some (.int .i64 (q : Nat)) := x1
                      replace HI3 := Lib.hid (HI3.out.drewN nq)
                      generalize w3.drewN nq = w4 at *
                      have HI4 := HI3
                      obtain ⟨_, g1, _, _⟩ := (box4 HI4.out.g).1
                      clear x0 s0 hm q2
                      go_upto_region 23 with (fail)
                      refine wp_region_z (fun w' => w'.cell? ⟨b8, 1, none⟩ = some (.slice A1 k c1) ∧ w'.cell? ⟨bN, oN + 1, none⟩ = some (.int .i64 (q : Nat))) [0, 1, 2, 3, 4, 5, 6, 7, 8, 9, 10, 11, 12, 13, 14] [18] (by kernel_rfl) (by kernel_rfl) (by kernel_rfl) (by rfl) (fun _ _ _ _ e h => ⟨e.symm.trans h.1, h.2⟩) ⟨g1, x1⟩ ?_
                      iterate 9
                        refine Heads.step (v := ?_) rfl (by first | (go_simp; done) | rfl) (fun W hW => ?_) ?_
                        rotate_left
                        · (obtain ⟨t0, t1⟩ := hW; go_simp; try with_reducible rfl)
                      iterate 4
                        refine Heads.skip rfl (by first | (go_simp; done) | rfl) ?_
                      iterate 2
                        refine Heads.step (v := ?_) rfl (by first | (go_simp; done) | rfl) (fun W hW => ?_) ?_
                        rotate_left
                        · (obtain ⟨t0, t1⟩ := hW; go_simp; try with_reducible rfl)
                      have hbl0 : Below w4.heap.size w4 w4.drew := (Below.refl _ w4).drew
                      have kp := Keeps.of_below hbl0
                      replace g1 := kp _ _ g1
                      replace x1 := kp _ _ x1
                      replace HI4 := Lib.hid (HI4.out.below hbl0)
                      clear hbl0 kp
                      generalize w4.drew = wd at *
                      refine AnyZ.one (i := 15) (by kernel_rfl) rfl (fun K hK => ?_)
                      go_simp
                      have hbl : Below wd.heap.size wd (wd.alloc (.cells #[.int .i64 (q : Nat), .bool false] 47)) := (Below.refl _ _).alloc (Nat.le_refl _) _
                      obtain ⟨_, _, hsc⟩ := src_news wd #[.int .i64 (q : Nat), .bool false] 47 2 1 rfl (by intro u hu; simp at hu; rcases hu with rfl | rfl <;> rfl)
                      obtain ⟨ad, hae, hsc⟩ := hsc (by omega)
                      injection hae with hae; subst hae
                      have kp := Keeps.of_below hbl
                      replace g1 := kp _ _ g1
                      replace x1 := kp _ _ x1
                      have HI5 := Lib.hid (HI4.out.below hbl)
                      clear hbl kp
                      generalize wd.alloc (.cells #[.int .i64 (q : Nat), .bool false] 47) = w5 at *
                      refine hK _ _ (fun _ => ⟨g1, x1⟩) ?_
                      clear hK
                      obtain ⟨A', c', w6, hap, hown, hon⟩ := run_append_s elLt 24 HI5.out.o1 ⟨wd.heap.size, 0, none⟩ 1 [.int .i64 (q : Nat), .bool false] rfl hsc (by intro u hu; simp at hu; rcases hu with rfl | rfl <;> rfl) (by omega) HI5.out.zz
                      have hap6 := HI5.out.lat hown (by show _ = [Value.int .i64 ((h.graph (linA txt [])).L k), Value.bool ((h.graph (linA txt [])).I k)]; rw [HVL.out.1, HVL.out.2]) hon
                      have HI6 := Lib.hid hap6.2
                      have hX6 := hap6.1
                      have hA3 : ∀ b, blockOf A1 b → b < wq.heap.size := fun b hb => own_lt HI.out.o1 b hb
                      replace g1 := (box4 hX6).1.2.1
                      replace x1 := hon.cell x1 (by show ¬ blockOf A1 bN; intro hb; have := hA3 _ hb; omega)
                      clear hon hsc hA3 hown hap6
                      refine AnyZ.one (i := 16) (by kernel_rfl) rfl (fun K hK => ?_)
                      rw [if_pos (by rfl)]
                      refine wpZ_append1 (.tmp 125) (.tmp 139) 24 rfl rfl rfl hap ?_
                      go_simp
                      refine hK _ _ (fun _ => ⟨g1, x1⟩) ?_
                      clear hK hap
                      refine AnyZ.mid [17] [18] 1 rfl (by kernel_rfl) (by kernel_rfl) (by kernel_rfl) (fun _ _ _ _ e h => ⟨e.symm.trans h.1, h.2⟩) ⟨g1, x1⟩ ?_
                      iterate 1
                        refine Heads.step (v := ?_) rfl (by first | (go_simp; done) | rfl) (fun W hW => ?_) ?_
                        rotate_left
                        · (obtain ⟨t0, t1⟩ := hW; go_simp; try with_reducible rfl)
                      have z6 : w6.frozen? ⟨b8, 1, none⟩ = false := by simp [World.frozen?, hX6]
                      refine AnyZ.one (i := 18) (by kernel_rfl) rfl (fun K hK => ?_)
                      go_simp
                      refine hK _ _ (fun h => by cases h) (AnyZ.done (by kernel_rfl) ?_)
                      clear hK
                      go_simp
                      clear z6 hX6 g1 x1
                      go_wp2_with fail
                      exact ⟨⟨k + 1, at_ + 1, A', c', by omega, by have := HAT.out; omega, by simp, by simp, Lib.hid (by rw [HAT.out, Nat.add_assoc h.i]), HU2, HI6⟩, by simp [intOf]; omega⟩
                    · have q2 : (M : Int) ≤ (q : Int) := by omega
                      have HBD : Hid (BadT txt (at_ + 1)) := Lib.hid (.inr ⟨h, HQ.out.symm, .inl ⟨h.i + k, by unfold Hd.rows; omega, HU.out, rla_no (by omega) (by omega) (.inr ⟨_, HQR.out.symm, fun hc => hm (by have h1 := hc.2; rw [HMM.out] at h1; simpa using h1)⟩), by rw [HAT.out]⟩⟩)
                      go_quiet (fail)
                      replace HI3 := Lib.hid (HI3.out.drewN nq)
                      generalize w3.drewN nq = w4 at *
                      have HI4 := HI3
                      clear x0 x1 s0
                      have HX2 := Lib.hid HI3.out.r2
                      have HX3 := Lib.hid HI3.out.r3
                      have HXB := Lib.hid HI3.out.bel
                      go_wp2_with fail
                      refine (badLine_any at_ w4 (by omega)).mono ?_
                      rintro e wy ⟨rfl, hby⟩
                      have HY2 := Lib.hid (heap_below hby HX2.out); have HY3 := Lib.hid (heap_below hby HX3.out); have HYB := Lib.hid (HXB.out.trans (hby.mono HXB.out.size))
                      clear hby
                      obtain ⟨⟨y0, y1, y2, y3⟩, yz⟩ := box4 HY2.out
                      have yz0 := yz 0
                      have yz1 := yz 1
                      have yz2 := yz 2
                      have yz3 := yz 3
                      obtain ⟨⟨v0, v1⟩, vz⟩ := box2 HY3.out
                      have vz0 := vz 0
                      have vz1 := vz 1
                      have HR := Lib.hid (RfI.res (w0 := w) HY2.out HY3.out HYB.out (by have := HE.out; omega) (by have := HE.out; omega) (.int .i64 0) (.slice none 0 0) (.slice none 0 0) (.slice none 0 0) (.int .i64 16) (.int .i64 (((at_ + 1) : Nat) : Int)))
                      clear yz vz
                      go_wp2_with fail
                      exact bodyPost_ret (v := .tuple #[.agg #[.int .i64 0, .slice none 0 0, .slice none 0 0, .slice none 0 0], .agg #[.int .i64 16, .int .i64 (((at_ + 1) : Nat) : Int)]]) (outsW rfl rfl HR.out.1 HR.out.2.1) rfl ⟨.inl ⟨(at_ + 1), HBD.out, rfl⟩, HR.out.2.2.1⟩
                  · have q1 : ((p : Int) != 2 * (1 + (h.i : Int) + (k : Int))) = true := by rw [bne_iff_ne]; omega
                    have HBD : Hid (BadT txt (at_ + 1)) := Lib.hid (.inr ⟨h, HQ.out.symm, .inl ⟨h.i + k, by unfold Hd.rows; omega, HU.out, rla_no (by omega) (by omega) (.inr ⟨_, HQR.out.symm, fun hc => h0 (by have h1 := hc.1; simp at h1; omega)⟩), by rw [HAT.out]⟩⟩)
                    go_quiet (fail)
                    replace HI3 := Lib.hid (HI3.out.drewN nq)
                    generalize w3.drewN nq = w4 at *
                    have HI4 := HI3
                    clear x0 x1 s0
                    have HX2 := Lib.hid HI3.out.r2
                    have HX3 := Lib.hid HI3.out.r3
                    have HXB := Lib.hid HI3.out.bel
                    go_wp2_with fail
                    refine (badLine_any at_ w4 (by omega)).mono ?_
                    rintro e wy ⟨rfl, hby⟩
                    have HY2 := Lib.hid (heap_below hby HX2.out); have HY3 := Lib.hid (heap_below hby HX3.out); have HYB := Lib.hid (HXB.out.trans (hby.mono HXB.out.size))
                    clear hby
                    obtain ⟨⟨y0, y1, y2, y3⟩, yz⟩ := box4 HY2.out
                    have yz0 := yz 0
                    have yz1 := yz 1
                    have yz2 := yz 2
                    have yz3 := yz 3
                    obtain ⟨⟨v0, v1⟩, vz⟩ := box2 HY3.out
                    have vz0 := vz 0
                    have vz1 := vz 1
                    have HR := Lib.hid (RfI.res (w0 := w) HY2.out HY3.out HYB.out (by have := HE.out; omega) (by have := HE.out; omega) (.int .i64 0) (.slice none 0 0) (.slice none 0 0) (.slice none 0 0) (.int .i64 16) (.int .i64 (((at_ + 1) : Nat) : Int)))
                    clear yz vz
                    go_wp2_with fail
                    exact bodyPost_ret (v := .tuple #[.agg #[.int .i64 0, .slice none 0 0, .slice none 0 0, .slice none 0 0], .agg #[.int .i64 16, .int .i64 (((at_ + 1) : Nat) : Int)]]) (outsW rfl rfl HR.out.1 HR.out.2.1) rfl ⟨.inl ⟨(at_ + 1), HBD.out, rfl⟩, HR.out.2.2.1⟩
                | [p, q, r], _ =>
                  have x0 : w3.cell? ⟨bN, oN, none⟩ = some (.int .i64 (p : Nat)) := hx 0 (by simp)
                  have x1 : w3.cell? ⟨bN, oN + 1, none⟩ = some (.int .i64 (q : Nat)) := hx 1 (by simp)
                  have x2 : w3.cell? ⟨bN, oN + 2, none⟩ = some (.int .i64 (r : Nat)) := hx 2 (by simp)
                  have ew1 : IntKind.i64.wrap (1 + (h.i : Int)) = 1 + (h.i : Int) := by rw [IntKind.wrap_i64]; omega
                  have ew2 : IntKind.i64.wrap (1 + (h.i : Int) + (k : Int)) = 1 + (h.i : Int) + (k : Int) := by rw [IntKind.wrap_i64]; omega
                  have ew3 : IntKind.i64.wrap (2 * (1 + (h.i : Int) + (k : Int))) = 2 * (1 + (h.i : Int) + (k : Int)) := by rw [IntKind.wrap_i64]; omega
                  clear hx
                  go_upto_region 21 with (fail)
                  obtain ⟨bb, hbb⟩ : ∃ bb, bb = decide (r = 1) := ⟨_, rfl⟩
                  have HBB := Lib.hid hbb
                  have q3 : ((r : Int) == 1) = bb := by rw [hbb]; by_cases e : r = 1 <;> simp [e]; omega
                  clear hbb
                  by_cases h0 : p = 2 * (1 + (h.i + k))
                  · have q1 : ((p : Int) != 2 * (1 + (h.i : Int) + (k : Int))) = false := by rw [bne_eq_false_iff_eq]; omega
                    have H0 := Lib.hid h0
                    clear h0
                    by_cases hm : q < M
                    · have q2 : ¬ ((M : Int) ≤ (q : Int)) := by omega
                      have HVL : Hid ((h.graph (linA txt [])).L k = (q : Int) ∧ (h.graph (linA txt [])).I k = bb) := Lib.hid (by
                        have e := (rowR_yes HQR.out.symm).1
                        refine ⟨by show ((numR (linA txt []) (h.i + k) 1 : Nat) : Int) = _; unfold numR; rw [e]; rfl, ?_⟩
                        show decide (((rowN (linA txt []) (h.i + k)).getD []).length = 3 ∧ numR (linA txt []) (h.i + k) 2 = 1) = _
                        unfold numR
                        rw [e]
                        simp [HBB.out])
                      have HU2 := Lib.hid (HU.out.next (rla_yes (t := h.i + k) (by omega) (by omega) HQR.out.symm (by have h0 := H0.out; simp; omega) (by rw [HMM.out]; exact hm)))
                      go_quiet (fail)
                      replace x1 : (w3.drewN nq).cell? ⟨bN, oN + 1, none⟩ = some (.int .i64 (q : Nat)) := x1
                      replace x2 : (w3.drewN nq).cell? ⟨bN, oN + 2, none⟩ = some (.int .i64 (r : Nat)) := x2
                      replace HI3 := Lib.hid (HI3.out.drewN nq)
                      generalize w3.drewN nq = w4 at *
                      have HI4 := HI3
                      obtain ⟨_, g1, _, _⟩ := (box4 HI4.out.g).1
                      clear x0 s0 hm q2
                      go_upto_region 23 with (fail)
                      refine wp_region_z (fun w' => w'.cell? ⟨b8, 1, none⟩ = some (.slice A1 k c1) ∧ w'.cell? ⟨bN, oN + 1, none⟩ = some (.int .i64 (q : Nat)) ∧ w'.cell? ⟨bN, oN + 2, none⟩ = some (.int .i64 (r : Nat))) [0, 1, 2, 3, 4, 5, 6, 7, 8, 9, 10, 11, 12, 13, 14] [18] (by kernel_rfl) (by kernel_rfl) (by kernel_rfl) (by rfl) (fun _ _ _ _ e h => ⟨e.symm.trans h.1, h.2⟩) ⟨g1, x1, x2⟩ ?_
                      iterate 15
                        refine Heads.step (v := ?_) rfl (by first | (go_simp; done) | rfl) (fun W hW => ?_) ?_
                        rotate_left
                        · (obtain ⟨t0, t1, t2⟩ := hW; go_simp; try with_reducible rfl)
                      have hbl0 : Below w4.heap.size w4 w4.drew := (Below.refl _ w4).drew
                      have kp := Keeps.of_below hbl0
                      replace g1 := kp _ _ g1
                      replace x1 := kp _ _ x1
                      replace x2 := kp _ _ x2
                      replace HI4 := Lib.hid (HI4.out.below hbl0)
                      clear hbl0 kp
                      generalize w4.drew = wd at *
                      refine AnyZ.one (i := 15) (by kernel_rfl) rfl (fun K hK => ?_)
                      go_simp
                      have hbl : Below wd.heap.size wd (wd.alloc (.cells #[.int .i64 (q : Nat), .bool bb] 47)) := (Below.refl _ _).alloc (Nat.le_refl _) _
                      obtain ⟨_, _, hsc⟩ := src_news wd #[.int .i64 (q : Nat), .bool bb] 47 2 1 rfl (by intro u hu; simp at hu; rcases hu with rfl | rfl <;> rfl)
                      obtain ⟨ad, hae, hsc⟩ := hsc (by omega)
                      injection hae with hae; subst hae
                      have kp := Keeps.of_below hbl
                      replace g1 := kp _ _ g1
                      replace x1 := kp _ _ x1
                      replace x2 := kp _ _ x2
                      have HI5 := Lib.hid (HI4.out.below hbl)
                      clear hbl kp
                      generalize wd.alloc (.cells #[.int .i64 (q : Nat), .bool bb] 47) = w5 at *
                      refine hK _ _ (fun _ => ⟨g1, x1, x2⟩) ?_
                      clear hK
                      obtain ⟨A', c', w6, hap, hown, hon⟩ := run_append_s elLt 24 HI5.out.o1 ⟨wd.heap.size, 0, none⟩ 1 [.int .i64 (q : Nat), .bool bb] rfl hsc (by intro u hu; simp at hu; rcases hu with rfl | rfl <;> rfl) (by omega) HI5.out.zz
                      have hap6 := HI5.out.lat hown (by show _ = [Value.int .i64 ((h.graph (linA txt [])).L k), Value.bool ((h.graph (linA txt [])).I k)]; rw [HVL.out.1, HVL.out.2]) hon
                      have HI6 := Lib.hid hap6.2
                      have hX6 := hap6.1
                      have hA3 : ∀ b, blockOf A1 b → b < wq.heap.size := fun b hb => own_lt HI.out.o1 b hb
                      replace g1 := (box4 hX6).1.2.1
                      replace x1 := hon.cell x1 (by show ¬ blockOf A1 bN; intro hb; have := hA3 _ hb; omega)
                      replace x2 := hon.cell x2 (by show ¬ blockOf A1 bN; intro hb; have := hA3 _ hb; omega)
                      clear hon hsc hA3 hown hap6
                      refine AnyZ.one (i := 16) (by kernel_rfl) rfl (fun K hK => ?_)
                      rw [if_pos (by rfl)]
                      refine wpZ_append1 (.tmp 125) (.tmp 139) 24 rfl rfl rfl hap ?_
                      go_simp
                      refine hK _ _ (fun _ => ⟨g1, x1, x2⟩) ?_
                      clear hK hap
                      refine AnyZ.mid [17] [18] 1 rfl (by kernel_rfl) (by kernel_rfl) (by kernel_rfl) (fun _ _ _ _ e h => ⟨e.symm.trans h.1, h.2⟩) ⟨g1, x1, x2⟩ ?_
                      iterate 1
                        refine Heads.step (v := ?_) rfl (by first | (go_simp; done) | rfl) (fun W hW => ?_) ?_
                        rotate_left
                        · (obtain ⟨t0, t1, t2⟩ := hW; go_simp; try with_reducible rfl)
                      have z6 : w6.frozen? ⟨b8, 1, none⟩ = false := by simp [World.frozen?, hX6]
                      refine AnyZ.one (i := 18) (by kernel_rfl) rfl (fun K hK => ?_)
                      go_simp
                      refine hK _ _ (fun h => by cases h) (AnyZ.done (by kernel_rfl) ?_)
                      clear hK
                      go_simp
                      clear z6 hX6 g1 x1 x2
                      go_wp2_with fail
                      exact ⟨⟨k + 1, at_ + 1, A', c', by omega, by have := HAT.out; omega, by simp, by simp, Lib.hid (by rw [HAT.out, Nat.add_assoc h.i]), HU2, HI6⟩, by simp [intOf]; omega⟩
                    · have q2 : (M : Int) ≤ (q : Int) := by omega
                      have HBD : Hid (BadT txt (at_ + 1)) := Lib.hid (.inr ⟨h, HQ.out.symm, .inl ⟨h.i + k, by unfold Hd.rows; omega, HU.out, rla_no (by omega) (by omega) (.inr ⟨_, HQR.out.symm, fun hc => hm (by have h1 := hc.2; rw [HMM.out] at h1; simpa using h1)⟩), by rw [HAT.out]⟩⟩)
                      go_quiet (fail)
                      replace HI3 := Lib.hid (HI3.out.drewN nq)
                      generalize w3.drewN nq = w4 at *
                      have HI4 := HI3
                      clear x0 x1 x2 s0
                      have HX2 := Lib.hid HI3.out.r2
                      have HX3 := Lib.hid HI3.out.r3
                      have HXB := Lib.hid HI3.out.bel
                      go_wp2_with fail
                      refine (badLine_any at_ w4 (by omega)).mono ?_
                      rintro e wy ⟨rfl, hby⟩
                      have HY2 := Lib.hid (heap_below hby HX2.out); have HY3 := Lib.hid (heap_below hby HX3.out); have HYB := Lib.hid (HXB.out.trans (hby.mono HXB.out.size))
                      clear hby
                      obtain ⟨⟨y0, y1, y2, y3⟩, yz⟩ := box4 HY2.out
                      have yz0 := yz 0
                      have yz1 := yz 1
                      have yz2 := yz 2
                      have yz3 := yz 3
                      obtain ⟨⟨v0, v1⟩, vz⟩ := box2 HY3.out
                      have vz0 := vz 0
                      have vz1 := vz 1
                      have HR := Lib.hid (RfI.res (w0 := w) HY2.out HY3.out HYB.out (by have := HE.out; omega) (by have := HE.out; omega) (.int .i64 0) (.slice none 0 0) (.slice none 0 0) (.slice none 0 0) (.int .i64 16) (.int .i64 (((at_ + 1) : Nat) : Int)))
                      clear yz vz
                      go_wp2_with fail
                      exact bodyPost_ret (v := .tuple #[.agg #[.int .i64 0, .slice none 0 0, .slice none 0 0, .slice none 0 0], .agg #[.int .i64 16, .int .i64 (((at_ + 1) : Nat) : Int)]]) (outsW rfl rfl HR.out.1 HR.out.2.1) rfl ⟨.inl ⟨(at_ + 1), HBD.out, rfl⟩, HR.out.2.2.1⟩
                  · have q1 : ((p : Int) != 2 * (1 + (h.i : Int) + (k : Int))) = true := by rw [bne_iff_ne]; omega
                    have HBD : Hid (BadT txt (at_ + 1)) := Lib.hid (.inr ⟨h, HQ.out.symm, .inl ⟨h.i + k, by unfold Hd.rows; omega, HU.out, rla_no (by omega) (by omega) (.inr ⟨_, HQR.out.symm, fun hc => h0 (by have h1 := hc.1; simp at h1; omega)⟩), by rw [HAT.out]⟩⟩)
                    go_quiet (fail)
                    replace HI3 := Lib.hid (HI3.out.drewN nq)
                    generalize w3.drewN nq = w4 at *
                    have HI4 := HI3
                    clear x0 x1 x2 s0
                    have HX2 := Lib.hid HI3.out.r2
                    have HX3 := Lib.hid HI3.out.r3
                    have HXB := Lib.hid HI3.out.bel
                    go_wp2_with fail
                    refine (badLine_any at_ w4 (by omega)).mono ?_
                    rintro e wy ⟨rfl, hby⟩
                    have HY2 := Lib.hid (heap_below hby HX2.out); have HY3 := Lib.hid (heap_below hby HX3.out); have HYB := Lib.hid (HXB.out.trans (hby.mono HXB.out.size))
                    clear hby
                    obtain ⟨⟨y0, y1, y2, y3⟩, yz⟩ := box4 HY2.out
                    have yz0 := yz 0
                    have yz1 := yz 1
                    have yz2 := yz 2
                    have yz3 := yz 3
                    obtain ⟨⟨v0, v1⟩, vz⟩ := box2 HY3.out
                    have vz0 := vz 0
                    have vz1 := vz 1
                    have HR := Lib.hid (RfI.res (w0 := w) HY2.out HY3.out HYB.out (by have := HE.out; omega) (by have := HE.out; omega) (.int .i64 0) (.slice none 0 0) (.slice none 0 0) (.slice none 0 0) (.int .i64 16) (.int .i64 (((at_ + 1) : Nat) : Int)))
                    clear yz vz
                    go_wp2_with fail
                    exact bodyPost_ret (v := .tuple #[.agg #[.int .i64 0, .slice none 0 0, .slice none 0 0, .slice none 0 0], .agg #[.int .i64 16, .int .i64 (((at_ + 1) : Nat) : Int)]]) (outsW rfl rfl HR.out.1 HR.out.2.1) rfl ⟨.inl ⟨(at_ + 1), HBD.out, rfl⟩, HR.out.2.2.1⟩
            · obtain rfl : h.l = k := by omega
              go_wp2_with fail
              clear s0 s1 s2 s3
              go_loopw [9, 17] (fun va vk wr => ∃ (k at_ : Nat) (A3 : Option Addr) (c3 : Nat), k ≤ h.o ∧ at_ ≤ 200000 ∧ va = .int .i64 at_ ∧ vk = .int .i64 k ∧ Hid (at_ = h.i + h.l + k + 1) ∧ Hid (h.Upto (linA txt []) (h.i + h.l + k)) ∧ Hid (RfI w (linA txt []) h b2 b3 b6 b8 z A A1 none A3 c1 0 c3 h.l 0 k wr)) (fun _ vk _ => h.o - (intOf vk).toNat)
              case atStart => exact ⟨0, at_, none, 0, by omega, hatl, rfl, rfl, HAT, HU, HI⟩
              case round =>
                obtain ⟨k, at_, A3, c3, hkl, hatl, rfl, rfl, HAT, HU, HI⟩ := hrel
                obtain ⟨wq, hwq⟩ : ∃ wq, wq = wr := ⟨_, rfl⟩
                subst hwq
                obtain ⟨⟨s0, s1, s2, s3⟩, _⟩ := box4 HI.out.sz
                by_cases hlt : k < h.o
                · have hrow := refRow_any (linA txt []) A c at_ 1 false wq HI.out.ls (fun i hi => HLW.out i (by rw [HLL.out]; exact hi)) (by omega)
                  rw [← HLL.out, show ((1 : Nat) : Int) = 1 from rfl] at hrow
                  obtain ⟨Q, hQ⟩ : ∃ Q, Q = rowR (linA txt []) at_ 1 false := ⟨_, rfl⟩
                  rw [← hQ] at hrow
                  rw [HAT.out] at hQ
                  have HQR := Lib.hid hQ
                  clear hQ
                  go_wp2_with fail
                  refine hrow.mono ?_
                  rintro e w3 ⟨hr, hb3⟩
                  have HI3 := Lib.hid (HI.out.below hb3)
                  clear hrow
                  rcases hr with ⟨v, rfl, rfl⟩ | ⟨v, ns, rfl, rfl, hnv⟩
                  · have HBD : Hid (BadT txt (at_ + 1)) := Lib.hid (.inr ⟨h, HQ.out.symm, .inl ⟨h.i + h.l + k, by unfold Hd.rows; omega, HU.out, rou_no (by omega) (by omega) (.inl HQR.out.symm), by rw [HAT.out]⟩⟩)
                    clear s0 s1 s2 s3 hb3
                    have HX2 := Lib.hid HI3.out.r2
                    have HX3 := Lib.hid HI3.out.r3
                    have HXB := Lib.hid HI3.out.bel
                    go_wp2_with fail
                    refine (badLine_any at_ w3 (by omega)).mono ?_
                    rintro e wy ⟨rfl, hby⟩
                    have HY2 := Lib.hid (heap_below hby HX2.out); have HY3 := Lib.hid (heap_below hby HX3.out); have HYB := Lib.hid (HXB.out.trans (hby.mono HXB.out.size))
                    clear hby
                    obtain ⟨⟨y0, y1, y2, y3⟩, yz⟩ := box4 HY2.out
                    have yz0 := yz 0
                    have yz1 := yz 1
                    have yz2 := yz 2
                    have yz3 := yz 3
                    obtain ⟨⟨v0, v1⟩, vz⟩ := box2 HY3.out
                    have vz0 := vz 0
                    have vz1 := vz 1
                    have HR := Lib.hid (RfI.res (w0 := w) HY2.out HY3.out HYB.out (by have := HE.out; omega) (by have := HE.out; omega) (.int .i64 0) (.slice none 0 0) (.slice none 0 0) (.slice none 0 0) (.int .i64 16) (.int .i64 (((at_ + 1) : Nat) : Int)))
                    clear yz vz
                    go_wp2_with fail
                    exact bodyPost_ret (v := .tuple #[.agg #[.int .i64 0, .slice none 0 0, .slice none 0 0, .slice none 0 0], .agg #[.int .i64 16, .int .i64 (((at_ + 1) : Nat) : Int)]]) (outsW rfl rfl HR.out.1 HR.out.2.1) rfl ⟨.inl ⟨(at_ + 1), HBD.out, rfl⟩, HR.out.2.2.1⟩
                  · obtain ⟨bN, oN, cN, rfl, hbN, hx⟩ := hnv
                    obtain ⟨_, hn2⟩ := rowR_yes HQR.out.symm
                    have hn3 : ns.length = 1 := by rcases hn2 with h | h; exact absurd h.1 (by simp); exact h
                    clear hn2
                    match ns, hn3 with
                    | [q], _ =>
                      have x1 : w3.cell? ⟨bN, oN, none⟩ = some (.int .i64 (q : Nat)) := hx 0 (by simp)
                      clear hx hb3 s0 s1 s2 s3
                      by_cases hm : q < M
                      · have q1 : ¬ ((M : Int) ≤ (q : Int)) := by omega
                        have HVL : Hid ((h.graph (linA txt [])).O k = (q : Int)) := Lib.hid (by
                          have e := (rowR_yes HQR.out.symm).1
                          show ((numR (linA txt []) (h.i + h.l + k) 0 : Nat) : Int) = _
                          unfold numR; rw [e]; rfl)
                        have HU2 := Lib.hid (HU.out.next (rou_yes (t := h.i + h.l + k) (by omega) (by omega) HQR.out.symm (by rw [HMM.out]; exact hm)))
                        obtain ⟨w4, hw4⟩ : ∃ x, x = w3 := ⟨_, rfl⟩
                        subst hw4
                        have HI4 := HI3
                        obtain ⟨_, _, _, g1⟩ := (box4 HI4.out.g).1
                        clear hm
                        go_upto_region 31 with (fail)
                        refine wp_region_z (fun w' => w'.cell? ⟨b8, 3, none⟩ = some (.slice A3 k c3) ∧ w'.cell? ⟨bN, oN, none⟩ = some (.int .i64 (q : Nat))) [0, 1, 2, 3, 4] [8] (by kernel_rfl) (by kernel_rfl) (by kernel_rfl) (by rfl) (fun _ _ _ _ e h => ⟨e.symm.trans h.1, h.2⟩) ⟨g1, x1⟩ ?_
                        iterate 5
                          refine Heads.step (v := ?_) rfl (by first | (go_simp; done) | rfl) (fun W hW => ?_) ?_
                          rotate_left
                          · (obtain ⟨t0, t1⟩ := hW; go_simp; try with_reducible rfl)
                        have hbl0 : Below w4.heap.size w4 w4.drew := (Below.refl _ w4).drew
                        have kp := Keeps.of_below hbl0
                        replace g1 := kp _ _ g1
                        replace x1 := kp _ _ x1
                        replace HI4 := Lib.hid (HI4.out.below hbl0)
                        clear hbl0 kp
                        generalize w4.drew = wd at *
                        refine AnyZ.one (i := 5) (by kernel_rfl) rfl (fun K hK => ?_)
                        go_simp
                        have hbl : Below wd.heap.size wd (wd.alloc (.cells #[.int .i64 (q : Nat)] 3)) := (Below.refl _ _).alloc (Nat.le_refl _) _
                        obtain ⟨_, _, hsc⟩ := src_news wd #[.int .i64 (q : Nat)] 3 1 1 rfl (by intro u hu; simp at hu; subst hu; rfl)
                        obtain ⟨ad, hae, hsc⟩ := hsc (by omega)
                        injection hae with hae; subst hae
                        have kp := Keeps.of_below hbl
                        replace g1 := kp _ _ g1
                        replace x1 := kp _ _ x1
                        have HI5 := Lib.hid (HI4.out.below hbl)
                        clear hbl kp
                        generalize wd.alloc (.cells #[.int .i64 (q : Nat)] 3) = w5 at *
                        refine hK _ _ (fun _ => ⟨g1, x1⟩) ?_
                        clear hK
                        obtain ⟨A', c', w6, hap, hown, hon⟩ := run_append_s elIn 26 HI5.out.o3 ⟨wd.heap.size, 0, none⟩ 1 [.int .i64 (q : Nat)] rfl hsc (by intro u hu; simp at hu; subst hu; rfl) (by omega) HI5.out.zz
                        have hap6 := HI5.out.out hown (by show _ = [Value.int .i64 ((h.graph (linA txt [])).O k)]; rw [HVL.out]) hon
                        have HI6 := Lib.hid hap6.2
                        have hX6 := hap6.1
                        have hA3 : ∀ b, blockOf A3 b → b < wq.heap.size := fun b hb => own_lt HI.out.o3 b hb
                        replace g1 := (box4 hX6).1.2.2.2
                        replace x1 := hon.cell x1 (by show ¬ blockOf A3 bN; intro hb; have := hA3 _ hb; omega)
                        clear hon hsc hA3 hown hap6
                        refine AnyZ.one (i := 6) (by kernel_rfl) rfl (fun K hK => ?_)
                        rw [if_pos (by rfl)]
                        refine wpZ_append1 (.tmp 169) (.tmp 173) 26 rfl rfl rfl hap ?_
                        go_simp
                        refine hK _ _ (fun _ => ⟨g1, x1⟩) ?_
                        clear hK hap
                        refine AnyZ.mid [7] [8] 1 rfl (by kernel_rfl) (by kernel_rfl) (by kernel_rfl) (fun _ _ _ _ e h => ⟨e.symm.trans h.1, h.2⟩) ⟨g1, x1⟩ ?_
                        iterate 1
                          refine Heads.step (v := ?_) rfl (by first | (go_simp; done) | rfl) (fun W hW => ?_) ?_
                          rotate_left
                          · (obtain ⟨t0, t1⟩ := hW; go_simp; try with_reducible rfl)
                        have z6 : w6.frozen? ⟨b8, 3, none⟩ = false := by simp [World.frozen?, hX6]
                        refine AnyZ.one (i := 8) (by kernel_rfl) rfl (fun K hK => ?_)
                        go_simp
                        refine hK _ _ (fun h => by cases h) (AnyZ.done (by kernel_rfl) ?_)
                        clear hK
                        go_simp
                        clear z6 hX6 g1 x1
                        go_wp2_with fail
                        exact ⟨⟨k + 1, at_ + 1, A', c', by omega, by have := HAT.out; omega, by simp, by simp, Lib.hid (by rw [HAT.out, Nat.add_assoc (h.i + h.l)]), HU2, HI6⟩, by simp [intOf]; omega⟩
                      · have q1 : (M : Int) ≤ (q : Int) := by omega
                        have HBD : Hid (BadT txt (at_ + 1)) := Lib.hid (.inr ⟨h, HQ.out.symm, .inl ⟨h.i + h.l + k, by unfold Hd.rows; omega, HU.out, rou_no (by omega) (by omega) (.inr ⟨_, HQR.out.symm, fun hc => hm (by rw [HMM.out] at hc; simpa using hc)⟩), by rw [HAT.out]⟩⟩)
                        clear hm
                        have HX2 := Lib.hid HI3.out.r2
                        have HX3 := Lib.hid HI3.out.r3
                        have HXB := Lib.hid HI3.out.bel
                        go_wp2_with fail
                        refine (badLine_any at_ w3 (by omega)).mono ?_
                        rintro e wy ⟨rfl, hby⟩
                        have HY2 := Lib.hid (heap_below hby HX2.out); have HY3 := Lib.hid (heap_below hby HX3.out); have HYB := Lib.hid (HXB.out.trans (hby.mono HXB.out.size))
                        clear hby
                        obtain ⟨⟨y0, y1, y2, y3⟩, yz⟩ := box4 HY2.out
                        have yz0 := yz 0
                        have yz1 := yz 1
                        have yz2 := yz 2
                        have yz3 := yz 3
                        obtain ⟨⟨v0, v1⟩, vz⟩ := box2 HY3.out
                        have vz0 := vz 0
                        have vz1 := vz 1
                        have HR := Lib.hid (RfI.res (w0 := w) HY2.out HY3.out HYB.out (by have := HE.out; omega) (by have := HE.out; omega) (.int .i64 0) (.slice none 0 0) (.slice none 0 0) (.slice none 0 0) (.int .i64 16) (.int .i64 (((at_ + 1) : Nat) : Int)))
                        clear yz vz
                        go_wp2_with fail
                        exact bodyPost_ret (v := .tuple #[.agg #[.int .i64 0, .slice none 0 0, .slice none 0 0, .slice none 0 0], .agg #[.int .i64 16, .int .i64 (((at_ + 1) : Nat) : Int)]]) (outsW rfl rfl HR.out.1 HR.out.2.1) rfl ⟨.inl ⟨(at_ + 1), HBD.out, rfl⟩, HR.out.2.2.1⟩
                · obtain rfl : h.o = k := by omega
                  go_wp2_with fail
                  clear s0 s1 s2 s3
                  go_loopw [9, 20] (fun va vk wr => ∃ (k at_ : Nat) (A2 : Option Addr) (c2 : Nat), k ≤ h.a ∧ at_ ≤ 200000 ∧ va = .int .i64 at_ ∧ vk = .int .i64 k ∧ Hid (at_ = h.i + h.l + h.o + k + 1) ∧ Hid (h.Upto (linA txt []) (h.i + h.l + h.o + k)) ∧ Hid (RfI w (linA txt []) h b2 b3 b6 b8 z A A1 A2 A3 c1 c2 c3 h.l k h.o wr)) (fun _ vk _ => h.a - (intOf vk).toNat)
                  case atStart => exact ⟨0, at_, none, 0, by omega, hatl, rfl, rfl, HAT, HU, HI⟩
                  case round =>
                    obtain ⟨k, at_, A2, c2, hkl, hatl, rfl, rfl, HAT, HU, HI⟩ := hrel
                    obtain ⟨wq, hwq⟩ : ∃ wq, wq = wr := ⟨_, rfl⟩
                    subst hwq
                    obtain ⟨⟨s0, s1, s2, s3⟩, _⟩ := box4 HI.out.sz
                    by_cases hlt : k < h.a
                    · have hrow := refRow_any (linA txt []) A c at_ 3 false wq HI.out.ls (fun i hi => HLW.out i (by rw [HLL.out]; exact hi)) (by omega)
                      rw [← HLL.out, show ((3 : Nat) : Int) = 3 from rfl] at hrow
                      obtain ⟨Q, hQ⟩ : ∃ Q, Q = rowR (linA txt []) at_ 3 false := ⟨_, rfl⟩
                      rw [← hQ] at hrow
                      rw [HAT.out] at hQ
                      have HQR := Lib.hid hQ
                      clear hQ
                      go_wp2_with fail
                      refine hrow.mono ?_
                      rintro e w3 ⟨hr, hb3⟩
                      have HI3 := Lib.hid (HI.out.below hb3)
                      clear hrow
                      rcases hr with ⟨v, rfl, rfl⟩ | ⟨v, ns, rfl, rfl, hnv⟩
                      · have HBD : Hid (BadT txt (at_ + 1)) := Lib.hid (.inr ⟨h, HQ.out.symm, .inl ⟨h.i + h.l + h.o + k, by unfold Hd.rows; omega, HU.out, ran_no (by omega) (.inl HQR.out.symm), by rw [HAT.out]⟩⟩)
                        clear s0 s1 s2 s3 hb3
                        go_upto_region 37 with (fail)
                        go_quiet (fail)
                        replace HI3 := Lib.hid (HI3.out.drewN nq)
                        generalize w3.drewN nq = w4 at *
                        have HI4 := HI3
                        have HX2 := Lib.hid HI3.out.r2
                        have HX3 := Lib.hid HI3.out.r3
                        have HXB := Lib.hid HI3.out.bel
                        go_wp2_with fail
                        refine (badLine_any at_ w4 (by omega)).mono ?_
                        rintro e wy ⟨rfl, hby⟩
                        have HY2 := Lib.hid (heap_below hby HX2.out); have HY3 := Lib.hid (heap_below hby HX3.out); have HYB := Lib.hid (HXB.out.trans (hby.mono HXB.out.size))
                        clear hby
                        obtain ⟨⟨y0, y1, y2, y3⟩, yz⟩ := box4 HY2.out
                        have yz0 := yz 0
                        have yz1 := yz 1
                        have yz2 := yz 2
                        have yz3 := yz 3
                        obtain ⟨⟨v0, v1⟩, vz⟩ := box2 HY3.out
                        have vz0 := vz 0
                        have vz1 := vz 1
                        have HR := Lib.hid (RfI.res (w0 := w) HY2.out HY3.out HYB.out (by have := HE.out; omega) (by have := HE.out; omega) (.int .i64 0) (.slice none 0 0) (.slice none 0 0) (.slice none 0 0) (.int .i64 16) (.int .i64 (((at_ + 1) : Nat) : Int)))
                        clear yz vz
                        go_wp2_with fail
                        exact bodyPost_ret (v := .tuple #[.agg #[.int .i64 0, .slice none 0 0, .slice none 0 0, .slice none 0 0], .agg #[.int .i64 16, .int .i64 (((at_ + 1) : Nat) : Int)]]) (outsW rfl rfl HR.out.1 HR.out.2.1) rfl ⟨.inl ⟨(at_ + 1), HBD.out, rfl⟩, HR.out.2.2.1⟩
                      · obtain ⟨bN, oN, cN, rfl, hbN, hx⟩ := hnv
                        have kp := Keeps.of_below hb3
                        replace s0 := kp _ _ s0
                        replace s1 := kp _ _ s1
                        clear kp hb3 s2 s3
                        obtain ⟨_, hn2⟩ := rowR_yes HQR.out.symm
                        have hn3 : ns.length = 3 := by rcases hn2 with h | h; exact absurd h.1 (by simp); exact h
                        clear hn2
                        match ns, hn3 with
                        | [p, q, r], _ =>
                          have x0 : w3.cell? ⟨bN, oN, none⟩ = some (.int .i64 (p : Nat)) := hx 0 (by simp)
                          have x1 : w3.cell? ⟨bN, oN + 1, none⟩ = some (.int .i64 (q : Nat)) := hx 1 (by simp)
                          have x2 : w3.cell? ⟨bN, oN + 2, none⟩ = some (.int .i64 (r : Nat)) := hx 2 (by simp)
                          have ew1 : IntKind.i64.wrap (1 + (h.i : Int)) = 1 + (h.i : Int) := by rw [IntKind.wrap_i64]; omega
                          have ew2 : IntKind.i64.wrap (1 + (h.i : Int) + (h.l : Int)) = 1 + (h.i : Int) + (h.l : Int) := by rw [IntKind.wrap_i64]; omega
                          have ew3 : IntKind.i64.wrap (1 + (h.i : Int) + (h.l : Int) + (k : Int)) = 1 + (h.i : Int) + (h.l : Int) + (k : Int) := by rw [IntKind.wrap_i64]; omega
                          have ew4 : IntKind.i64.wrap (2 * (1 + (h.i : Int) + (h.l : Int) + (k : Int))) = 2 * (1 + (h.i : Int) + (h.l : Int) + (k : Int)) := by rw [IntKind.wrap_i64]; omega
                          clear hx
                          go_upto_region 37 with (fail)
                          by_cases h0 : p = 2 * (1 + (h.i + h.l + k))
                          · have q1 : ((p : Int) != 2 * (1 + (h.i : Int) + (h.l : Int) + (k : Int))) = false := by rw [bne_eq_false_iff_eq]; omega
                            have H0 := Lib.hid h0
                            clear h0
                            by_cases hm : q < p
                            · have q2 : ¬ ((p : Int) ≤ (q : Int)) := by omega
                              by_cases hr2 : r < p
                              · have q3 : ¬ ((p : Int) ≤ (r : Int)) := by omega
                                have HVL : Hid ((h.graph (linA txt [])).X k = (q : Int) ∧ (h.graph (linA txt [])).Y k = (r : Int)) := Lib.hid (by
                                  have e := (rowR_yes HQR.out.symm).1
                                  refine ⟨?_, ?_⟩
                                  · show ((numR (linA txt []) (h.i + h.l + h.o + k) 1 : Nat) : Int) = _
                                    unfold numR; rw [e]; rfl
                                  · show ((numR (linA txt []) (h.i + h.l + h.o + k) 2 : Nat) : Int) = _
                                    unfold numR; rw [e]; rfl)
                                have HU2 := Lib.hid (HU.out.next (ran_yes (t := h.i + h.l + h.o + k) (by omega) HQR.out.symm (by have h0 := H0.out; simp; omega) (by simpa using hm) (by simpa using hr2)))
                                go_quiet (fail)
                                replace x1 : (w3.drewN nq).cell? ⟨bN, oN + 1, none⟩ = some (.int .i64 (q : Nat)) := x1
                                replace x2 : (w3.drewN nq).cell? ⟨bN, oN + 2, none⟩ = some (.int .i64 (r : Nat)) := x2
                                replace HI3 := Lib.hid (HI3.out.drewN nq)
                                generalize w3.drewN nq = w4 at *
                                have HI4 := HI3
                                obtain ⟨_, _, g1, _⟩ := (box4 HI4.out.g).1
                                clear x0 s0 s1 hm hr2 q2 q3
                                go_upto_region 39 with (fail)
                                refine wp_region_z (fun w' => w'.cell? ⟨b8, 2, none⟩ = some (.slice A2 k c2) ∧ w'.cell? ⟨bN, oN + 1, none⟩ = some (.int .i64 (q : Nat)) ∧ w'.cell? ⟨bN, oN + 2, none⟩ = some (.int .i64 (r : Nat))) [0, 1, 2, 3, 4, 5, 6, 7, 8] [12] (by kernel_rfl) (by kernel_rfl) (by kernel_rfl) (by rfl) (fun _ _ _ _ e h => ⟨e.symm.trans h.1, h.2⟩) ⟨g1, x1, x2⟩ ?_
                                iterate 9
                                  refine Heads.step (v := ?_) rfl (by first | (go_simp; done) | rfl) (fun W hW => ?_) ?_
                                  rotate_left
                                  · (obtain ⟨t0, t1, t2⟩ := hW; go_simp; try with_reducible rfl)
                                have hbl0 : Below w4.heap.size w4 w4.drew := (Below.refl _ w4).drew
                                have kp := Keeps.of_below hbl0
                                replace g1 := kp _ _ g1
                                replace x1 := kp _ _ x1
                                replace x2 := kp _ _ x2
                                replace HI4 := Lib.hid (HI4.out.below hbl0)
                                clear hbl0 kp
                                generalize w4.drew = wd at *
                                refine AnyZ.one (i := 9) (by kernel_rfl) rfl (fun K hK => ?_)
                                go_simp
                                have hbl : Below wd.heap.size wd (wd.alloc (.cells #[.int .i64 (q : Nat), .int .i64 (r : Nat)] 48)) := (Below.refl _ _).alloc (Nat.le_refl _) _
                                obtain ⟨_, _, hsc⟩ := src_news wd #[.int .i64 (q : Nat), .int .i64 (r : Nat)] 48 2 1 rfl (by intro u hu; simp at hu; rcases hu with rfl | rfl <;> rfl)
                                obtain ⟨ad, hae, hsc⟩ := hsc (by omega)
                                injection hae with hae; subst hae
                                have kp := Keeps.of_below hbl
                                replace g1 := kp _ _ g1
                                replace x1 := kp _ _ x1
                                replace x2 := kp _ _ x2
                                have HI5 := Lib.hid (HI4.out.below hbl)
                                clear hbl kp
                                generalize wd.alloc (.cells #[.int .i64 (q : Nat), .int .i64 (r : Nat)] 48) = w5 at *
                                refine hK _ _ (fun _ => ⟨g1, x1, x2⟩) ?_
                                clear hK
                                obtain ⟨A', c', w6, hap, hown, hon⟩ := run_append_s elPr 25 HI5.out.o2 ⟨wd.heap.size, 0, none⟩ 1 [.int .i64 (q : Nat), .int .i64 (r : Nat)] rfl hsc (by intro u hu; simp at hu; rcases hu with rfl | rfl <;> rfl) (by omega) HI5.out.zz
                                have hap6 := HI5.out.and_ hown (by show _ = [Value.int .i64 ((h.graph (linA txt [])).X k), Value.int .i64 ((h.graph (linA txt [])).Y k)]; rw [HVL.out.1, HVL.out.2]) hon
                                have HI6 := Lib.hid hap6.2
                                have hX6 := hap6.1
                                have hA3 : ∀ b, blockOf A2 b → b < wq.heap.size := fun b hb => own_lt HI.out.o2 b hb
                                replace g1 := (box4 hX6).1.2.2.1
                                replace x1 := hon.cell x1 (by show ¬ blockOf A2 bN; intro hb; have := hA3 _ hb; omega)
                                replace x2 := hon.cell x2 (by show ¬ blockOf A2 bN; intro hb; have := hA3 _ hb; omega)
                                clear hon hsc hA3 hown hap6
                                refine AnyZ.one (i := 10) (by kernel_rfl) rfl (fun K hK => ?_)
                                rw [if_pos (by rfl)]
                                refine wpZ_append1 (.tmp 229) (.tmp 237) 25 rfl rfl rfl hap ?_
                                go_simp
                                refine hK _ _ (fun _ => ⟨g1, x1, x2⟩) ?_
                                clear hK hap
                                refine AnyZ.mid [11] [12] 1 rfl (by kernel_rfl) (by kernel_rfl) (by kernel_rfl) (fun _ _ _ _ e h => ⟨e.symm.trans h.1, h.2⟩) ⟨g1, x1, x2⟩ ?_
                                iterate 1
                                  refine Heads.step (v := ?_) rfl (by first | (go_simp; done) | rfl) (fun W hW => ?_) ?_
                                  rotate_left
                                  · (obtain ⟨t0, t1, t2⟩ := hW; go_simp; try with_reducible rfl)
                                have z6 : w6.frozen? ⟨b8, 2, none⟩ = false := by simp [World.frozen?, hX6]
                                refine AnyZ.one (i := 12) (by kernel_rfl) rfl (fun K hK => ?_)
                                go_simp
                                refine hK _ _ (fun h => by cases h) (AnyZ.done (by kernel_rfl) ?_)
                                clear hK
                                go_simp
                                clear z6 hX6 g1 x1 x2
                                go_wp2_with fail
                                exact ⟨⟨k + 1, at_ + 1, A', c', by omega, by have := HAT.out; omega, by simp, by simp, Lib.hid (by rw [HAT.out, Nat.add_assoc (h.i + h.l + h.o)]), HU2, HI6⟩, by simp [intOf]; omega⟩
                              · have q3 : (p : Int) ≤ (r : Int) := by omega
                                have HBD : Hid (BadT txt (at_ + 1)) := Lib.hid (.inr ⟨h, HQ.out.symm, .inl ⟨h.i + h.l + h.o + k, by unfold Hd.rows; omega, HU.out, ran_no (by omega) (.inr ⟨_, HQR.out.symm, fun hc => hr2 (by have h1 := hc.2.2; simpa using h1)⟩), by rw [HAT.out]⟩⟩)
                                go_quiet (fail)
                                replace HI3 := Lib.hid (HI3.out.drewN nq)
                                generalize w3.drewN nq = w4 at *
                                have HI4 := HI3
                                clear x0 x1 x2 s0 s1
                                have HX2 := Lib.hid HI3.out.r2
                                have HX3 := Lib.hid HI3.out.r3
                                have HXB := Lib.hid HI3.out.bel
                                go_wp2_with fail
                                refine (badLine_any at_ w4 (by omega)).mono ?_
                                rintro e wy ⟨rfl, hby⟩
                                have HY2 := Lib.hid (heap_below hby HX2.out); have HY3 := Lib.hid (heap_below hby HX3.out); have HYB := Lib.hid (HXB.out.trans (hby.mono HXB.out.size))
                                clear hby
                                obtain ⟨⟨y0, y1, y2, y3⟩, yz⟩ := box4 HY2.out
                                have yz0 := yz 0
                                have yz1 := yz 1
                                have yz2 := yz 2
                                have yz3 := yz 3
                                obtain ⟨⟨v0, v1⟩, vz⟩ := box2 HY3.out
                                have vz0 := vz 0
                                have vz1 := vz 1
                                have HR := Lib.hid (RfI.res (w0 := w) HY2.out HY3.out HYB.out (by have := HE.out; omega) (by have := HE.out; omega) (.int .i64 0) (.slice none 0 0) (.slice none 0 0) (.slice none 0 0) (.int .i64 16) (.int .i64 (((at_ + 1) : Nat) : Int)))
                                clear yz vz
                                go_wp2_with fail
                                exact bodyPost_ret (v := .tuple #[.agg #[.int .i64 0, .slice none 0 0, .slice none 0 0, .slice none 0 0], .agg #[.int .i64 16, .int .i64 (((at_ + 1) : Nat) : Int)]]) (outsW rfl rfl HR.out.1 HR.out.2.1) rfl ⟨.inl ⟨(at_ + 1), HBD.out, rfl⟩, HR.out.2.2.1⟩
                            · have q2 : (p : Int) ≤ (q : Int) := by omega
                              have HBD : Hid (BadT txt (at_ + 1)) := Lib.hid (.inr ⟨h, HQ.out.symm, .inl ⟨h.i + h.l + h.o + k, by unfold Hd.rows; omega, HU.out, ran_no (by omega) (.inr ⟨_, HQR.out.symm, fun hc => hm (by have h1 := hc.2.1; simpa using h1)⟩), by rw [HAT.out]⟩⟩)
                              go_quiet (fail)
                              replace HI3 := Lib.hid (HI3.out.drewN nq)
                              generalize w3.drewN nq = w4 at *
                              have HI4 := HI3
                              clear x0 x1 x2 s0 s1
                              have HX2 := Lib.hid HI3.out.r2
                              have HX3 := Lib.hid HI3.out.r3
                              have HXB := Lib.hid HI3.out.bel
                              go_wp2_with fail
                              refine (badLine_any at_ w4 (by omega)).mono ?_
                              rintro e wy ⟨rfl, hby⟩
                              have HY2 := Lib.hid (heap_below hby HX2.out); have HY3 := Lib.hid (heap_below hby HX3.out); have HYB := Lib.hid (HXB.out.trans (hby.mono HXB.out.size))
                              clear hby
                              obtain ⟨⟨y0, y1, y2, y3⟩, yz⟩ := box4 HY2.out
                              have yz0 := yz 0
                              have yz1 := yz 1
                              have yz2 := yz 2
                              have yz3 := yz 3
                              obtain ⟨⟨v0, v1⟩, vz⟩ := box2 HY3.out
                              have vz0 := vz 0
                              have vz1 := vz 1
                              have HR := Lib.hid (RfI.res (w0 := w) HY2.out HY3.out HYB.out (by have := HE.out; omega) (by have := HE.out; omega) (.int .i64 0) (.slice none 0 0) (.slice none 0 0) (.slice none 0 0) (.int .i64 16) (.int .i64 (((at_ + 1) : Nat) : Int)))
                              clear yz vz
                              go_wp2_with fail
                              exact bodyPost_ret (v := .tuple #[.agg #[.int .i64 0, .slice none 0 0, .slice none 0 0, .slice none 0 0], .agg #[.int .i64 16, .int .i64 (((at_ + 1) : Nat) : Int)]]) (outsW rfl rfl HR.out.1 HR.out.2.1) rfl ⟨.inl ⟨(at_ + 1), HBD.out, rfl⟩, HR.out.2.2.1⟩
                          · have q1 : ((p : Int) != 2 * (1 + (h.i : Int) + (h.l : Int) + (k : Int))) = true := by rw [bne_iff_ne]; omega
                            have HBD : Hid (BadT txt (at_ + 1)) := Lib.hid (.inr ⟨h, HQ.out.symm, .inl ⟨h.i + h.l + h.o + k, by unfold Hd.rows; omega, HU.out, ran_no (by omega) (.inr ⟨_, HQR.out.symm, fun hc => h0 (by have h1 := hc.1; simp at h1; omega)⟩), by rw [HAT.out]⟩⟩)
                            go_quiet (fail)
                            replace HI3 := Lib.hid (HI3.out.drewN nq)
                            generalize w3.drewN nq = w4 at *
                            have HI4 := HI3
                            clear x0 x1 x2 s0 s1
                            have HX2 := Lib.hid HI3.out.r2
                            have HX3 := Lib.hid HI3.out.r3
                            have HXB := Lib.hid HI3.out.bel
                            go_wp2_with fail
                            refine (badLine_any at_ w4 (by omega)).mono ?_
                            rintro e wy ⟨rfl, hby⟩
                            have HY2 := Lib.hid (heap_below hby HX2.out); have HY3 := Lib.hid (heap_below hby HX3.out); have HYB := Lib.hid (HXB.out.trans (hby.mono HXB.out.size))
                            clear hby
                            obtain ⟨⟨y0, y1, y2, y3⟩, yz⟩ := box4 HY2.out
                            have yz0 := yz 0
                            have yz1 := yz 1
                            have yz2 := yz 2
                            have yz3 := yz 3
                            obtain ⟨⟨v0, v1⟩, vz⟩ := box2 HY3.out
                            have vz0 := vz 0
                            have vz1 := vz 1
                            have HR := Lib.hid (RfI.res (w0 := w) HY2.out HY3.out HYB.out (by have := HE.out; omega) (by have := HE.out; omega) (.int .i64 0) (.slice none 0 0) (.slice none 0 0) (.slice none 0 0) (.int .i64 16) (.int .i64 (((at_ + 1) : Nat) : Int)))
                            clear yz vz
                            go_wp2_with fail
                            exact bodyPost_ret (v := .tuple #[.agg #[.int .i64 0, .slice none 0 0, .slice none 0 0, .slice none 0 0], .agg #[.int .i64 16, .int .i64 (((at_ + 1) : Nat) : Int)]]) (outsW rfl rfl HR.out.1 HR.out.2.1) rfl ⟨.inl ⟨(at_ + 1), HBD.out, rfl⟩, HR.out.2.2.1⟩
                    · obtain rfl : h.a = k := by omega
                      have HAR : Hid (at_ = h.rows + 1) := Lib.hid (by rw [HAT.out]; unfold Hd.rows; omega)
                      replace HU : Hid (h.Upto (linA txt []) h.rows) := Lib.hid (by have e := HU.out; unfold Hd.rows; exact e)
                      have HATL : Hid (at_ ≤ LL) := Lib.hid (by rw [HAR.out, HLL.out]; exact rows_le HQ.out.symm HU.out)
                      have hbh := behind_any (linA txt []) A c at_ wq HI.out.ls (by rw [← HLL.out]; exact HLLB.out) (fun i hi => HLW.out i (by rw [HLL.out]; exact hi)) (by rw [← HLL.out]; exact HATL.out)
                      rw [← HLL.out] at hbh
                      obtain ⟨K, hK⟩ : ∃ K, K = bhF ((linA txt []).drop at_) at_ := ⟨_, rfl⟩
                      rw [← hK] at hbh
                      have HKE := Lib.hid hK
                      clear hK HAT
                      go_wp2_with fail
                      refine hbh.mono ?_
                      rintro e w3 ⟨rfl, hb3⟩
                      replace HI := Lib.hid (HI.out.below hb3)
                      clear hbh hb3 s0 s1 s2 s3
                      by_cases hK0 : K = 0
                      · subst hK0
                        have HK0 : Hid (bhF ((linA txt []).drop at_) at_ = 0) := Lib.hid HKE.out.symm
                        clear HKE
                        rw [show ((0 : Nat) : Int) = 0 from rfl]
                        go_wp2_with fail
                        go_loopw [24, 25] (fun vc vi wr => ∃ (i : Nat) (cm : Bool), at_ ≤ i ∧ i ≤ LL ∧ vc = .bool cm ∧ vi = .int .i64 i ∧ Hid (cm = true ↔ ∃ j, at_ ≤ j ∧ j < i ∧ (linA txt []).getD j [] = [99]) ∧ Hid (RfI w (linA txt []) h b2 b3 b6 b8 z A A1 A2 A3 c1 c2 c3 h.l h.a h.o wr)) (fun _ vi _ => LL - (intOf vi).toNat)
                        case atStart => exact ⟨at_, false, by omega, HATL.out, rfl, rfl, Lib.hid ⟨(fun e => by cases e), fun ⟨j, h1, h2, _⟩ => by omega⟩, HI⟩
                        case round =>
                          clear HI
                          obtain ⟨i, cm, hi1, hi2, rfl, rfl, HCM, HI⟩ := hrel
                          obtain ⟨wz, hwz⟩ : ∃ wz, wz = wr := ⟨_, rfl⟩
                          subst hwz
                          by_cases hlt : i < LL
                          · have hx9 := HI.out.ls.at_ (i := i) (by rw [← HLL.out]; exact hlt)
                            obtain ⟨bA, oA, rfl, x0⟩ := hx9
                            obtain ⟨x, hx⟩ : ∃ x, x = (linA txt []).getD i [] := ⟨_, rfl⟩
                            obtain ⟨q, hq⟩ : ∃ q, q = bstr x := ⟨_, rfl⟩
                            rw [← hx, ← hq] at x0
                            obtain ⟨cb, hcb⟩ : ∃ cb, cb = decide (x = [99]) := ⟨_, rfl⟩
                            have hqe : (q.toList == [99]) = cb := by rw [hq, bstr_toList, hcb, Bool.eq_iff_iff]; simp
                            have HCN : Hid ((cm || cb) = true ↔ ∃ j, at_ ≤ j ∧ j < i + 1 ∧ (linA txt []).getD j [] = [99]) := Lib.hid (by
                              rw [Bool.or_eq_true, HCM.out, hcb, decide_eq_true_iff, hx]
                              constructor
                              · rintro (⟨j, h1, h2, h3⟩ | h3)
                                · exact ⟨j, h1, by omega, h3⟩
                                · exact ⟨i, by omega, by omega, h3⟩
                              · rintro ⟨j, h1, h2, h3⟩
                                by_cases e : j = i
                                · exact .inr (e ▸ h3)
                                · exact .inl ⟨j, h1, by omega, h3⟩)
                            clear hx hq hcb HCM
                            cases cm with
                            | true =>
                              go_wp2_with fail
                              exact ⟨⟨i + 1, true, by omega, by omega, rfl, by simp, by simpa using HCN, HI⟩, by simp [intOf]; omega⟩
                            | false =>
                              go_wp2_with fail
                              exact ⟨⟨i + 1, cb, by omega, by omega, rfl, by simp, by simpa using HCN, HI⟩, by simp [intOf]; omega⟩
                          · obtain rfl : LL = i := by omega
                            have HCC : Hid (cm = true ↔ [99] ∈ ((linA txt []).drop at_)) := Lib.hid (by
                              rw [HCM.out]
                              constructor
                              · rintro ⟨j, h1, h2, h3⟩
                                have hj : j < (linA txt []).length := by rw [← HLL.out]; exact h2
                                rw [List.getD_eq_getElem?_getD, List.getElem?_eq_getElem hj, Option.getD_some] at h3
                                rw [← h3, List.mem_iff_getElem]
                                refine ⟨j - at_, by rw [List.length_drop]; omega, ?_⟩
                                rw [List.getElem_drop]
                                congr 1
                                omega
                              · intro hm
                                obtain ⟨j, hj, he⟩ := List.mem_iff_getElem.1 hm
                                rw [List.length_drop] at hj
                                rw [List.getElem_drop] at he
                                refine ⟨at_ + j, by omega, by rw [HLL.out]; omega, ?_⟩
                                rw [List.getD_eq_getElem?_getD, List.getElem?_eq_getElem (by omega), Option.getD_some]
                                exact he)
                            clear HCM
                            cases cm with
                            | true =>
                              have HFN : Hid (tailF (tlA txt []) ((linA txt []).drop (h.rows + 1)) (h.rows + 1) = none) := Lib.hid (by rw [← HAR.out]; exact bhF_c _ _ _ HK0.out (HCC.out.1 rfl))
                              cases T with
                              | true =>
                                have HR := Lib.hid (RfI.res (w0 := w) HI.out.r2 HI.out.r3 HI.out.bel (by have := HE.out; omega) (by have := HE.out; omega) (.int .i64 (h.i : Int)) (.slice A1 h.l c1) (.slice A2 h.a c2) (.slice A3 h.o c3) (.int .i64 0) (.int .i64 0))
                                obtain ⟨⟨x0, x1, x2, x3⟩, _⟩ := box4 HI.out.g
                                obtain ⟨⟨y0, y1, y2, y3⟩, yz⟩ := box4 HI.out.r2
                                have yz0 := yz 0
                                have yz1 := yz 1
                                have yz2 := yz 2
                                have yz3 := yz 3
                                obtain ⟨⟨v0, v1⟩, vz⟩ := box2 HI.out.r3
                                have vz0 := vz 0
                                have vz1 := vz 1
                                clear yz vz
                                go_wp2_with fail
                                exact bodyPost_ret (v := .tuple #[.agg #[.int .i64 (h.i : Int), .slice A1 h.l c1, .slice A2 h.a c2, .slice A3 h.o c3], .agg #[.int .i64 0, .int .i64 0]]) (outsW rfl rfl HR.out.1 HR.out.2.1) rfl ⟨.inr ⟨h, A1, A2, A3, c1, c2, c3, ⟨HQ.out.symm, HU.out, HFN.out⟩, rfl, HI.out.at_ HR.out.2.2.2⟩, HR.out.2.2.1⟩
                              | false =>
                                have HR := Lib.hid (RfI.res (w0 := w) HI.out.r2 HI.out.r3 HI.out.bel (by have := HE.out; omega) (by have := HE.out; omega) (.int .i64 (h.i : Int)) (.slice A1 h.l c1) (.slice A2 h.a c2) (.slice A3 h.o c3) (.int .i64 0) (.int .i64 0))
                                obtain ⟨⟨x0, x1, x2, x3⟩, _⟩ := box4 HI.out.g
                                obtain ⟨⟨y0, y1, y2, y3⟩, yz⟩ := box4 HI.out.r2
                                have yz0 := yz 0
                                have yz1 := yz 1
                                have yz2 := yz 2
                                have yz3 := yz 3
                                obtain ⟨⟨v0, v1⟩, vz⟩ := box2 HI.out.r3
                                have vz0 := vz 0
                                have vz1 := vz 1
                                clear yz vz
                                go_wp2_with fail
                                exact bodyPost_ret (v := .tuple #[.agg #[.int .i64 (h.i : Int), .slice A1 h.l c1, .slice A2 h.a c2, .slice A3 h.o c3], .agg #[.int .i64 0, .int .i64 0]]) (outsW rfl rfl HR.out.1 HR.out.2.1) rfl ⟨.inr ⟨h, A1, A2, A3, c1, c2, c3, ⟨HQ.out.symm, HU.out, HFN.out⟩, rfl, HI.out.at_ HR.out.2.2.2⟩, HR.out.2.2.1⟩
                            | false =>
                              have HNC : Hid ([99] ∉ ((linA txt []).drop at_)) := Lib.hid (fun hm => by have := HCC.out.2 hm; cases this)
                              cases T with
                              | true =>
                                have HFN : Hid (tailF (tlA txt []) ((linA txt []).drop (h.rows + 1)) (h.rows + 1) = none) := Lib.hid (by rw [← HAR.out, bhF_end _ _ at_ HK0.out HNC.out, if_pos (by have h9 := HTE.out; simpa using h9.symm)])
                                have HR := Lib.hid (RfI.res (w0 := w) HI.out.r2 HI.out.r3 HI.out.bel (by have := HE.out; omega) (by have := HE.out; omega) (.int .i64 (h.i : Int)) (.slice A1 h.l c1) (.slice A2 h.a c2) (.slice A3 h.o c3) (.int .i64 0) (.int .i64 0))
                                obtain ⟨⟨x0, x1, x2, x3⟩, _⟩ := box4 HI.out.g
                                obtain ⟨⟨y0, y1, y2, y3⟩, yz⟩ := box4 HI.out.r2
                                have yz0 := yz 0
                                have yz1 := yz 1
                                have yz2 := yz 2
                                have yz3 := yz 3
                                obtain ⟨⟨v0, v1⟩, vz⟩ := box2 HI.out.r3
                                have vz0 := vz 0
                                have vz1 := vz 1
                                clear yz vz
                                go_wp2_with fail
                                exact bodyPost_ret (v := .tuple #[.agg #[.int .i64 (h.i : Int), .slice A1 h.l c1, .slice A2 h.a c2, .slice A3 h.o c3], .agg #[.int .i64 0, .int .i64 0]]) (outsW rfl rfl HR.out.1 HR.out.2.1) rfl ⟨.inr ⟨h, A1, A2, A3, c1, c2, c3, ⟨HQ.out.symm, HU.out, HFN.out⟩, rfl, HI.out.at_ HR.out.2.2.2⟩, HR.out.2.2.1⟩
                              | false =>
                                have HBD : Hid (BadT txt (LL + 1)) := Lib.hid (.inr ⟨h, HQ.out.symm, .inr ⟨HU.out, by
                                  rw [← HAR.out, bhF_end (tlA txt []) _ at_ HK0.out HNC.out, if_neg (by intro e; have h9 := HTE.out; rw [e] at h9; simp at h9), List.length_drop, ← HLL.out]
                                  rw [show at_ + (LL - at_) + 1 = LL + 1 by omega]⟩⟩)
                                have HX2 := Lib.hid HI.out.r2
                                have HX3 := Lib.hid HI.out.r3
                                have HXB := Lib.hid HI.out.bel
                                go_wp2_with fail
                                refine (badLine_any LL wz (by omega)).mono ?_
                                rintro e wy ⟨rfl, hby⟩
                                have HY2 := Lib.hid (heap_below hby HX2.out); have HY3 := Lib.hid (heap_below hby HX3.out); have HYB := Lib.hid (HXB.out.trans (hby.mono HXB.out.size))
                                clear hby
                                obtain ⟨⟨y0, y1, y2, y3⟩, yz⟩ := box4 HY2.out
                                have yz0 := yz 0
                                have yz1 := yz 1
                                have yz2 := yz 2
                                have yz3 := yz 3
                                obtain ⟨⟨v0, v1⟩, vz⟩ := box2 HY3.out
                                have vz0 := vz 0
                                have vz1 := vz 1
                                have HR := Lib.hid (RfI.res (w0 := w) HY2.out HY3.out HYB.out (by have := HE.out; omega) (by have := HE.out; omega) (.int .i64 0) (.slice none 0 0) (.slice none 0 0) (.slice none 0 0) (.int .i64 16) (.int .i64 (((LL + 1) : Nat) : Int)))
                                clear yz vz
                                go_wp2_with fail
                                exact bodyPost_ret (v := .tuple #[.agg #[.int .i64 0, .slice none 0 0, .slice none 0 0, .slice none 0 0], .agg #[.int .i64 16, .int .i64 (((LL + 1) : Nat) : Int)]]) (outsW rfl rfl HR.out.1 HR.out.2.1) rfl ⟨.inl ⟨(LL + 1), HBD.out, rfl⟩, HR.out.2.2.1⟩
                      · have HBD : Hid (BadT txt K) := Lib.hid (.inr ⟨h, HQ.out.symm, .inr ⟨HU.out, by rw [← HAR.out, HKE.out]; exact bhF_bad _ _ _ (by rw [← HKE.out]; exact hK0)⟩⟩)
                        have hKp : (0 : Int) < (K : Int) := by omega
                        clear hK0
                        have HX2 := Lib.hid HI.out.r2
                        have HX3 := Lib.hid HI.out.r3
                        have HXB := Lib.hid HI.out.bel
                        have HY2 := HX2; have HY3 := HX3; have HYB := HXB
                        obtain ⟨⟨y0, y1, y2, y3⟩, yz⟩ := box4 HY2.out
                        have yz0 := yz 0
                        have yz1 := yz 1
                        have yz2 := yz 2
                        have yz3 := yz 3
                        obtain ⟨⟨v0, v1⟩, vz⟩ := box2 HY3.out
                        have vz0 := vz 0
                        have vz1 := vz 1
                        have HR := Lib.hid (RfI.res (w0 := w) HY2.out HY3.out HYB.out (by have := HE.out; omega) (by have := HE.out; omega) (.int .i64 0) (.slice none 0 0) (.slice none 0 0) (.slice none 0 0) (.int .i64 16) (.int .i64 ((K : Nat) : Int)))
                        clear yz vz
                        go_wp2_with fail
                        exact bodyPost_ret (v := .tuple #[.agg #[.int .i64 0, .slice none 0 0, .slice none 0 0, .slice none 0 0], .agg #[.int .i64 16, .int .i64 ((K : Nat) : Int)]]) (outsW rfl rfl HR.out.1 HR.out.2.1) rfl ⟨.inl ⟨K, HBD.out, rfl⟩, HR.out.2.2.1⟩
end Go.Proofs.YtngjbiipgbeemaaDoor
