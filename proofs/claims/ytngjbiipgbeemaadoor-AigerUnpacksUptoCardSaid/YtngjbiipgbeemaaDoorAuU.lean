/- aiger.Unpack, walked: the graph, or the fault. Conditions: the bytes lie in memory and are fewer than 1000000000; internal/bytealg.MaxLen holds a number. -/
import Derived.Test.YtngjbiipgbeemaaDoorAuG
namespace Go.Proofs.YtngjbiipgbeemaaDoor
open Go.RowKit Go.Shelf Go.Deep

def UkBad (w0 : World) (l : List UInt8) (e : Ending) (W : World) : Prop := ∃ p b, BadU l p ∧ e = .returned (.tuple #[.agg #[.int .i64 0, .slice none 0 0, .slice none 0 0, .slice none 0 0], .iface 59 (.pointer (some ⟨b, 0, none⟩))]) ∧ w0.heap.size ≤ b ∧ W.heap[b]? = some (.cells #[.int .i64 16, .int .i64 (p : Nat)] 38)
def UkFine (l : List UInt8) (e : Ending) (W : World) : Prop := ∃ h p0 p1 A1 A2 A3 c1 c2 c3, FineU l h p0 p1 ∧ e = .returned (.tuple #[.agg #[.int .i64 (h.i : Int), .slice A1 h.l c1, .slice A2 h.a c2, .slice A3 h.o c3], .nilIface]) ∧ (h.graphU l p0 p1).At W A1 A2 A3
attribute [local go_sem] Oper.semAt_some in
theorem outsV {tmps : Array Value} {W : World} {b : Nat} {x0 x1 x2 x3 v : Value} (h2 : tmps[2]? = some (.pointer (some ⟨b, 0, none⟩))) (h3 : tmps[3]? = some v) (h : W.heap[b]? = some (.cells #[x0, x1, x2, x3] 28)) :
    (results Tryd.f17 tmps).run Tryd.prog W = .ok (.tuple #[.agg #[x0, x1, x2, x3], v]) W := by
  obtain ⟨⟨c0, c1, c2, c3⟩, _⟩ := box4 h
  simp [results, Tryd.f17, go_sem, h2, h3, c0, c1, c2, c3]
theorem MemO.low {w : World} {A : Option Addr} {l : List UInt8} {c : Nat} (h : MemO w A l c) : ∀ b o t, A = some ⟨b, o, t⟩ → 0 < l.length → b < w.heap.size := fun b o t e hl => by
  obtain ⟨b', o', e', hm, _⟩ := h.at_ hl
  rw [e'] at e
  injection e with e
  injection e with e1 e2 e3
  subst e1
  exact World.block_lt_of_cell? w _ (hm 0 hl)
theorem hdU_fits {l : List UInt8} {h : Hd} {p0 : Nat} (e : hdU l = some (h, p0)) : h.i + h.l + h.a < 60000 ∧ h.l ≤ 6000 ∧ h.o ≤ 60000 ∧ 0 < l.length := by
  unfold hdU at e
  split at e
  · cases e
  · rename_i s q hln
    cases hh : hdrB [97, 105, 103] s with
    | none => rw [hh] at e; cases e
    | some h' =>
      rw [hh] at e
      simp only [Option.map_some, Option.some.injEq, Prod.mk.injEq] at e
      obtain ⟨rfl, rfl⟩ := e
      have h1 := hdr_fits hh
      have h2 := lnB_le hln
      omega
set_option maxRecDepth 100000 in
set_option maxHeartbeats 8000000 in
theorem unpack_any (l : List UInt8) (A : Option Addr) (c : Nat) (w : World) (hM : MemO w A l c) (hm : MaxT w) (hcm : c ≤ 9223372036854775807) (hl : l.length ≤ 1000000000) :
    Calls Tryd.prog 17 #[.slice A l.length c] w fun e w' => (UkBad w l e w' ∨ UkFine l e w') ∧ Below w.heap.size w w' := by
  have hlow := hM.low
  have hb2 := (Below.refl w.heap.size w).alloc (Nat.le_refl _) (.cells #[.int .i64 0, .slice none 0 0, .slice none 0 0, .slice none 0 0] 28)
  have hk2 := heap_alloc_new w (.cells #[.int .i64 0, .slice none 0 0, .slice none 0 0, .slice none 0 0] 28)
  have hz2 : (w.alloc (.cells #[.int .i64 0, .slice none 0 0, .slice none 0 0, .slice none 0 0] 28)).heap.size = w.heap.size + 1 := by simp
  have hb4 := (Below.refl (w.alloc (.cells #[.int .i64 0, .slice none 0 0, .slice none 0 0, .slice none 0 0] 28)).heap.size (w.alloc (.cells #[.int .i64 0, .slice none 0 0, .slice none 0 0, .slice none 0 0] 28))).alloc (Nat.le_refl _) (.cells #[.slice A l.length c, .int .i64 0] 78)
  have hk4 := heap_alloc_new (w.alloc (.cells #[.int .i64 0, .slice none 0 0, .slice none 0 0, .slice none 0 0] 28)) (.cells #[.slice A l.length c, .int .i64 0] 78)
  rw [hz2] at hk4 hb4
  go_enter Tryd.func17, Tryd.ntmps17
  go_upto_region 2 with (fail)
  have hz4 : ((w.alloc (.cells #[.int .i64 0, .slice none 0 0, .slice none 0 0, .slice none 0 0] 28)).alloc (.cells #[.slice A l.length c, .int .i64 0] 78)).heap.size = w.heap.size + 2 := by simp
  have hbb := hb2.trans (hb4.mono (by omega))
  have hk2' := heap_below (by rw [hz2]; exact hb4) hk2
  generalize (w.alloc (.cells #[.int .i64 0, .slice none 0 0, .slice none 0 0, .slice none 0 0] 28)).alloc (.cells #[.slice A l.length c, .int .i64 0] 78) = w1 at *
  obtain ⟨bu, hbc⟩ : ∃ b, b = w.heap.size + 1 := ⟨_, rfl⟩
  rw [← hbc] at hk4 ⊢
  obtain ⟨b2, hb2e⟩ : ∃ b, b = w.heap.size := ⟨_, rfl⟩
  rw [← hb2e] at hk2' ⊢
  have HE : Hid (b2 = w.heap.size ∧ bu = b2 + 1 ∧ w1.heap.size = bu + 1) := Lib.hid ⟨hb2e, by omega, by omega⟩
  have hup : UpO w1 bu A l.length c 0 := hk4
  have hgr := ugraph_any l bu A c w1 hup (hM.below hbb) (fun b o t e hp => by have := hlow b o t e hp; omega) (hm.below hbb) hcm hl
  have HB1 := Lib.hid hbb; have HK2 := Lib.hid hk2'; have HM1 := Lib.hid (hm.below hbb); have HMO := Lib.hid (hM.below hbb)
  have HLOW := Lib.hid hlow
  have HNO : Hid (¬ bu = 1) := Lib.hid (fun e => by
    obtain ⟨m, hm9⟩ := HM1.out
    have h := (box2 hup).1.1
    rw [e] at h
    rw [h] at hm9
    cases hm9)
  clear hb2 hk2 hz2 hb4 hk4 hz4 hbb hk2' hbc hb2e hup hm hM hlow
  go_wp2_with fail
  refine hgr.mono ?_
  rintro e w2 ⟨h, hO2⟩
  have hnc : ¬ b2 = bu := by have := HE.out; omega
  have HK2b := Lib.hid (hO2.heap HK2.out hnc)
  have HB2 : Hid (Below w.heap.size w w2) := Lib.hid (HB1.out.trans (hO2.below (fun b _ e => by have := HE.out; omega) HB1.out.size))
  have HM2 := Lib.hid (HM1.out.only hO2 (fun e => HNO.out e.symm))
  have HZ2 : Hid (bu < w2.heap.size) := Lib.hid (by have := hO2.size; have := HE.out; omega)
  have HO2 := Lib.hid hO2
  clear hgr hO2 HK2 HB1 HM1 hnc
  rcases h with ⟨gi, G1, G2, G3, m1, m2, m3, d1, d2, d3, p, hbad, rfl, hc⟩ | ⟨h, p0, p1, p, A1, A2, A3, c1, c2, c3, hd, hu, hgp, hple, rfl, hat, hc⟩
  · have HBD := Lib.hid hbad.bad; have HC := Lib.hid hc
    clear hbad hc
    go_upto_region 3 with (fail)
    have hb5 := (Below.refl w2.heap.size w2).alloc (Nat.le_refl _) (.cells #[.int .i64 gi, .slice G1 m1 d1, .slice G2 m2 d2, .slice G3 m3 d3] 28)
    have HK5 := Lib.hid (heap_below hb5 HK2b.out); have HC5 : Hid (UpO _ bu A l.length c p) := Lib.hid (heap_below hb5 HC.out); have HB5 := Lib.hid (HB2.out.trans (hb5.mono HB2.out.size))
    have HZ5 : Hid (bu < (w2.alloc (.cells #[.int .i64 gi, .slice G1 m1 d1, .slice G2 m2 d2, .slice G3 m3 d3] 28)).heap.size) := Lib.hid (Nat.lt_of_lt_of_le HZ2.out hb5.size)
    clear hb5
    generalize w2.alloc (.cells #[.int .i64 gi, .slice G1 m1 d1, .slice G2 m2 d2, .slice G3 m3 d3] 28) = w5 at *
    obtain ⟨x0, x1⟩ := (box2 HC5.out).1
    go_upto_region 7 with (fail)
    have hz6 := HB5.out.size
    obtain ⟨⟨y0, y1, y2, y3⟩, yz⟩ := box4 HK5.out
    have yz0 := yz 0
    have yz1 := yz 1
    have yz2 := yz 2
    have yz3 := yz 3
    clear yz
    refine wp_region_z (fun w' => w'.cell? ⟨bu, 1, none⟩ = some (.int .i64 (p : Nat))) [0, 1, 2, 3, 4, 5] [] (by kernel_rfl) (by kernel_rfl) (by kernel_rfl) (by rfl) (fun _ _ _ _ e h => ⟨e.symm.trans h.1, h.2⟩) x1 ?_
    iterate 6
      refine Heads.step (v := ?_) rfl (by first | (go_simp; done) | rfl) (fun W hW => ?_) ?_
      rotate_left
      · (have t0 := hW; go_simp; try with_reducible rfl)
    refine AnyZ.two (i := 6) (j := 8) (by kernel_rfl) rfl rfl (fun K hK => ?_) (fun K hK => ?_)
    · go_simp
      have hb6 : Below w5.heap.size w5 (w5.alloc (.cells #[.int .i64 16, .int .i64 (p : Nat)] 38)).drew := ((Below.refl _ _).alloc (Nat.le_refl _) _).drew
      have HF6 : Hid ((w5.alloc (.cells #[.int .i64 16, .int .i64 (p : Nat)] 38)).drew.heap[w5.heap.size]? = some (.cells #[.int .i64 16, .int .i64 (p : Nat)] 38)) := Lib.hid (heap_alloc_new w5 _)
      have HK6 := Lib.hid (heap_below hb6 HK5.out)
      have HB6 := Lib.hid (HB5.out.trans (hb6.mono HB5.out.size))
      replace x1 := (Keeps.of_below hb6) _ _ x1
      clear hb6 x0 y0 y1 y2 y3 yz0 yz1 yz2 yz3
      generalize (w5.alloc (.cells #[.int .i64 16, .int .i64 (p : Nat)] 38)).drew = w6 at *
      refine hK _ _ (fun _ => x1) ?_
      clear hK
      refine AnyZ.mid [7] [] 2 rfl (by kernel_rfl) (by kernel_rfl) (by kernel_rfl) (fun _ _ _ _ e h => ⟨e.symm.trans h.1, h.2⟩) x1 ?_
      iterate 1
        refine Heads.step (v := ?_) rfl (by first | (go_simp; done) | rfl) (fun W hW => ?_) ?_
        rotate_left
        · (have t0 := hW; go_simp; try with_reducible rfl)
      obtain ⟨⟨y0, y1, y2, y3⟩, yz⟩ := box4 HK6.out
      have yz0 := yz 0
      have yz1 := yz 1
      have yz2 := yz 2
      have yz3 := yz 3
      clear yz
      refine AnyZ.one (i := 8) (by kernel_rfl) rfl (fun K hK => ?_)
      go_simp
      rw [fold4s]
      have hk := st4_only w6 b2 (.int .i64 0) (.slice none 0 0) (.slice none 0 0) (.slice none 0 0)
      have hne : ¬ bu = b2 := by have := HE.out; omega
      have HB7 := Lib.hid (HB6.out.trans (hk.below (fun k _ e => by have := HE.out; omega) HB6.out.size))
      have HF7 := Lib.hid (hk.heap HF6.out (by have := HE.out; have := HZ5.out; omega))
      have HK7 := Lib.hid (st4_heap HK6.out (.int .i64 0) (.slice none 0 0) (.slice none 0 0) (.slice none 0 0))
      replace x1 := hk.cell (p := ⟨bu, 1, none⟩) x1 hne
      clear hk hne y0 y1 y2 y3 yz0 yz1 yz2 yz3
      generalize st4 w6 b2 _ _ _ _ = w7 at *
      refine hK _ _ (fun _ => x1) ?_
      clear hK
      refine AnyZ.mid [9] [] 0 rfl (by kernel_rfl) (by kernel_rfl) (by kernel_rfl) (fun _ _ _ _ e h => ⟨e.symm.trans h.1, h.2⟩) x1 ?_
      iterate 1
        refine Heads.step (v := ?_) rfl (by first | (go_simp; done) | rfl) (fun W hW => ?_) ?_
        rotate_left
        · (have t0 := hW; go_simp; try with_reducible rfl)
      refine AnyZ.done (by kernel_rfl) ?_
      go_simp
      go_wp2_with fail
      exact bodyPost_ret (v := .tuple #[.agg #[.int .i64 0, .slice none 0 0, .slice none 0 0, .slice none 0 0], .iface 59 (.pointer (some ⟨w5.heap.size, 0, none⟩))]) (outsV rfl rfl HK7.out) rfl ⟨.inl ⟨p, _, HBD.out, rfl, hz6, HF7.out⟩, HB7.out⟩
    · go_simp
      rw [fold4s]
      have hk := st4_only w5 b2 (.int .i64 0) (.slice none 0 0) (.slice none 0 0) (.slice none 0 0)
      have hne : ¬ bu = b2 := by have := HE.out; omega
      have HB6 : Hid (Below w.heap.size w (st4 w5 b2 (.int .i64 0) (.slice none 0 0) (.slice none 0 0) (.slice none 0 0)).drew) := Lib.hid ((HB5.out.trans (hk.below (fun k _ e => by have := HE.out; omega) HB5.out.size)).drew)
      have HK6 : Hid ((st4 w5 b2 (.int .i64 0) (.slice none 0 0) (.slice none 0 0) (.slice none 0 0)).drew.heap[b2]? = _) := Lib.hid (st4_heap HK5.out (.int .i64 0) (.slice none 0 0) (.slice none 0 0) (.slice none 0 0))
      have hsz : (st4 w5 b2 (.int .i64 0) (.slice none 0 0) (.slice none 0 0) (.slice none 0 0)).drew.heap.size = w5.heap.size := by simp [st4]
      have x1' : (st4 w5 b2 (.int .i64 0) (.slice none 0 0) (.slice none 0 0) (.slice none 0 0)).drew.cell? ⟨bu, 1, none⟩ = some (.int .i64 (p : Nat)) := hk.cell (p := ⟨bu, 1, none⟩) x1 hne
      clear hk hne y0 y1 y2 y3 yz0 yz1 yz2 yz3 x0 x1
      have x1 := x1'
      clear x1'
      generalize (st4 w5 b2 (.int .i64 0) (.slice none 0 0) (.slice none 0 0) (.slice none 0 0)).drew = w6 at *
      refine hK _ _ (fun _ => x1) ?_
      clear hK
      refine AnyZ.one (i := 6) (by kernel_rfl) rfl (fun K hK => ?_)
      go_simp
      have hb7 : Below w6.heap.size w6 (w6.alloc (.cells #[.int .i64 16, .int .i64 (p : Nat)] 38)) := (Below.refl _ _).alloc (Nat.le_refl _) _
      have HF7 : Hid ((w6.alloc (.cells #[.int .i64 16, .int .i64 (p : Nat)] 38)).heap[w5.heap.size]? = some (.cells #[.int .i64 16, .int .i64 (p : Nat)] 38)) := Lib.hid (by rw [← hsz]; exact heap_alloc_new w6 _)
      have HK7 := Lib.hid (heap_below hb7 HK6.out)
      have HB7 := Lib.hid (HB6.out.trans (hb7.mono HB6.out.size))
      replace x1 := (Keeps.of_below hb7) _ _ x1
      clear hb7 hsz
      generalize w6.alloc (.cells #[.int .i64 16, .int .i64 (p : Nat)] 38) = w7 at *
      refine hK _ _ (fun _ => x1) ?_
      clear hK
      refine AnyZ.mid [7, 9] [] 0 rfl (by kernel_rfl) (by kernel_rfl) (by kernel_rfl) (fun _ _ _ _ e h => ⟨e.symm.trans h.1, h.2⟩) x1 ?_
      iterate 2
        refine Heads.step (v := ?_) rfl (by first | (go_simp; done) | rfl) (fun W hW => ?_) ?_
        rotate_left
        · (have t0 := hW; go_simp; try with_reducible rfl)
      refine AnyZ.done (by kernel_rfl) ?_
      go_simp
      go_wp2_with fail
      exact bodyPost_ret (v := .tuple #[.agg #[.int .i64 0, .slice none 0 0, .slice none 0 0, .slice none 0 0], .iface 59 (.pointer (some ⟨w5.heap.size, 0, none⟩))]) (outsV rfl rfl HK7.out) rfl ⟨.inl ⟨p, _, HBD.out, rfl, hz6, HF7.out⟩, HB7.out⟩
  · have hfit := hdU_fits hd
    obtain ⟨bA, oA, rfl, hmem, hlc⟩ := HMO.out.at_ hfit.2.2.2
    have HD := Lib.hid hd; have HU := Lib.hid hu; have HGP := Lib.hid hgp; have HC := Lib.hid hc; have HAT := Lib.hid hat
    have hmem2 : MemB w2 bA oA l := hmem.only HO2.out (by have := HLOW.out bA oA none rfl hfit.2.2.2; have := HE.out; omega)
    have HMEM2 := Lib.hid hmem2
    clear hd hu hgp hc hat hmem hmem2
    go_upto_region 3 with (fail)
    have hb5 := (Below.refl w2.heap.size w2).alloc (Nat.le_refl _) (.cells #[.int .i64 (h.i : Int), .slice A1 h.l c1, .slice A2 h.a c2, .slice A3 h.o c3] 28)
    have HG5 := Lib.hid (heap_alloc_new w2 (.cells #[.int .i64 (h.i : Int), .slice A1 h.l c1, .slice A2 h.a c2, .slice A3 h.o c3] 28))
    have HK5 := Lib.hid (heap_below hb5 HK2b.out); have HC5 : Hid (UpO _ bu _ l.length c p) := Lib.hid (heap_below hb5 HC.out); have HB5 := Lib.hid (HB2.out.trans (hb5.mono HB2.out.size))
    have hm5 := HM2.out.below hb5
    have hcv := conv_tail (w2.alloc (.cells #[.int .i64 (h.i : Int), .slice A1 h.l c1, .slice A2 h.a c2, .slice A3 h.o c3] 28)) bA oA c l p (HMEM2.out.below hb5) hple hlc
    have HO5 : Hid (Only (fun k => k < w1.heap.size) w2 (w2.alloc (.cells #[.int .i64 (h.i : Int), .slice A1 h.l c1, .slice A2 h.a c2, .slice A3 h.o c3] 28))) := Lib.hid ((Only.refl _ w2).call hb5)
    have HZ5 : Hid (bu < (w2.alloc (.cells #[.int .i64 (h.i : Int), .slice A1 h.l c1, .slice A2 h.a c2, .slice A3 h.o c3] 28)).heap.size ∧ w2.heap.size < (w2.alloc (.cells #[.int .i64 (h.i : Int), .slice A1 h.l c1, .slice A2 h.a c2, .slice A3 h.o c3] 28)).heap.size) := Lib.hid ⟨Nat.lt_of_lt_of_le HZ2.out hb5.size, by simp⟩
    clear hb5
    generalize w2.alloc (.cells #[.int .i64 (h.i : Int), .slice A1 h.l c1, .slice A2 h.a c2, .slice A3 h.o c3] 28) = w5 at *
    obtain ⟨x0, x1⟩ := (box2 HC5.out).1
    have hpn : (p : Int) ≤ (l.length : Int) := by omega
    obtain ⟨rest, hrest⟩ : ∃ r, r = l.drop p := ⟨_, rfl⟩
    have HRE := Lib.hid hrest
    have hrl : rest.length ≤ 1000000000 := by rw [hrest, List.length_drop]; omega
    rw [← hrest] at hcv
    have hcp5 : Below w5.heap.size w5 (w5.alloc (.cells #[.string (bstr rest), .int .i64 0] 55)) := (Below.refl _ _).alloc (Nat.le_refl _) _
    have hkc := heap_alloc_new w5 (.cells #[.string (bstr rest), .int .i64 0] 55)
    have hszc : (w5.alloc (.cells #[.string (bstr rest), .int .i64 0] 55)).heap.size = w5.heap.size + 1 := by simp
    obtain ⟨sr, hsr⟩ : ∃ s, s = bstr rest := ⟨_, rfl⟩
    rw [← hsr] at hcv hcp5 hkc hszc
    have HSR := Lib.hid hsr
    clear hrest hsr
    go_upto_region 5 with (fail)
    generalize hX : (if c = p then (some ⟨bA, oA, none⟩ : Option Addr) else some ⟨bA, oA + p, none⟩) = X
    clear hX hcv x0 x1
    have HK6 := Lib.hid (heap_below hcp5 HK5.out); have HG6 := Lib.hid (heap_below hcp5 HG5.out); have HC6 : Hid (UpO _ bu _ l.length c p) := Lib.hid (heap_below hcp5 HC5.out); have HB6 := Lib.hid (HB5.out.trans (hcp5.mono HB5.out.size))
    have HO6 := Lib.hid (HO5.out.call hcp5)
    have hm6 := hm5.below hcp5
    generalize w5.alloc (.cells #[.string sr, .int .i64 0] 55) = w6 at *
    obtain ⟨bc, hbc⟩ : ∃ b, b = w5.heap.size := ⟨_, rfl⟩
    rw [← hbc] at hkc ⊢
    have hcur : CurAt w6 bc rest 0 := by unfold CurAt; rw [← HSR.out]; exact hkc
    have HBCE : Hid (bc = w5.heap.size ∧ w6.heap.size = bc + 1 ∧ bu < bc ∧ w2.heap.size < bc) := Lib.hid ⟨hbc, by omega, by have := HZ5.out.1; omega, by have := HZ5.out.2; omega⟩
    have htl := tail_any bc 0 rest w6 hcur hm6 hrl (by omega)
    rw [HRE.out] at htl
    obtain ⟨TF, hTF⟩ : ∃ t, t = tailU l p := ⟨_, rfl⟩
    have HTF := Lib.hid hTF
    obtain ⟨b5, hb5⟩ : ∃ b, b = w2.heap.size := ⟨_, rfl⟩
    rw [← hb5] at HG6 HBCE ⊢
    have HB5E := Lib.hid hb5
    clear hb5 hbc hkc hszc hcp5 hm5 hm6 hcur HK5 HG5 HC5 HB5 HO5 hTF hpn
    go_wp2_with fail
    refine htl.mono ?_
    rintro e w4 ⟨ht, hO4⟩
    have HK4 := Lib.hid (hO4.heap HK6.out (by have := HE.out; have := HBCE.out; omega))
    have HG4 := Lib.hid (hO4.heap HG6.out (by have := HBCE.out; omega))
    have HC4 : Hid (UpO w4 bu _ l.length c p) := Lib.hid (hO4.heap HC6.out (by have := HBCE.out; omega))
    have HB4 := Lib.hid (HB6.out.trans (hO4.below (fun b _ e => by have := HE.out; have := HBCE.out; omega) HB6.out.size))
    have HO4' := Lib.hid (HO6.out.then_ hO4 (fun i hi hs => by have h1 := HE.out; have h2 := HBCE.out; have h3 := HB5E.out; have h4 : i = bc := hs; omega))
    have HZ4 : Hid (bu < w4.heap.size) := Lib.hid (by have := hO4.size; have := HBCE.out; omega)
    clear htl hO4 HK6 HG6 HB6 HO6 HC6
    rcases ht with ⟨ht, rfl⟩ | ⟨q, rest', ht, rfl, hc4⟩
    · have HFT : Hid (FineU l h p0 p1) := Lib.hid ⟨HD.out, HU.out, p, HGP.out, ht⟩
      clear ht
      obtain ⟨⟨x0, x1, x2, x3⟩, _⟩ := box4 HG4.out
      obtain ⟨⟨y0, y1, y2, y3⟩, yz⟩ := box4 HK4.out
      have yz0 := yz 0
      have yz1 := yz 1
      have yz2 := yz 2
      have yz3 := yz 3
      have hk := st4_only w4 b2 (.int .i64 (h.i : Int)) (.slice A1 h.l c1) (.slice A2 h.a c2) (.slice A3 h.o c3)
      have HB7 := Lib.hid (HB4.out.trans (hk.below (fun k _ e => by have := HE.out; omega) HB4.out.size))
      have HA7 := Lib.hid (HAT.out _ (HO4'.out.then_ hk (fun i hi hs => by have := HE.out; omega)))
      clear yz hk
      go_wp2_with fail
      exact bodyPost_ret (v := .tuple #[.agg #[.int .i64 (h.i : Int), .slice A1 h.l c1, .slice A2 h.a c2, .slice A3 h.o c3], .nilIface]) (outsV rfl rfl (st4_heap HK4.out _ _ _ _)) rfl ⟨.inr ⟨h, p0, p1, A1, A2, A3, c1, c2, c3, HFT.out, rfl, HA7.out⟩, HB7.out⟩
    · have HBD : Hid (BadU l p) := Lib.hid (.inr ⟨h, p0, HD.out, .inr ⟨p1, HU.out, .inr ⟨HGP.out, by show tailF _ _ _ ≠ none; rw [ht]; simp⟩⟩⟩)
      clear ht hc4
      obtain ⟨x0, x1⟩ := (box2 HC4.out).1
      go_upto_region 7 with (fail)
      have hz6 := HB4.out.size
      obtain ⟨⟨y0, y1, y2, y3⟩, yz⟩ := box4 HK4.out
      have yz0 := yz 0
      have yz1 := yz 1
      have yz2 := yz 2
      have yz3 := yz 3
      clear yz
      refine wp_region_z (fun w' => w'.cell? ⟨bu, 1, none⟩ = some (.int .i64 (p : Nat))) [0, 1, 2, 3, 4, 5] [] (by kernel_rfl) (by kernel_rfl) (by kernel_rfl) (by rfl) (fun _ _ _ _ e h => ⟨e.symm.trans h.1, h.2⟩) x1 ?_
      iterate 6
        refine Heads.step (v := ?_) rfl (by first | (go_simp; done) | rfl) (fun W hW => ?_) ?_
        rotate_left
        · (have t0 := hW; go_simp; try with_reducible rfl)
      refine AnyZ.two (i := 6) (j := 8) (by kernel_rfl) rfl rfl (fun K hK => ?_) (fun K hK => ?_)
      · go_simp
        have hb6 : Below w4.heap.size w4 (w4.alloc (.cells #[.int .i64 16, .int .i64 (p : Nat)] 38)).drew := ((Below.refl _ _).alloc (Nat.le_refl _) _).drew
        have HF6 : Hid ((w4.alloc (.cells #[.int .i64 16, .int .i64 (p : Nat)] 38)).drew.heap[w4.heap.size]? = some (.cells #[.int .i64 16, .int .i64 (p : Nat)] 38)) := Lib.hid (heap_alloc_new w4 _)
        have HK6 := Lib.hid (heap_below hb6 HK4.out)
        have HB6 := Lib.hid (HB4.out.trans (hb6.mono HB4.out.size))
        replace x1 := (Keeps.of_below hb6) _ _ x1
        clear hb6 x0 y0 y1 y2 y3 yz0 yz1 yz2 yz3
        generalize (w4.alloc (.cells #[.int .i64 16, .int .i64 (p : Nat)] 38)).drew = w6 at *
        refine hK _ _ (fun _ => x1) ?_
        clear hK
        refine AnyZ.mid [7] [] 2 rfl (by kernel_rfl) (by kernel_rfl) (by kernel_rfl) (fun _ _ _ _ e h => ⟨e.symm.trans h.1, h.2⟩) x1 ?_
        iterate 1
          refine Heads.step (v := ?_) rfl (by first | (go_simp; done) | rfl) (fun W hW => ?_) ?_
          rotate_left
          · (have t0 := hW; go_simp; try with_reducible rfl)
        obtain ⟨⟨y0, y1, y2, y3⟩, yz⟩ := box4 HK6.out
        have yz0 := yz 0
        have yz1 := yz 1
        have yz2 := yz 2
        have yz3 := yz 3
        clear yz
        refine AnyZ.one (i := 8) (by kernel_rfl) rfl (fun K hK => ?_)
        go_simp
        rw [fold4s]
        have hk := st4_only w6 b2 (.int .i64 0) (.slice none 0 0) (.slice none 0 0) (.slice none 0 0)
        have hne : ¬ bu = b2 := by have := HE.out; omega
        have HB7 := Lib.hid (HB6.out.trans (hk.below (fun k _ e => by have := HE.out; omega) HB6.out.size))
        have HF7 := Lib.hid (hk.heap HF6.out (by have := HE.out; have := HZ4.out; omega))
        have HK7 := Lib.hid (st4_heap HK6.out (.int .i64 0) (.slice none 0 0) (.slice none 0 0) (.slice none 0 0))
        replace x1 := hk.cell (p := ⟨bu, 1, none⟩) x1 hne
        clear hk hne y0 y1 y2 y3 yz0 yz1 yz2 yz3
        generalize st4 w6 b2 _ _ _ _ = w7 at *
        refine hK _ _ (fun _ => x1) ?_
        clear hK
        refine AnyZ.mid [9] [] 0 rfl (by kernel_rfl) (by kernel_rfl) (by kernel_rfl) (fun _ _ _ _ e h => ⟨e.symm.trans h.1, h.2⟩) x1 ?_
        iterate 1
          refine Heads.step (v := ?_) rfl (by first | (go_simp; done) | rfl) (fun W hW => ?_) ?_
          rotate_left
          · (have t0 := hW; go_simp; try with_reducible rfl)
        refine AnyZ.done (by kernel_rfl) ?_
        go_simp
        go_wp2_with fail
        exact bodyPost_ret (v := .tuple #[.agg #[.int .i64 0, .slice none 0 0, .slice none 0 0, .slice none 0 0], .iface 59 (.pointer (some ⟨w4.heap.size, 0, none⟩))]) (outsV rfl rfl HK7.out) rfl ⟨.inl ⟨p, _, HBD.out, rfl, hz6, HF7.out⟩, HB7.out⟩
      · go_simp
        rw [fold4s]
        have hk := st4_only w4 b2 (.int .i64 0) (.slice none 0 0) (.slice none 0 0) (.slice none 0 0)
        have hne : ¬ bu = b2 := by have := HE.out; omega
        have HB6 : Hid (Below w.heap.size w (st4 w4 b2 (.int .i64 0) (.slice none 0 0) (.slice none 0 0) (.slice none 0 0)).drew) := Lib.hid ((HB4.out.trans (hk.below (fun k _ e => by have := HE.out; omega) HB4.out.size)).drew)
        have HK6 : Hid ((st4 w4 b2 (.int .i64 0) (.slice none 0 0) (.slice none 0 0) (.slice none 0 0)).drew.heap[b2]? = _) := Lib.hid (st4_heap HK4.out (.int .i64 0) (.slice none 0 0) (.slice none 0 0) (.slice none 0 0))
        have hsz : (st4 w4 b2 (.int .i64 0) (.slice none 0 0) (.slice none 0 0) (.slice none 0 0)).drew.heap.size = w4.heap.size := by simp [st4]
        have x1' : (st4 w4 b2 (.int .i64 0) (.slice none 0 0) (.slice none 0 0) (.slice none 0 0)).drew.cell? ⟨bu, 1, none⟩ = some (.int .i64 (p : Nat)) := hk.cell (p := ⟨bu, 1, none⟩) x1 hne
        clear hk hne y0 y1 y2 y3 yz0 yz1 yz2 yz3 x0 x1
        have x1 := x1'
        clear x1'
        generalize (st4 w4 b2 (.int .i64 0) (.slice none 0 0) (.slice none 0 0) (.slice none 0 0)).drew = w6 at *
        refine hK _ _ (fun _ => x1) ?_
        clear hK
        refine AnyZ.one (i := 6) (by kernel_rfl) rfl (fun K hK => ?_)
        go_simp
        have hb7 : Below w6.heap.size w6 (w6.alloc (.cells #[.int .i64 16, .int .i64 (p : Nat)] 38)) := (Below.refl _ _).alloc (Nat.le_refl _) _
        have HF7 : Hid ((w6.alloc (.cells #[.int .i64 16, .int .i64 (p : Nat)] 38)).heap[w4.heap.size]? = some (.cells #[.int .i64 16, .int .i64 (p : Nat)] 38)) := Lib.hid (by rw [← hsz]; exact heap_alloc_new w6 _)
        have HK7 := Lib.hid (heap_below hb7 HK6.out)
        have HB7 := Lib.hid (HB6.out.trans (hb7.mono HB6.out.size))
        replace x1 := (Keeps.of_below hb7) _ _ x1
        clear hb7 hsz
        generalize w6.alloc (.cells #[.int .i64 16, .int .i64 (p : Nat)] 38) = w7 at *
        refine hK _ _ (fun _ => x1) ?_
        clear hK
        refine AnyZ.mid [7, 9] [] 0 rfl (by kernel_rfl) (by kernel_rfl) (by kernel_rfl) (fun _ _ _ _ e h => ⟨e.symm.trans h.1, h.2⟩) x1 ?_
        iterate 2
          refine Heads.step (v := ?_) rfl (by first | (go_simp; done) | rfl) (fun W hW => ?_) ?_
          rotate_left
          · (have t0 := hW; go_simp; try with_reducible rfl)
        refine AnyZ.done (by kernel_rfl) ?_
        go_simp
        go_wp2_with fail
        exact bodyPost_ret (v := .tuple #[.agg #[.int .i64 0, .slice none 0 0, .slice none 0 0, .slice none 0 0], .iface 59 (.pointer (some ⟨w4.heap.size, 0, none⟩))]) (outsV rfl rfl HK7.out) rfl ⟨.inl ⟨p, _, HBD.out, rfl, hz6, HF7.out⟩, HB7.out⟩
end Go.Proofs.YtngjbiipgbeemaaDoor
