/- aiger.Parse, walked: the graph, or the fault. Conditions: the text is shorter than 1000000000 bytes; internal/bytealg.MaxLen holds a number. -/
import Derived.Test.YtngjbiipgbeemaaDoorGrA
namespace Go.Proofs.YtngjbiipgbeemaaDoor
open Go.RowKit Go.Shelf Go.Deep

def PrBad (w0 : World) (txt : List UInt8) (e : Ending) (W : World) : Prop := ∃ p b, BadT txt p ∧ e = .returned (.tuple #[.agg #[.int .i64 0, .slice none 0 0, .slice none 0 0, .slice none 0 0], .iface 59 (.pointer (some ⟨b, 0, none⟩))]) ∧ w0.heap.size ≤ b ∧ W.heap[b]? = some (.cells #[.int .i64 16, .int .i64 (p : Nat)] 38)
def PrFine (txt : List UInt8) (e : Ending) (W : World) : Prop := ∃ h A1 A2 A3 c1 c2 c3, FineT txt h ∧ e = .returned (.tuple #[.agg #[.int .i64 (h.i : Int), .slice A1 h.l c1, .slice A2 h.a c2, .slice A3 h.o c3], .nilIface]) ∧ (h.graph (linA txt [])).At W A1 A2 A3
attribute [local go_sem] Oper.semAt_some in
theorem outsB {tmps : Array Value} {W : World} {b : Nat} {x0 x1 x2 x3 v : Value} (h2 : tmps[2]? = some (.pointer (some ⟨b, 0, none⟩))) (h3 : tmps[3]? = some v) (h : W.heap[b]? = some (.cells #[x0, x1, x2, x3] 28)) :
    (results Tryd.f10 tmps).run Tryd.prog W = .ok (.tuple #[.agg #[x0, x1, x2, x3], v]) W := by
  obtain ⟨⟨c0, c1, c2, c3⟩, _⟩ := box4 h
  simp [results, Tryd.f10, go_sem, h2, h3, c0, c1, c2, c3]
set_option maxRecDepth 100000 in
set_option maxHeartbeats 8000000 in
theorem parse_any (txt : List UInt8) (w : World) (hm : MaxT w) (hl : txt.length ≤ 1000000000) :
    Calls Tryd.prog 10 #[.string (bstr txt)] w fun e w' => (PrBad w txt e w' ∨ PrFine txt e w') ∧ Below w.heap.size w w' := by
  obtain ⟨s, hs⟩ : ∃ s, s = bstr txt := ⟨_, rfl⟩
  rw [← hs]
  have HS := Lib.hid hs
  clear hs
  have hb2 := (Below.refl w.heap.size w).alloc (Nat.le_refl _) (.cells #[.int .i64 0, .slice none 0 0, .slice none 0 0, .slice none 0 0] 28)
  have hk2 := heap_alloc_new w (.cells #[.int .i64 0, .slice none 0 0, .slice none 0 0, .slice none 0 0] 28)
  have hz2 : (w.alloc (.cells #[.int .i64 0, .slice none 0 0, .slice none 0 0, .slice none 0 0] 28)).heap.size = w.heap.size + 1 := by simp
  have hb4 := (Below.refl (w.alloc (.cells #[.int .i64 0, .slice none 0 0, .slice none 0 0, .slice none 0 0] 28)).heap.size (w.alloc (.cells #[.int .i64 0, .slice none 0 0, .slice none 0 0, .slice none 0 0] 28))).alloc (Nat.le_refl _) (.cells #[.string s, .int .i64 0] 55)
  have hk4 := heap_alloc_new (w.alloc (.cells #[.int .i64 0, .slice none 0 0, .slice none 0 0, .slice none 0 0] 28)) (.cells #[.string s, .int .i64 0] 55)
  rw [hz2] at hk4 hb4
  go_enter Tryd.func10, Tryd.ntmps10
  go_upto_region 2 with (fail)
  have hz4 : ((w.alloc (.cells #[.int .i64 0, .slice none 0 0, .slice none 0 0, .slice none 0 0] 28)).alloc (.cells #[.string s, .int .i64 0] 55)).heap.size = w.heap.size + 2 := by simp
  have hbb := hb2.trans (hb4.mono (by omega))
  have hk2' := heap_below (by rw [hz2]; exact hb4) hk2
  generalize (w.alloc (.cells #[.int .i64 0, .slice none 0 0, .slice none 0 0, .slice none 0 0] 28)).alloc (.cells #[.string s, .int .i64 0] 55) = w1 at *
  obtain ⟨bc, hbc⟩ : ∃ b, b = w.heap.size + 1 := ⟨_, rfl⟩
  rw [← hbc] at hk4 ⊢
  obtain ⟨b2, hb2e⟩ : ∃ b, b = w.heap.size := ⟨_, rfl⟩
  rw [← hb2e] at hk2' ⊢
  have HE : Hid (b2 = w.heap.size ∧ bc = b2 + 1 ∧ w1.heap.size = bc + 1) := Lib.hid ⟨hb2e, by omega, by omega⟩
  have hcur : CurAt w1 bc txt 0 := by unfold CurAt; rw [← HS.out]; exact hk4
  have hgr := graph_any txt bc w1 hcur (hm.below hbb) hl
  have HB1 := Lib.hid hbb; have HK2 := Lib.hid hk2'; have HC1 := Lib.hid hcur; have HM1 := Lib.hid (hm.below hbb)
  clear hb2 hk2 hz2 hb4 hk4 hz4 hbb hk2' hbc hb2e hcur hm
  go_wp2_with fail
  refine hgr.mono ?_
  rintro e w2 ⟨h, hO2⟩
  have hnc : ¬ b2 = bc := by have := HE.out; omega
  have HK2b := Lib.hid (hO2.heap HK2.out hnc)
  have HB2 : Hid (Below w.heap.size w w2) := Lib.hid (HB1.out.trans (hO2.below (fun b _ e => by have := HE.out; omega) HB1.out.size))
  have HM2 := Lib.hid (HM1.out.only hO2 (fun e => HC1.out.no1 HM1.out e.symm))
  have HZ2 : Hid (bc < w2.heap.size) := Lib.hid (by have := hO2.size; have := HE.out; omega)
  clear hgr hO2 HK2 HB1 HM1 hnc
  rcases h with ⟨gi, G1, G2, G3, m1, m2, m3, d1, d2, d3, p, rest, hbad, rfl, hc⟩ | ⟨h, rest, A1, A2, A3, c1, c2, c3, hd, hu, rfl, hat, hc, hlin, htl, hlen⟩
  · have HBD := Lib.hid hbad.bad; have HC := Lib.hid hc
    clear hbad hc
    go_upto_region 3 with (fail)
    have hb5 := (Below.refl w2.heap.size w2).alloc (Nat.le_refl _) (.cells #[.int .i64 gi, .slice G1 m1 d1, .slice G2 m2 d2, .slice G3 m3 d3] 28)
    have HK5 := Lib.hid (heap_below hb5 HK2b.out); have HC5 : Hid (CurAt _ bc rest p) := Lib.hid (heap_below hb5 HC.out); have HB5 := Lib.hid (HB2.out.trans (hb5.mono HB2.out.size))
    have HZ5 : Hid (bc < (w2.alloc (.cells #[.int .i64 gi, .slice G1 m1 d1, .slice G2 m2 d2, .slice G3 m3 d3] 28)).heap.size) := Lib.hid (Nat.lt_of_lt_of_le HZ2.out hb5.size)
    clear hb5
    generalize w2.alloc (.cells #[.int .i64 gi, .slice G1 m1 d1, .slice G2 m2 d2, .slice G3 m3 d3] 28) = w5 at *
    obtain ⟨x0, x1⟩ := (box2 HC5.out).1
    go_upto_region 4 with (fail)
    have hz6 := HB5.out.size
    obtain ⟨⟨y0, y1, y2, y3⟩, yz⟩ := box4 HK5.out
    have yz0 := yz 0
    have yz1 := yz 1
    have yz2 := yz 2
    have yz3 := yz 3
    clear yz
    refine wp_region_z (fun w' => w'.cell? ⟨bc, 1, none⟩ = some (.int .i64 (p : Nat))) [0, 1, 2, 3, 4, 5] [] (by kernel_rfl) (by kernel_rfl) (by kernel_rfl) (by rfl) (fun _ _ _ _ e h => ⟨e.symm.trans h.1, h.2⟩) x1 ?_
    iterate 6
      refine Heads.step (v := ?_) rfl (by first | (go_simp; done) | rfl) (fun W hW => ?_) ?_
      rotate_left
      · (have t0 := hW; go_simp; try with_reducible rfl)
    refine AnyZ.two (i := 6) (j := 8) (by kernel_rfl) rfl rfl (fun K hK => ?_) (fun K hK => ?_)
    · go_simp
      have hb6 : Below w5.heap.size w5 (w5.alloc (.cells #[.int .i64 16, .int .i64 (p : Nat)] 38)).drew := ((Below.refl _ _).alloc (Nat.le_refl _) _).drew
      have HF6 : Hid ((w5.alloc (.cells #[.int .i64 16, .int .i64 (p : Nat)] 38)).drew.heap[w5.heap.size]? = some (.cells #[.int .i64 16, .int .i64 (p : Nat)] 38)) := Lib.hid (heap_alloc_new w5 _)
      have HK6 := Lib.hid (heap_below hb6 HK5.out)
      have HB6 := Lib.hid (HB5.out.trans (hb6.mono HB5.out.size))
      replace x1 := (Keeps.of_below hb6) _ _ x1
      clear hb6 x0 y0 y1 y2 y3 yz0 yz1 yz2 yz3
      generalize (w5.alloc (.cells #[.int .i64 16, .int .i64 (p : Nat)] 38)).drew = w6 at *
      refine hK _ _ (fun _ => x1) ?_
      clear hK
      refine AnyZ.mid [7] [] 2 rfl (by kernel_rfl) (by kernel_rfl) (by kernel_rfl) (fun _ _ _ _ e h => ⟨e.symm.trans h.1, h.2⟩) x1 ?_
      iterate 1
        refine Heads.step (v := ?_) rfl (by first | (go_simp; done) | rfl) (fun W hW => ?_) ?_
        rotate_left
        · (have t0 := hW; go_simp; try with_reducible rfl)
      obtain ⟨⟨y0, y1, y2, y3⟩, yz⟩ := box4 HK6.out
      have yz0 := yz 0
      have yz1 := yz 1
      have yz2 := yz 2
      have yz3 := yz 3
      clear yz
      refine AnyZ.one (i := 8) (by kernel_rfl) rfl (fun K hK => ?_)
      go_simp
      rw [fold4s]
      have hk := st4_only w6 b2 (.int .i64 0) (.slice none 0 0) (.slice none 0 0) (.slice none 0 0)
      have hne : ¬ bc = b2 := by have := HE.out; omega
      have HB7 := Lib.hid (HB6.out.trans (hk.below (fun k _ e => by have := HE.out; omega) HB6.out.size))
      have HF7 := Lib.hid (hk.heap HF6.out (by have := HE.out; have := HZ5.out; omega))
      have HK7 := Lib.hid (st4_heap HK6.out (.int .i64 0) (.slice none 0 0) (.slice none 0 0) (.slice none 0 0))
      replace x1 := hk.cell (p := ⟨bc, 1, none⟩) x1 hne
      clear hk hne y0 y1 y2 y3 yz0 yz1 yz2 yz3
      generalize st4 w6 b2 _ _ _ _ = w7 at *
      refine hK _ _ (fun _ => x1) ?_
      clear hK
      refine AnyZ.mid [9] [] 0 rfl (by kernel_rfl) (by kernel_rfl) (by kernel_rfl) (fun _ _ _ _ e h => ⟨e.symm.trans h.1, h.2⟩) x1 ?_
      iterate 1
        refine Heads.step (v := ?_) rfl (by first | (go_simp; done) | rfl) (fun W hW => ?_) ?_
        rotate_left
        · (have t0 := hW; go_simp; try with_reducible rfl)
      refine AnyZ.done (by kernel_rfl) ?_
      go_simp
      go_wp2_with fail
      exact bodyPost_ret (v := .tuple #[.agg #[.int .i64 0, .slice none 0 0, .slice none 0 0, .slice none 0 0], .iface 59 (.pointer (some ⟨w5.heap.size, 0, none⟩))]) (outsB rfl rfl HK7.out) rfl ⟨.inl ⟨p, _, HBD.out, rfl, hz6, HF7.out⟩, HB7.out⟩
    · go_simp
      rw [fold4s]
      have hk := st4_only w5 b2 (.int .i64 0) (.slice none 0 0) (.slice none 0 0) (.slice none 0 0)
      have hne : ¬ bc = b2 := by have := HE.out; omega
      have HB6 : Hid (Below w.heap.size w (st4 w5 b2 (.int .i64 0) (.slice none 0 0) (.slice none 0 0) (.slice none 0 0)).drew) := Lib.hid ((HB5.out.trans (hk.below (fun k _ e => by have := HE.out; omega) HB5.out.size)).drew)
      have HK6 : Hid ((st4 w5 b2 (.int .i64 0) (.slice none 0 0) (.slice none 0 0) (.slice none 0 0)).drew.heap[b2]? = _) := Lib.hid (st4_heap HK5.out (.int .i64 0) (.slice none 0 0) (.slice none 0 0) (.slice none 0 0))
      have hsz : (st4 w5 b2 (.int .i64 0) (.slice none 0 0) (.slice none 0 0) (.slice none 0 0)).drew.heap.size = w5.heap.size := by simp [st4]
      have x1' : (st4 w5 b2 (.int .i64 0) (.slice none 0 0) (.slice none 0 0) (.slice none 0 0)).drew.cell? ⟨bc, 1, none⟩ = some (.int .i64 (p : Nat)) := hk.cell (p := ⟨bc, 1, none⟩) x1 hne
      clear hk hne y0 y1 y2 y3 yz0 yz1 yz2 yz3 x0 x1
      have x1 := x1'
      clear x1'
      generalize (st4 w5 b2 (.int .i64 0) (.slice none 0 0) (.slice none 0 0) (.slice none 0 0)).drew = w6 at *
      refine hK _ _ (fun _ => x1) ?_
      clear hK
      refine AnyZ.one (i := 6) (by kernel_rfl) rfl (fun K hK => ?_)
      go_simp
      have hb7 : Below w6.heap.size w6 (w6.alloc (.cells #[.int .i64 16, .int .i64 (p : Nat)] 38)) := (Below.refl _ _).alloc (Nat.le_refl _) _
      have HF7 : Hid ((w6.alloc (.cells #[.int .i64 16, .int .i64 (p : Nat)] 38)).heap[w5.heap.size]? = some (.cells #[.int .i64 16, .int .i64 (p : Nat)] 38)) := Lib.hid (by rw [← hsz]; exact heap_alloc_new w6 _)
      have HK7 := Lib.hid (heap_below hb7 HK6.out)
      have HB7 := Lib.hid (HB6.out.trans (hb7.mono HB6.out.size))
      replace x1 := (Keeps.of_below hb7) _ _ x1
      clear hb7 hsz
      generalize w6.alloc (.cells #[.int .i64 16, .int .i64 (p : Nat)] 38) = w7 at *
      refine hK _ _ (fun _ => x1) ?_
      clear hK
      refine AnyZ.mid [7, 9] [] 0 rfl (by kernel_rfl) (by kernel_rfl) (by kernel_rfl) (fun _ _ _ _ e h => ⟨e.symm.trans h.1, h.2⟩) x1 ?_
      iterate 2
        refine Heads.step (v := ?_) rfl (by first | (go_simp; done) | rfl) (fun W hW => ?_) ?_
        rotate_left
        · (have t0 := hW; go_simp; try with_reducible rfl)
      refine AnyZ.done (by kernel_rfl) ?_
      go_simp
      go_wp2_with fail
      exact bodyPost_ret (v := .tuple #[.agg #[.int .i64 0, .slice none 0 0, .slice none 0 0, .slice none 0 0], .iface 59 (.pointer (some ⟨w5.heap.size, 0, none⟩))]) (outsB rfl rfl HK7.out) rfl ⟨.inl ⟨p, _, HBD.out, rfl, hz6, HF7.out⟩, HB7.out⟩
  · have HD := Lib.hid hd; have HU := Lib.hid hu; have HC := Lib.hid hc; have HAT := Lib.hid hat; have HLN := Lib.hid (And.intro hlin htl)
    have hrl : rest.length ≤ 1000000000 := by omega
    have hfit : h.rows ≤ 200000 := by
      have e : hd0 (linA txt []) = some h := hd
      unfold hd0 at e
      split at e
      · cases e
      · have := hdr_fits e; unfold Hd.rows; omega
    clear hd hu hc hat hlin htl hlen
    go_upto_region 3 with (fail)
    have hb5 := (Below.refl w2.heap.size w2).alloc (Nat.le_refl _) (.cells #[.int .i64 (h.i : Int), .slice A1 h.l c1, .slice A2 h.a c2, .slice A3 h.o c3] 28)
    have HG5 := Lib.hid (heap_alloc_new w2 (.cells #[.int .i64 (h.i : Int), .slice A1 h.l c1, .slice A2 h.a c2, .slice A3 h.o c3] 28))
    have HK5 := Lib.hid (heap_below hb5 HK2b.out); have hc5 : CurAt _ bc rest (h.rows + 1) := heap_below hb5 HC.out; have HB5 := Lib.hid (HB2.out.trans (hb5.mono HB2.out.size))
    have hm5 := HM2.out.below hb5
    have HO5 : Hid (Only (fun k => k < w1.heap.size) w2 (w2.alloc (.cells #[.int .i64 (h.i : Int), .slice A1 h.l c1, .slice A2 h.a c2, .slice A3 h.o c3] 28))) := Lib.hid ((Only.refl _ w2).call hb5)
    have HZ5 : Hid (bc < (w2.alloc (.cells #[.int .i64 (h.i : Int), .slice A1 h.l c1, .slice A2 h.a c2, .slice A3 h.o c3] 28)).heap.size) := Lib.hid (Nat.lt_of_lt_of_le HZ2.out hb5.size)
    clear hb5
    generalize w2.alloc (.cells #[.int .i64 (h.i : Int), .slice A1 h.l c1, .slice A2 h.a c2, .slice A3 h.o c3] 28) = w5 at *
    have htl := tail_any bc (h.rows + 1) rest w5 hc5 hm5 hrl (by omega)
    rw [HLN.out.1, HLN.out.2] at htl
    have hb5l := HZ2.out
    clear hc5 hm5
    obtain ⟨b5, hb5⟩ : ∃ b, b = w2.heap.size := ⟨_, rfl⟩
    rw [← hb5] at HG5 hb5l ⊢
    clear hb5
    go_wp2_with fail
    refine htl.mono ?_
    rintro e w4 ⟨ht, hO4⟩
    have HK4 := Lib.hid (hO4.heap HK5.out (by have := HE.out; omega))
    have HG4 := Lib.hid (hO4.heap HG5.out (by omega))
    have HB4 := Lib.hid (HB5.out.trans (hO4.below (fun b _ e => by have := HE.out; omega) HB5.out.size))
    have HO4' := Lib.hid (HO5.out.then_ hO4 (fun i hi hs => by have := HE.out; omega))
    have HZ4 : Hid (bc < w4.heap.size) := Lib.hid (Nat.lt_of_lt_of_le HZ5.out hO4.size)
    clear htl hO4 HK5 HG5 HB5 HO5
    rcases ht with ⟨ht, rfl⟩ | ⟨p, rest', ht, rfl, hc4⟩
    · have HFT : Hid (FineT txt h) := Lib.hid ⟨HD.out, HU.out, ht⟩
      clear ht
      obtain ⟨⟨x0, x1, x2, x3⟩, _⟩ := box4 HG4.out
      obtain ⟨⟨y0, y1, y2, y3⟩, yz⟩ := box4 HK4.out
      have yz0 := yz 0
      have yz1 := yz 1
      have yz2 := yz 2
      have yz3 := yz 3
      have hk := st4_only w4 b2 (.int .i64 (h.i : Int)) (.slice A1 h.l c1) (.slice A2 h.a c2) (.slice A3 h.o c3)
      have HB7 := Lib.hid (HB4.out.trans (hk.below (fun k _ e => by have := HE.out; omega) HB4.out.size))
      have HA7 := Lib.hid (HAT.out _ (HO4'.out.then_ hk (fun i hi hs => by have := HE.out; omega)))
      clear yz hk
      go_wp2_with fail
      exact bodyPost_ret (v := .tuple #[.agg #[.int .i64 (h.i : Int), .slice A1 h.l c1, .slice A2 h.a c2, .slice A3 h.o c3], .nilIface]) (outsB rfl rfl (st4_heap HK4.out _ _ _ _)) rfl ⟨.inr ⟨h, A1, A2, A3, c1, c2, c3, HFT.out, rfl, HA7.out⟩, HB7.out⟩
    · have HBD : Hid (BadT txt p) := Lib.hid (.inr ⟨h, HD.out, .inr ⟨HU.out, ht⟩⟩)
      have HC4 := Lib.hid hc4
      clear ht hc4
      obtain ⟨x0, x1⟩ := (box2 HC4.out).1
      go_upto_region 4 with (fail)
      have hz6 := HB4.out.size
      obtain ⟨⟨y0, y1, y2, y3⟩, yz⟩ := box4 HK4.out
      have yz0 := yz 0
      have yz1 := yz 1
      have yz2 := yz 2
      have yz3 := yz 3
      clear yz
      refine wp_region_z (fun w' => w'.cell? ⟨bc, 1, none⟩ = some (.int .i64 (p : Nat))) [0, 1, 2, 3, 4, 5] [] (by kernel_rfl) (by kernel_rfl) (by kernel_rfl) (by rfl) (fun _ _ _ _ e h => ⟨e.symm.trans h.1, h.2⟩) x1 ?_
      iterate 6
        refine Heads.step (v := ?_) rfl (by first | (go_simp; done) | rfl) (fun W hW => ?_) ?_
        rotate_left
        · (have t0 := hW; go_simp; try with_reducible rfl)
      refine AnyZ.two (i := 6) (j := 8) (by kernel_rfl) rfl rfl (fun K hK => ?_) (fun K hK => ?_)
      · go_simp
        have hb6 : Below w4.heap.size w4 (w4.alloc (.cells #[.int .i64 16, .int .i64 (p : Nat)] 38)).drew := ((Below.refl _ _).alloc (Nat.le_refl _) _).drew
        have HF6 : Hid ((w4.alloc (.cells #[.int .i64 16, .int .i64 (p : Nat)] 38)).drew.heap[w4.heap.size]? = some (.cells #[.int .i64 16, .int .i64 (p : Nat)] 38)) := Lib.hid (heap_alloc_new w4 _)
        have HK6 := Lib.hid (heap_below hb6 HK4.out)
        have HB6 := Lib.hid (HB4.out.trans (hb6.mono HB4.out.size))
        replace x1 := (Keeps.of_below hb6) _ _ x1
        clear hb6 x0 y0 y1 y2 y3 yz0 yz1 yz2 yz3
        generalize (w4.alloc (.cells #[.int .i64 16, .int .i64 (p : Nat)] 38)).drew = w6 at *
        refine hK _ _ (fun _ => x1) ?_
        clear hK
        refine AnyZ.mid [7] [] 2 rfl (by kernel_rfl) (by kernel_rfl) (by kernel_rfl) (fun _ _ _ _ e h => ⟨e.symm.trans h.1, h.2⟩) x1 ?_
        iterate 1
          refine Heads.step (v := ?_) rfl (by first | (go_simp; done) | rfl) (fun W hW => ?_) ?_
          rotate_left
          · (have t0 := hW; go_simp; try with_reducible rfl)
        obtain ⟨⟨y0, y1, y2, y3⟩, yz⟩ := box4 HK6.out
        have yz0 := yz 0
        have yz1 := yz 1
        have yz2 := yz 2
        have yz3 := yz 3
        clear yz
        refine AnyZ.one (i := 8) (by kernel_rfl) rfl (fun K hK => ?_)
        go_simp
        rw [fold4s]
        have hk := st4_only w6 b2 (.int .i64 0) (.slice none 0 0) (.slice none 0 0) (.slice none 0 0)
        have hne : ¬ bc = b2 := by have := HE.out; omega
        have HB7 := Lib.hid (HB6.out.trans (hk.below (fun k _ e => by have := HE.out; omega) HB6.out.size))
        have HF7 := Lib.hid (hk.heap HF6.out (by have := HE.out; have := HZ4.out; omega))
        have HK7 := Lib.hid (st4_heap HK6.out (.int .i64 0) (.slice none 0 0) (.slice none 0 0) (.slice none 0 0))
        replace x1 := hk.cell (p := ⟨bc, 1, none⟩) x1 hne
        clear hk hne y0 y1 y2 y3 yz0 yz1 yz2 yz3
        generalize st4 w6 b2 _ _ _ _ = w7 at *
        refine hK _ _ (fun _ => x1) ?_
        clear hK
        refine AnyZ.mid [9] [] 0 rfl (by kernel_rfl) (by kernel_rfl) (by kernel_rfl) (fun _ _ _ _ e h => ⟨e.symm.trans h.1, h.2⟩) x1 ?_
        iterate 1
          refine Heads.step (v := ?_) rfl (by first | (go_simp; done) | rfl) (fun W hW => ?_) ?_
          rotate_left
          · (have t0 := hW; go_simp; try with_reducible rfl)
        refine AnyZ.done (by kernel_rfl) ?_
        go_simp
        go_wp2_with fail
        exact bodyPost_ret (v := .tuple #[.agg #[.int .i64 0, .slice none 0 0, .slice none 0 0, .slice none 0 0], .iface 59 (.pointer (some ⟨w4.heap.size, 0, none⟩))]) (outsB rfl rfl HK7.out) rfl ⟨.inl ⟨p, _, HBD.out, rfl, hz6, HF7.out⟩, HB7.out⟩
      · go_simp
        rw [fold4s]
        have hk := st4_only w4 b2 (.int .i64 0) (.slice none 0 0) (.slice none 0 0) (.slice none 0 0)
        have hne : ¬ bc = b2 := by have := HE.out; omega
        have HB6 : Hid (Below w.heap.size w (st4 w4 b2 (.int .i64 0) (.slice none 0 0) (.slice none 0 0) (.slice none 0 0)).drew) := Lib.hid ((HB4.out.trans (hk.below (fun k _ e => by have := HE.out; omega) HB4.out.size)).drew)
        have HK6 : Hid ((st4 w4 b2 (.int .i64 0) (.slice none 0 0) (.slice none 0 0) (.slice none 0 0)).drew.heap[b2]? = _) := Lib.hid (st4_heap HK4.out (.int .i64 0) (.slice none 0 0) (.slice none 0 0) (.slice none 0 0))
        have hsz : (st4 w4 b2 (.int .i64 0) (.slice none 0 0) (.slice none 0 0) (.slice none 0 0)).drew.heap.size = w4.heap.size := by simp [st4]
        have x1' : (st4 w4 b2 (.int .i64 0) (.slice none 0 0) (.slice none 0 0) (.slice none 0 0)).drew.cell? ⟨bc, 1, none⟩ = some (.int .i64 (p : Nat)) := hk.cell (p := ⟨bc, 1, none⟩) x1 hne
        clear hk hne y0 y1 y2 y3 yz0 yz1 yz2 yz3 x0 x1
        have x1 := x1'
        clear x1'
        generalize (st4 w4 b2 (.int .i64 0) (.slice none 0 0) (.slice none 0 0) (.slice none 0 0)).drew = w6 at *
        refine hK _ _ (fun _ => x1) ?_
        clear hK
        refine AnyZ.one (i := 6) (by kernel_rfl) rfl (fun K hK => ?_)
        go_simp
        have hb7 : Below w6.heap.size w6 (w6.alloc (.cells #[.int .i64 16, .int .i64 (p : Nat)] 38)) := (Below.refl _ _).alloc (Nat.le_refl _) _
        have HF7 : Hid ((w6.alloc (.cells #[.int .i64 16, .int .i64 (p : Nat)] 38)).heap[w4.heap.size]? = some (.cells #[.int .i64 16, .int .i64 (p : Nat)] 38)) := Lib.hid (by rw [← hsz]; exact heap_alloc_new w6 _)
        have HK7 := Lib.hid (heap_below hb7 HK6.out)
        have HB7 := Lib.hid (HB6.out.trans (hb7.mono HB6.out.size))
        replace x1 := (Keeps.of_below hb7) _ _ x1
        clear hb7 hsz
        generalize w6.alloc (.cells #[.int .i64 16, .int .i64 (p : Nat)] 38) = w7 at *
        refine hK _ _ (fun _ => x1) ?_
        clear hK
        refine AnyZ.mid [7, 9] [] 0 rfl (by kernel_rfl) (by kernel_rfl) (by kernel_rfl) (fun _ _ _ _ e h => ⟨e.symm.trans h.1, h.2⟩) x1 ?_
        iterate 2
          refine Heads.step (v := ?_) rfl (by first | (go_simp; done) | rfl) (fun W hW => ?_) ?_
          rotate_left
          · (have t0 := hW; go_simp; try with_reducible rfl)
        refine AnyZ.done (by kernel_rfl) ?_
        go_simp
        go_wp2_with fail
        exact bodyPost_ret (v := .tuple #[.agg #[.int .i64 0, .slice none 0 0, .slice none 0 0, .slice none 0 0], .iface 59 (.pointer (some ⟨w4.heap.size, 0, none⟩))]) (outsB rfl rfl HK7.out) rfl ⟨.inl ⟨p, _, HBD.out, rfl, hz6, HF7.out⟩, HB7.out⟩
end Go.Proofs.YtngjbiipgbeemaaDoor
