/- The reference's AigUnpack, walked: the graph, or the fault. Conditions: the bytes lie in memory and are fewer than 1000000000. -/
import Derived.Test.YtngjbiipgbeemaaDoorAuX
import Derived.Test.YtngjbiipgbeemaaDoorAuU
namespace Go.Proofs.YtngjbiipgbeemaaDoor
open Go.RowKit Go.Shelf Go.Deep

def RkBad (l : List UInt8) (e : Ending) : Prop := ∃ p, BadU l p ∧ e = .returned (.tuple #[.agg #[.int .i64 0, .slice none 0 0, .slice none 0 0, .slice none 0 0], .agg #[.int .i64 16, .int .i64 (p : Nat)]])
def RkFine (l : List UInt8) (e : Ending) (W : World) : Prop := ∃ h p0 p1 A1 A2 A3 c1 c2 c3, FineU l h p0 p1 ∧ e = .returned (.tuple #[.agg #[.int .i64 (h.i : Int), .slice A1 h.l c1, .slice A2 h.a c2, .slice A3 h.o c3], .agg #[.int .i64 0, .int .i64 0]]) ∧ (h.graphU l p0 p1).At W A1 A2 A3
attribute [local go_sem] Oper.semAt_some in
theorem outsX {tmps : Array Value} {W : World} {b b' : Nat} {x0 x1 x2 x3 y0 y1 : Value} (h2 : tmps[2]? = some (.pointer (some ⟨b, 0, none⟩))) (h3 : tmps[3]? = some (.pointer (some ⟨b', 0, none⟩))) (h : W.heap[b]? = some (.cells #[x0, x1, x2, x3] 28)) (h' : W.heap[b']? = some (.cells #[y0, y1] 38)) :
    (results Tryd.f18 tmps).run Tryd.prog W = .ok (.tuple #[.agg #[x0, x1, x2, x3], .agg #[y0, y1]]) W := by
  obtain ⟨⟨c0, c1, c2, c3⟩, _⟩ := box4 h
  obtain ⟨⟨d0, d1⟩, _⟩ := box2 h'
  simp [results, Tryd.f18, go_sem, h2, h3, c0, c1, c2, c3, d0, d1]
attribute [local go_sem] Oper.semAt_some in
theorem outsBB {tmps : Array Value} {W : World} {b b' : Nat} {x0 x1 x2 x3 y0 y1 : Value} (h2 : tmps[2]? = some (.pointer (some ⟨b, 0, none⟩))) (h3 : tmps[3]? = some (.pointer (some ⟨b', 0, none⟩))) (h : W.heap[b]? = some (.cells #[x0, x1, x2, x3] 28)) (h' : W.heap[b']? = some (.cells #[y0, y1] 38)) :
    (results Tryd.f33 tmps).run Tryd.prog W = .ok (.tuple #[.agg #[x0, x1, x2, x3], .agg #[y0, y1]]) W := by
  obtain ⟨⟨c0, c1, c2, c3⟩, _⟩ := box4 h
  obtain ⟨⟨d0, d1⟩, _⟩ := box2 h'
  simp [results, Tryd.f33, go_sem, h2, h3, c0, c1, c2, c3, d0, d1]
set_option maxHeartbeats 2000000 in
theorem badByte_any (n : Nat) (w : World) : Calls Tryd.prog 33 #[.int .i64 (n : Int)] w fun e w' => e = .returned (.tuple #[.agg #[.int .i64 0, .slice none 0 0, .slice none 0 0, .slice none 0 0], .agg #[.int .i64 16, .int .i64 (n : Nat)]]) ∧ Below w.heap.size w w' := by
  have hk2 : ((w.alloc (.cells #[.int .i64 0, .slice none 0 0, .slice none 0 0, .slice none 0 0] 28)).alloc (.cells #[.int .i64 0, .int .i64 0] 38)).heap[w.heap.size]? = some (.cells #[.int .i64 0, .slice none 0 0, .slice none 0 0, .slice none 0 0] 28) := (Below.heap_alloc _ _ _ (by simp)).trans (heap_alloc_new w _)
  have hk3 : ((w.alloc (.cells #[.int .i64 0, .slice none 0 0, .slice none 0 0, .slice none 0 0] 28)).alloc (.cells #[.int .i64 0, .int .i64 0] 38)).heap[w.heap.size + 1]? = some (.cells #[.int .i64 0, .int .i64 0] 38) := by
    have h := heap_alloc_new (w.alloc (.cells #[.int .i64 0, .slice none 0 0, .slice none 0 0, .slice none 0 0] 28)) (.cells #[.int .i64 0, .int .i64 0] 38)
    rw [World.size_alloc] at h
    exact h
  have hw0 : Below w.heap.size w ((w.alloc (.cells #[.int .i64 0, .slice none 0 0, .slice none 0 0, .slice none 0 0] 28)).alloc (.cells #[.int .i64 0, .int .i64 0] 38)) := ((Below.refl _ _).alloc (Nat.le_refl _) _).alloc (by simp) _
  go_enter Tryd.func33, Tryd.ntmps33
  go_upto_region 1 with (fail)
  generalize ((w.alloc (.cells #[.int .i64 0, .slice none 0 0, .slice none 0 0, .slice none 0 0] 28)).alloc (.cells #[.int .i64 0, .int .i64 0] 38)) = wa at *
  obtain ⟨b3, hb3⟩ : ∃ b, b = w.heap.size + 1 := ⟨_, rfl⟩
  rw [← hb3] at hk3 ⊢
  obtain ⟨b2, hb2⟩ : ∃ b, b = w.heap.size := ⟨_, rfl⟩
  rw [← hb2] at hk2 ⊢
  have HR := Lib.hid (RfI.res (w0 := w) hk2 hk3 hw0 (by omega) (by omega) (.int .i64 0) (.slice none 0 0) (.slice none 0 0) (.slice none 0 0) (.int .i64 16) (.int .i64 ((n : Nat) : Int)))
  have hn32 : ¬ b3 = b2 := by omega
  have hn23 : ¬ b2 = b3 := by omega
  obtain ⟨⟨y0, y1, y2, y3⟩, yz⟩ := box4 hk2
  have yz0 := yz 0
  have yz1 := yz 1
  have yz2 := yz 2
  have yz3 := yz 3
  obtain ⟨⟨v0, v1⟩, vz⟩ := box2 hk3
  have vz0 := vz 0
  have vz1 := vz 1
  clear yz vz hb2 hb3 hk2 hk3 hw0
  go_wp2_with fail
  exact bodyPost_ret (v := .tuple #[.agg #[.int .i64 0, .slice none 0 0, .slice none 0 0, .slice none 0 0], .agg #[.int .i64 16, .int .i64 ((n : Nat) : Int)]]) (outsBB rfl rfl HR.out.1 HR.out.2.1) rfl ⟨rfl, HR.out.2.2.1⟩
theorem ls_one (w : World) (s : List UInt8) : LsAt (w.alloc (.cells #[.string (bstr s)] 9)) (some ⟨w.heap.size, 0, none⟩) [s] := fun _ => by
  refine ⟨_, _, _, rfl, trivial, heap_alloc_new w _, fun k hk j hj => ?_⟩
  have hk' : k < 1 := hk
  obtain rfl : k = 0 := by omega
  obtain rfl : j = 0 := by omega
  simp [lsv]
theorem len_one (s : List UInt8) (h : s.length ≤ 1000000000) : ∀ i, i < ([s] : List (List UInt8)).length → (([s] : List (List UInt8)).getD i []).length ≤ 1000000000 := fun i hi => by
  have h0 : i < 1 := hi
  obtain rfl : i = 0 := by omega
  exact h
theorem rowR1_yes {s : List UInt8} {m : Bool} {ns : List Nat} (e : rowR [s] 0 1 m = some ns) : (m = true ∧ ns.length = 2 ∧ ns.getD 1 0 < 2) ∨ ns.length = 1 := by
  unfold rowR at e
  simp only [List.getElem?_cons_zero] at e
  split at e
  · cases e
  · split at e
    · rename_i h
      injection e with e
      subst e
      exact h
    · cases e
theorem row_nil (m : Bool) : rowR [[]] 0 1 m = none := rfl

set_option maxRecDepth 100000 in
set_option maxHeartbeats 40000000 in
theorem refUnpack_any (l : List UInt8) (A : Option Addr) (c : Nat) (w : World) (hM : MemO w A l c) (hcm : c ≤ 9223372036854775807) (hl : l.length ≤ 1000000000) :
    Calls Tryd.prog 18 #[.slice A l.length c] w fun e w' => (RkBad l e ∨ RkFine l e w') ∧ Below w.heap.size w w' := by
  have HMO : Hid (∀ W, Below w.heap.size w W → MemO W A l c) := Lib.hid (fun W h => hM.below h)
  have HLL := Lib.hid hl
  clear hM
  have hk2 : ((w.alloc (.cells #[.int .i64 0, .slice none 0 0, .slice none 0 0, .slice none 0 0] 28)).alloc (.cells #[.int .i64 0, .int .i64 0] 38)).heap[w.heap.size]? = some (.cells #[.int .i64 0, .slice none 0 0, .slice none 0 0, .slice none 0 0] 28) := (Below.heap_alloc _ _ _ (by simp)).trans (heap_alloc_new w _)
  have hk3 : ((w.alloc (.cells #[.int .i64 0, .slice none 0 0, .slice none 0 0, .slice none 0 0] 28)).alloc (.cells #[.int .i64 0, .int .i64 0] 38)).heap[w.heap.size + 1]? = some (.cells #[.int .i64 0, .int .i64 0] 38) := by
    have h := heap_alloc_new (w.alloc (.cells #[.int .i64 0, .slice none 0 0, .slice none 0 0, .slice none 0 0] 28)) (.cells #[.int .i64 0, .int .i64 0] 38)
    rw [World.size_alloc] at h
    exact h
  have hw0 : Below w.heap.size w ((w.alloc (.cells #[.int .i64 0, .slice none 0 0, .slice none 0 0, .slice none 0 0] 28)).alloc (.cells #[.int .i64 0, .int .i64 0] 38)) := ((Below.refl _ _).alloc (Nat.le_refl _) _).alloc (by simp) _
  have hz0 : ((w.alloc (.cells #[.int .i64 0, .slice none 0 0, .slice none 0 0, .slice none 0 0] 28)).alloc (.cells #[.int .i64 0, .int .i64 0] 38)).heap.size = w.heap.size + 2 := by simp
  go_enter Tryd.func18, Tryd.ntmps18
  go_upto_region 1 with (fail)
  generalize ((w.alloc (.cells #[.int .i64 0, .slice none 0 0, .slice none 0 0, .slice none 0 0] 28)).alloc (.cells #[.int .i64 0, .int .i64 0] 38)) = wa at *
  obtain ⟨b3, hb3⟩ : ∃ b, b = w.heap.size + 1 := ⟨_, rfl⟩
  rw [← hb3] at hk3 ⊢
  obtain ⟨b2, hb2⟩ : ∃ b, b = w.heap.size := ⟨_, rfl⟩
  rw [← hb2] at hk2 ⊢
  have HE : Hid (b2 = w.heap.size ∧ b3 = b2 + 1 ∧ wa.heap.size = b3 + 1) := Lib.hid ⟨hb2, by omega, by omega⟩
  have HK2 := Lib.hid hk2; have HK3 := Lib.hid hk3; have HW0 := Lib.hid hw0
  clear hb2 hb3 hk2 hk3 hw0 hz0
  have hln := refLine_any l A c 0 wa (HMO.out _ HW0.out) (Nat.zero_le _) hl hcm
  rw [show ((0 : Nat) : Int) = 0 from rfl] at hln
  go_wp2_with fail
  refine hln.mono ?_
  rintro e w1 ⟨hr, hb1⟩
  have HX2 := Lib.hid (heap_below hb1 HK2.out); have HX3 := Lib.hid (heap_below hb1 HK3.out); have HXB := Lib.hid (HW0.out.trans (hb1.mono HW0.out.size))
  have HZ1 : Hid (b3 < w1.heap.size) := Lib.hid (by have := hb1.size; have := HE.out; omega)
  clear hln hb1 HK2 HK3 HW0
  have hn32 : ¬ b3 = b2 := by have := HE.out; omega
  have hn23 : ¬ b2 = b3 := by have := HE.out; omega
  rcases hr with ⟨hq, rfl⟩ | ⟨s, p0, hq, rfl⟩
  · have HBD : Hid (BadU l 0) := Lib.hid (.inl ⟨by unfold hdU; rw [hq], rfl⟩)
    have hhd := refHeader_any 97 105 103 [] w1 (by simp)
    rw [show bstr [] = ⟨#[]⟩ from rfl, show bstr [97, 105, 103] = ⟨#[97, 105, 103]⟩ from rfl, show hdrB [97, 105, 103] [] = none from rfl] at hhd
    clear hq
    go_wp2_with fail
    refine hhd.mono ?_
    rintro e w2 ⟨rfl, hb2⟩
    simp only [szV, Option.isSome_none]
    have hb4 := hb2.trans (((Below.refl w2.heap.size w2).alloc (Nat.le_refl _) (.cells #[.int .i64 0, .int .i64 0, .int .i64 0, .int .i64 0] 65)).mono hb2.size)
    replace HX2 := Lib.hid (heap_below hb4 HX2.out)
    replace HX3 := Lib.hid (heap_below hb4 HX3.out)
    replace HXB := Lib.hid (HXB.out.trans (hb4.mono HXB.out.size))
    clear hhd hb2 hb4
    go_upto_region 3 with (fail)
    generalize w2.alloc (.cells #[.int .i64 0, .int .i64 0, .int .i64 0, .int .i64 0] 65) = w3 at *
    have hbl := badByte_any 0 w3
    rw [show ((0 : Nat) : Int) = 0 from rfl] at hbl
    go_wp2_with fail
    refine hbl.mono ?_
    rintro e wy ⟨rfl, hby⟩
    have HY2 := Lib.hid (heap_below hby HX2.out); have HY3 := Lib.hid (heap_below hby HX3.out); have HYB := Lib.hid (HXB.out.trans (hby.mono HXB.out.size))
    clear hby hbl
    obtain ⟨⟨y0, y1, y2, y3⟩, yz⟩ := box4 HY2.out
    have yz0 := yz 0
    have yz1 := yz 1
    have yz2 := yz 2
    have yz3 := yz 3
    obtain ⟨⟨v0, v1⟩, vz⟩ := box2 HY3.out
    have vz0 := vz 0
    have vz1 := vz 1
    have HR := Lib.hid (RfI.res (w0 := w) HY2.out HY3.out HYB.out (by have := HE.out; omega) (by have := HE.out; omega) (.int .i64 0) (.slice none 0 0) (.slice none 0 0) (.slice none 0 0) (.int .i64 16) (.int .i64 0))
    clear yz vz
    go_wp2_with fail
    exact bodyPost_ret (v := .tuple #[.agg #[.int .i64 0, .slice none 0 0, .slice none 0 0, .slice none 0 0], .agg #[.int .i64 16, .int .i64 0]]) (outsX rfl rfl HR.out.1 HR.out.2.1) rfl ⟨.inl ⟨0, HBD.out, rfl⟩, HR.out.2.2.1⟩
  · have hlb := lnB_le hq
    have hhd := refHeader_any 97 105 103 s w1 (by omega)
    have HL0 : Hid (0 < l.length) := Lib.hid (by omega)
    have HP0 : Hid (p0 ≤ l.length) := Lib.hid hlb.2.1
    obtain ⟨sb, hsb⟩ : ∃ sb, sb = bstr s := ⟨_, rfl⟩
    rw [← hsb, show bstr [97, 105, 103] = ⟨#[97, 105, 103]⟩ from rfl] at hhd
    rw [← hsb]
    obtain ⟨Q, hQ⟩ : ∃ Q, Q = hdrB [97, 105, 103] s := ⟨_, rfl⟩
    rw [← hQ] at hhd
    have HD0 : Hid (hdU l = Q.map (fun h => (h, p0))) := Lib.hid (by unfold hdU; rw [hq, hQ])
    have HFIT : Hid (∀ h, Q = some h → h.i + h.l + h.a < 60000 ∧ h.l ≤ 6000 ∧ h.o ≤ 60000) := Lib.hid (fun h e => hdr_fits (by rw [← hQ]; exact e))
    clear hq hlb hQ hsb
    cases Q with
    | none =>
      have HBD : Hid (BadU l 0) := Lib.hid (.inl ⟨HD0.out, rfl⟩)
      go_wp2_with fail
      refine hhd.mono ?_
      rintro e w2 ⟨rfl, hb2⟩
      simp only [szV, Option.isSome_none]
      have hb4 := hb2.trans (((Below.refl w2.heap.size w2).alloc (Nat.le_refl _) (.cells #[.int .i64 0, .int .i64 0, .int .i64 0, .int .i64 0] 65)).mono hb2.size)
      replace HX2 := Lib.hid (heap_below hb4 HX2.out)
      replace HX3 := Lib.hid (heap_below hb4 HX3.out)
      replace HXB := Lib.hid (HXB.out.trans (hb4.mono HXB.out.size))
      clear hhd hb2 hb4
      go_upto_region 3 with (fail)
      generalize w2.alloc (.cells #[.int .i64 0, .int .i64 0, .int .i64 0, .int .i64 0] 65) = w3 at *
      have hbl := badByte_any 0 w3
      rw [show ((0 : Nat) : Int) = 0 from rfl] at hbl
      go_wp2_with fail
      refine hbl.mono ?_
      rintro e wy ⟨rfl, hby⟩
      have HY2 := Lib.hid (heap_below hby HX2.out); have HY3 := Lib.hid (heap_below hby HX3.out); have HYB := Lib.hid (HXB.out.trans (hby.mono HXB.out.size))
      clear hby hbl
      obtain ⟨⟨y0, y1, y2, y3⟩, yz⟩ := box4 HY2.out
      have yz0 := yz 0
      have yz1 := yz 1
      have yz2 := yz 2
      have yz3 := yz 3
      obtain ⟨⟨v0, v1⟩, vz⟩ := box2 HY3.out
      have vz0 := vz 0
      have vz1 := vz 1
      have HR := Lib.hid (RfI.res (w0 := w) HY2.out HY3.out HYB.out (by have := HE.out; omega) (by have := HE.out; omega) (.int .i64 0) (.slice none 0 0) (.slice none 0 0) (.slice none 0 0) (.int .i64 16) (.int .i64 0))
      clear yz vz
      go_wp2_with fail
      exact bodyPost_ret (v := .tuple #[.agg #[.int .i64 0, .slice none 0 0, .slice none 0 0, .slice none 0 0], .agg #[.int .i64 16, .int .i64 0]]) (outsX rfl rfl HR.out.1 HR.out.2.1) rfl ⟨.inl ⟨0, HBD.out, rfl⟩, HR.out.2.2.1⟩
    | some h =>
      obtain ⟨hf1, hf2, hf3⟩ := HFIT.out h rfl
      simp only [szV, Option.isSome_some] at *
      clear HFIT
      go_wp2_with fail
      refine hhd.mono ?_
      rintro e w2 ⟨rfl, hb2⟩
      go_upto_region 6 with (fail)
      have b6' := (Below.refl w2.heap.size w2).alloc (Nat.le_refl _) (.cells #[.int .i64 (h.i : Int), .int .i64 (h.l : Int), .int .i64 (h.o : Int), .int .i64 (h.a : Int)] 65)
      have k6 := heap_alloc_new w2 (.cells #[.int .i64 (h.i : Int), .int .i64 (h.l : Int), .int .i64 (h.o : Int), .int .i64 (h.a : Int)] 65)
      have z6 : (w2.alloc (.cells #[.int .i64 (h.i : Int), .int .i64 (h.l : Int), .int .i64 (h.o : Int), .int .i64 (h.a : Int)] 65)).heap.size = w2.heap.size + 1 := by simp
      generalize w2.alloc (.cells #[.int .i64 (h.i : Int), .int .i64 (h.l : Int), .int .i64 (h.o : Int), .int .i64 (h.a : Int)] 65) = w6 at *
      have b8' := (Below.refl w6.heap.size w6).alloc (Nat.le_refl _) (.cells #[.int .i64 (h.i : Int), .slice none 0 0, .slice none 0 0, .slice none 0 0] 28)
      have k8 := heap_alloc_new w6 (.cells #[.int .i64 (h.i : Int), .slice none 0 0, .slice none 0 0, .slice none 0 0] 28)
      have z8 : (w6.alloc (.cells #[.int .i64 (h.i : Int), .slice none 0 0, .slice none 0 0, .slice none 0 0] 28)).heap.size = w6.heap.size + 1 := by simp
      generalize w6.alloc (.cells #[.int .i64 (h.i : Int), .slice none 0 0, .slice none 0 0, .slice none 0 0] 28) = w8 at *
      rw [z6] at k8
      have hb28 : Below w2.heap.size w2 w8 := b6'.trans (b8'.mono (by omega))
      have hb18 := hb2.trans (hb28.mono hb2.size)
      obtain ⟨z, hz⟩ : ∃ z, z = w8.heap.size := ⟨_, rfl⟩
      have hw12 := hb2.size
      obtain ⟨b6, hb6⟩ : ∃ b, b = w2.heap.size := ⟨_, rfl⟩
      obtain ⟨b8, hb8⟩ : ∃ b, b = w2.heap.size + 1 := ⟨_, rfl⟩
      rw [← hb8, ← hb6]
      have HI0 : Hid (RuI w l h p0 0 b2 b3 b6 b8 z none none none 0 0 0 0 0 0 w8) := Lib.hid
        ⟨heap_below hb18 HX2.out, heap_below hb18 HX3.out, by rw [hb6]; exact heap_below b8' k6, by rw [hb8]; exact k8, World.ownsRow_nil _ _ _ _, World.ownsRow_nil _ _ _ _, World.ownsRow_nil _ _ _ _, HXB.out.trans (hb18.mono HXB.out.size), by omega,
          by have h1 := HE.out; have h2 := HZ1.out; omega⟩
      obtain ⟨M, hM⟩ : ∃ M, M = 2 * (1 + h.i + h.l + h.a) := ⟨_, rfl⟩
      have HMM : Hid (h.most = M) := Lib.hid hM.symm
      have hMl : M ≤ 200000 := by omega
      have hMi : (2 : Int) * (1 + (h.i : Int) + (h.l : Int) + (h.a : Int)) = (M : Int) := by omega
      have HD1 : Hid (hdU l = some (h, p0)) := Lib.hid HD0.out
      obtain ⟨⟨s0, s1, s2, s3⟩, _⟩ := box4 HI0.out.sz
      clear hM hz hb6 hb8 b6' b8' k6 k8 z6 z8 hb28 hb18 hw12 hb2 hhd HX2 HX3 HXB HZ1 HD0
      go_wp2_with fail
      clear s0 s1 s2 s3
      go_loopw [5, 11] (fun vp vi wr => ∃ (k p : Nat) (A1 A3 : Option Addr) (c1 c3 n1 n3 : Nat), k ≤ h.l + h.o ∧ p ≤ l.length ∧ vp = .int .i64 p ∧ vi = .int .i64 k ∧ Hid (h.uPos l p0 k = some p) ∧ Hid (n1 = min k h.l ∧ n3 = k - h.l ∧ (k < h.l + 1 → A3 = none ∧ c3 = 0)) ∧ Hid (RuI w l h p0 0 b2 b3 b6 b8 z A1 none A3 c1 0 c3 n1 0 n3 wr)) (fun _ vi _ => h.l + h.o - (intOf vi).toNat)
      case atStart => exact ⟨0, p0, none, none, 0, 0, 0, 0, by omega, HP0.out, rfl, rfl, Lib.hid rfl, Lib.hid ⟨by omega, by omega, fun _ => ⟨rfl, rfl⟩⟩, HI0⟩
      case round =>
        clear HI0
        obtain ⟨k, p, A1, A3, c1, c3, n1, n3, hkl, hp, rfl, rfl, HP, HN, HI⟩ := hrel
        obtain ⟨wq, hwq⟩ : ∃ wq, wq = wr := ⟨_, rfl⟩
        subst hwq
        obtain ⟨⟨s0, s1, s2, s3⟩, _⟩ := box4 HI.out.sz
        by_cases hlt : k < h.l + h.o
        · have hlti : (k : Int) < (h.l : Int) + (h.o : Int) := by omega
          by_cases hkl : k < h.l
          · obtain ⟨rfl, rfl⟩ := HN.out.2.2 (by omega)
            obtain rfl : k = n1 := by have := HN.out.1; omega
            obtain rfl : n3 = 0 := by have := HN.out.2.1; omega
            clear HN
            have hln := refLine_any l A c p wq (HMO.out _ HI.out.bel) hp hl hcm
            go_wp2_with fail
            refine hln.mono ?_
            rintro e w3 ⟨hr, hb3⟩
            have HI3 := Lib.hid (HI.out.below hb3)
            have HW3 := Lib.hid hb3.size
            clear hln hb3 s0 s1 s2 s3
            rcases hr with ⟨hq, rfl⟩ | ⟨s, q, hq, rfl⟩
            · have HBD : Hid (BadU l p) := Lib.hid (.inr ⟨h, p0, HD1.out, .inl ⟨k, by unfold Hd.rowsU; omega, HP.out, uRow_ln hq⟩⟩)
              have hb4' : Below w3.heap.size w3 (w3.alloc (.cells #[.string ⟨#[]⟩] 9)) := (Below.refl _ _).alloc (Nat.le_refl _) _
              have hls := ls_one w3 []
              rw [show bstr [] = ⟨#[]⟩ from rfl] at hls
              have HI4 := Lib.hid (HI3.out.below hb4')
              have hrow := refRow_any [[]] (some ⟨w3.heap.size, 0, none⟩) 1 0 1 true _ hls (len_one _ (Nat.zero_le _)) (by omega)
              rw [show (([[]] : List (List UInt8)).length : Nat) = 1 from rfl, show ((0 : Nat) : Int) = 0 from rfl, show ((1 : Nat) : Int) = 1 from rfl] at hrow
              rw [row_nil] at hrow
              clear hls hb4' hq
              obtain ⟨⟨s0, s1, s2, s3⟩, _⟩ := box4 HI4.out.sz
              go_upto_region 11 with (fail)
              go_wp2_with fail
              refine hrow.mono ?_
              rintro e w5 ⟨hr, hb5⟩
              have HI5 := Lib.hid (HI4.out.below hb5)
              clear hrow hb5 s0 s1 s2 s3
              rcases hr with ⟨v, rfl, _⟩ | ⟨v, r, rfl, hr2, _⟩
              rotate_left
              · cases hr2
              have HX2 := Lib.hid HI5.out.r2
              have HX3 := Lib.hid HI5.out.r3
              have HXB := Lib.hid HI5.out.bel
              go_wp2_with fail
              refine (badByte_any p w5).mono ?_
              rintro e wy ⟨rfl, hby⟩
              have HY2 := Lib.hid (heap_below hby HX2.out); have HY3 := Lib.hid (heap_below hby HX3.out); have HYB := Lib.hid (HXB.out.trans (hby.mono HXB.out.size))
              clear hby
              obtain ⟨⟨y0, y1, y2, y3⟩, yz⟩ := box4 HY2.out
              have yz0 := yz 0
              have yz1 := yz 1
              have yz2 := yz 2
              have yz3 := yz 3
              obtain ⟨⟨v0, v1⟩, vz⟩ := box2 HY3.out
              have vz0 := vz 0
              have vz1 := vz 1
              have HR := Lib.hid (RfI.res (w0 := w) HY2.out HY3.out HYB.out (by have := HE.out; omega) (by have := HE.out; omega) (.int .i64 0) (.slice none 0 0) (.slice none 0 0) (.slice none 0 0) (.int .i64 16) (.int .i64 ((p : Nat) : Int)))
              clear yz vz
              go_wp2_with fail
              exact bodyPost_ret (v := .tuple #[.agg #[.int .i64 0, .slice none 0 0, .slice none 0 0, .slice none 0 0], .agg #[.int .i64 16, .int .i64 ((p : Nat) : Int)]]) (outsX rfl rfl HR.out.1 HR.out.2.1) rfl ⟨.inl ⟨p, HBD.out, rfl⟩, HR.out.2.2.1⟩
            · have hlb := lnB_le hq
              have hb4' : Below w3.heap.size w3 (w3.alloc (.cells #[.string (bstr s)] 9)) := (Below.refl _ _).alloc (Nat.le_refl _) _
              have hls := ls_one w3 s
              have HI4 := Lib.hid (HI3.out.below hb4')
              have hrow := refRow_any [s] (some ⟨w3.heap.size, 0, none⟩) 1 0 1 true _ hls (len_one _ (by omega)) (by omega)
              rw [show (([s] : List (List UInt8)).length : Nat) = 1 from rfl, show ((0 : Nat) : Int) = 0 from rfl, show ((1 : Nat) : Int) = 1 from rfl] at hrow
              obtain ⟨sb, hsb⟩ : ∃ sb, sb = bstr s := ⟨_, rfl⟩
              rw [← hsb] at hls hrow HI4
              rw [← hsb]
              obtain ⟨Q, hQ⟩ : ∃ Q, Q = rowR [s] 0 1 true := ⟨_, rfl⟩
              rw [← hQ] at hrow
              have HQL := Lib.hid hlb.2.1
              have HUR : Hid (h.uRow l k p = pickU h q Q) := Lib.hid (by rw [row1_rowR hq, decide_eq_true (by omega), hQ])
              have HQR := Lib.hid hQ
              clear hls hb4' hsb hlb hq hQ
              obtain ⟨⟨s0, s1, s2, s3⟩, _⟩ := box4 HI4.out.sz
              go_upto_region 11 with (fail)
              go_wp2_with fail
              refine hrow.mono ?_
              rintro e w5 ⟨hr, hb5⟩
              have HWQ : Hid (wq.heap.size ≤ (w3.alloc (.cells #[.string sb] 9)).heap.size) := Lib.hid (by have := HW3.out; simp; omega)
              have HI5 := Lib.hid (HI4.out.below hb5)
              clear hrow hb5 s0 s1 s2 s3
              rcases hr with ⟨v, rfl, rfl⟩ | ⟨v, ns, rfl, rfl, hnv⟩
              · have HBD : Hid (BadU l p) := Lib.hid (.inr ⟨h, p0, HD1.out, .inl ⟨k, by unfold Hd.rowsU; omega, HP.out, HUR.out⟩⟩)
                have HX2 := Lib.hid HI5.out.r2
                have HX3 := Lib.hid HI5.out.r3
                have HXB := Lib.hid HI5.out.bel
                go_wp2_with fail
                refine (badByte_any p w5).mono ?_
                rintro e wy ⟨rfl, hby⟩
                have HY2 := Lib.hid (heap_below hby HX2.out); have HY3 := Lib.hid (heap_below hby HX3.out); have HYB := Lib.hid (HXB.out.trans (hby.mono HXB.out.size))
                clear hby
                obtain ⟨⟨y0, y1, y2, y3⟩, yz⟩ := box4 HY2.out
                have yz0 := yz 0
                have yz1 := yz 1
                have yz2 := yz 2
                have yz3 := yz 3
                obtain ⟨⟨v0, v1⟩, vz⟩ := box2 HY3.out
                have vz0 := vz 0
                have vz1 := vz 1
                have HR := Lib.hid (RfI.res (w0 := w) HY2.out HY3.out HYB.out (by have := HE.out; omega) (by have := HE.out; omega) (.int .i64 0) (.slice none 0 0) (.slice none 0 0) (.slice none 0 0) (.int .i64 16) (.int .i64 ((p : Nat) : Int)))
                clear yz vz
                go_wp2_with fail
                exact bodyPost_ret (v := .tuple #[.agg #[.int .i64 0, .slice none 0 0, .slice none 0 0, .slice none 0 0], .agg #[.int .i64 16, .int .i64 ((p : Nat) : Int)]]) (outsX rfl rfl HR.out.1 HR.out.2.1) rfl ⟨.inl ⟨p, HBD.out, rfl⟩, HR.out.2.2.1⟩
              · obtain ⟨bN, oN, cN, rfl, hbN, hx⟩ := hnv
                have hlen : ns.length = 1 ∨ ns.length = 2 := by
                  rcases (rowR1_yes HQR.out.symm) with h9 | h9
                  · exact .inr h9.2.1
                  · exact .inl h9
                match ns, hlen with
                | [x], _ =>
                  have x0 : w5.cell? ⟨bN, oN, none⟩ = some (.int .i64 (x : Nat)) := hx 0 (by simp)
                  clear hx
                  obtain ⟨⟨s0, s1, s2, s3⟩, _⟩ := box4 HI5.out.sz
                  by_cases hm : x < M
                  · have q1 : ¬ ((M : Int) ≤ (x : Int)) := by omega
                    have hyes : h.uRow l k p = some ([x], q) := by rw [HUR.out]; exact if_pos (by rw [HMM.out]; exact hm)
                    have HP2 := Lib.hid (uPos_next HP.out hyes)
                    have HVL : Hid ((h.graphU l p0 0).L k = (x : Int) ∧ (h.graphU l p0 0).I k = false) := Lib.hid (by
                      have e := numU_at HP.out hyes
                      refine ⟨by show (((h.numU l p0 k).getD 0 0 : Nat) : Int) = _; rw [e]; rfl, ?_⟩
                      show decide ((h.numU l p0 k).length = 2 ∧ (h.numU l p0 k).getD 1 0 = 1) = _
                      rw [e]
                      simp)
                    obtain ⟨w4, hw4⟩ : ∃ x, x = w5 := ⟨_, rfl⟩
                    subst hw4
                    have HI4 := HI5
                    obtain ⟨_, g1, _, _⟩ := (box4 HI4.out.g).1
                    clear hm hyes
                    go_upto_region 15 with (fail)
                    refine wp_region_z (fun w' => w'.cell? ⟨b8, 1, none⟩ = some (.slice A1 k c1) ∧ w'.cell? ⟨bN, oN, none⟩ = some (.int .i64 (x : Nat))) [0, 1, 2, 3, 4, 5, 6, 7, 8, 9, 10, 11, 12, 13, 14] [18] (by kernel_rfl) (by kernel_rfl) (by kernel_rfl) (by rfl) (fun _ _ _ _ e h => ⟨e.symm.trans h.1, h.2⟩) ⟨g1, x0⟩ ?_
                    iterate 9
                      refine Heads.step (v := ?_) rfl (by first | (go_simp; done) | rfl) (fun W hW => ?_) ?_
                      rotate_left
                      · (obtain ⟨t0, t1⟩ := hW; go_simp; try with_reducible rfl)
                    iterate 4
                      refine Heads.skip rfl (by first | (go_simp; done) | rfl) ?_
                    iterate 2
                      refine Heads.step (v := ?_) rfl (by first | (go_simp; done) | rfl) (fun W hW => ?_) ?_
                      rotate_left
                      · (obtain ⟨t0, t1⟩ := hW; go_simp; try with_reducible rfl)
                    have hbl0 : Below w4.heap.size w4 w4.drew := (Below.refl _ w4).drew
                    have kp := Keeps.of_below hbl0
                    replace g1 := kp _ _ g1
                    replace x0 := kp _ _ x0
                    replace HI4 := Lib.hid (HI4.out.below hbl0)
                    clear hbl0 kp
                    generalize w4.drew = wd at *
                    refine AnyZ.one (i := 15) (by kernel_rfl) rfl (fun K hK => ?_)
                    go_simp
                    have hbl : Below wd.heap.size wd (wd.alloc (.cells #[.int .i64 (x : Nat), .bool false] 47)) := (Below.refl _ _).alloc (Nat.le_refl _) _
                    obtain ⟨_, _, hsc⟩ := src_news wd #[.int .i64 (x : Nat), .bool false] 47 2 1 rfl (by intro u hu; simp at hu; rcases hu with rfl | rfl <;> rfl)
                    obtain ⟨ad, hae, hsc⟩ := hsc (by omega)
                    injection hae with hae; subst hae
                    have kp := Keeps.of_below hbl
                    replace g1 := kp _ _ g1
                    replace x0 := kp _ _ x0
                    have HI5 := Lib.hid (HI4.out.below hbl)
                    clear hbl kp
                    generalize wd.alloc (.cells #[.int .i64 (x : Nat), .bool false] 47) = w5 at *
                    refine hK _ _ (fun _ => ⟨g1, x0⟩) ?_
                    clear hK
                    obtain ⟨A', c', w6, hap, hown, hon⟩ := run_append_s elLt 24 HI5.out.o1 ⟨wd.heap.size, 0, none⟩ 1 [.int .i64 (x : Nat), .bool false] rfl hsc (by intro u hu; simp at hu; rcases hu with rfl | rfl <;> rfl) (by omega) HI5.out.zz
                    have hap6 := HI5.out.lat hown (by show _ = [Value.int .i64 ((h.graphU l p0 0).L k), Value.bool ((h.graphU l p0 0).I k)]; rw [HVL.out.1, HVL.out.2]) hon
                    have HI6 := Lib.hid hap6.2
                    have hX6 := hap6.1
                    have hA3 : ∀ b, blockOf A1 b → b < wq.heap.size := fun b hb => own_lt HI.out.o1 b hb
                    replace g1 := (box4 hX6).1.2.1
                    replace x0 := hon.cell x0 (by show ¬ blockOf A1 bN; intro hb; have := hA3 _ hb; have := HWQ.out; omega)
                    clear hon hsc hA3 hown hap6
                    refine AnyZ.one (i := 16) (by kernel_rfl) rfl (fun K hK => ?_)
                    rw [if_pos (by rfl)]
                    refine wpZ_append1 (.tmp 110) (.tmp 124) 24 rfl rfl rfl hap ?_
                    go_simp
                    refine hK _ _ (fun _ => ⟨g1, x0⟩) ?_
                    clear hK hap
                    refine AnyZ.mid [17] [18] 1 rfl (by kernel_rfl) (by kernel_rfl) (by kernel_rfl) (fun _ _ _ _ e h => ⟨e.symm.trans h.1, h.2⟩) ⟨g1, x0⟩ ?_
                    iterate 1
                      refine Heads.step (v := ?_) rfl (by first | (go_simp; done) | rfl) (fun W hW => ?_) ?_
                      rotate_left
                      · (obtain ⟨t0, t1⟩ := hW; go_simp; try with_reducible rfl)
                    have z6 : w6.frozen? ⟨b8, 1, none⟩ = false := by simp [World.frozen?, hX6]
                    refine AnyZ.one (i := 18) (by kernel_rfl) rfl (fun K hK => ?_)
                    go_simp
                    refine hK _ _ (fun h => by cases h) (AnyZ.done (by kernel_rfl) ?_)
                    clear hK
                    go_simp
                    clear z6 hX6 g1 x0
                    go_wp2_with fail
                    exact ⟨⟨k + 1, q, A', none, c', 0, k + 1, 0, by omega, HQL.out, by simp, by simp, HP2, Lib.hid ⟨by omega, by omega, fun _ => ⟨rfl, rfl⟩⟩, HI6⟩, by simp [intOf]; omega⟩
                  · have q1 : (M : Int) ≤ (x : Int) := by omega
                    have HBD : Hid (BadU l p) := Lib.hid (.inr ⟨h, p0, HD1.out, .inl ⟨k, by unfold Hd.rowsU; omega, HP.out, by rw [HUR.out]; exact if_neg (by rw [HMM.out]; exact hm)⟩⟩)
                    clear hm s0 s1 s2 s3
                    have HX2 := Lib.hid HI5.out.r2
                    have HX3 := Lib.hid HI5.out.r3
                    have HXB := Lib.hid HI5.out.bel
                    go_wp2_with fail
                    refine (badByte_any p w5).mono ?_
                    rintro e wy ⟨rfl, hby⟩
                    have HY2 := Lib.hid (heap_below hby HX2.out); have HY3 := Lib.hid (heap_below hby HX3.out); have HYB := Lib.hid (HXB.out.trans (hby.mono HXB.out.size))
                    clear hby
                    obtain ⟨⟨y0, y1, y2, y3⟩, yz⟩ := box4 HY2.out
                    have yz0 := yz 0
                    have yz1 := yz 1
                    have yz2 := yz 2
                    have yz3 := yz 3
                    obtain ⟨⟨v0, v1⟩, vz⟩ := box2 HY3.out
                    have vz0 := vz 0
                    have vz1 := vz 1
                    have HR := Lib.hid (RfI.res (w0 := w) HY2.out HY3.out HYB.out (by have := HE.out; omega) (by have := HE.out; omega) (.int .i64 0) (.slice none 0 0) (.slice none 0 0) (.slice none 0 0) (.int .i64 16) (.int .i64 ((p : Nat) : Int)))
                    clear yz vz
                    go_wp2_with fail
                    exact bodyPost_ret (v := .tuple #[.agg #[.int .i64 0, .slice none 0 0, .slice none 0 0, .slice none 0 0], .agg #[.int .i64 16, .int .i64 ((p : Nat) : Int)]]) (outsX rfl rfl HR.out.1 HR.out.2.1) rfl ⟨.inl ⟨p, HBD.out, rfl⟩, HR.out.2.2.1⟩
                | [x, y], _ =>
                  have x0 : w5.cell? ⟨bN, oN, none⟩ = some (.int .i64 (x : Nat)) := hx 0 (by simp)
                  have x1 : w5.cell? ⟨bN, oN + 1, none⟩ = some (.int .i64 (y : Nat)) := hx 1 (by simp)
                  clear hx
                  obtain ⟨⟨s0, s1, s2, s3⟩, _⟩ := box4 HI5.out.sz
                  by_cases hm : x < M
                  · have q1 : ¬ ((M : Int) ≤ (x : Int)) := by omega
                    obtain ⟨bb, hbb⟩ : ∃ bb, bb = decide (y = 1) := ⟨_, rfl⟩
                    have HBB := Lib.hid hbb
                    have q3 : ((y : Int) == 1) = bb := by rw [hbb]; by_cases e : y = 1 <;> simp [e]; omega
                    clear hbb
                    have hyes : h.uRow l k p = some ([x, y], q) := by rw [HUR.out]; exact if_pos (by rw [HMM.out]; exact hm)
                    have HP2 := Lib.hid (uPos_next HP.out hyes)
                    have HVL : Hid ((h.graphU l p0 0).L k = (x : Int) ∧ (h.graphU l p0 0).I k = bb) := Lib.hid (by
                      have e := numU_at HP.out hyes
                      refine ⟨by show (((h.numU l p0 k).getD 0 0 : Nat) : Int) = _; rw [e]; rfl, ?_⟩
                      show decide ((h.numU l p0 k).length = 2 ∧ (h.numU l p0 k).getD 1 0 = 1) = _
                      rw [e]
                      simp [HBB.out])
                    obtain ⟨w4, hw4⟩ : ∃ x, x = w5 := ⟨_, rfl⟩
                    subst hw4
                    have HI4 := HI5
                    obtain ⟨_, g1, _, _⟩ := (box4 HI4.out.g).1
                    clear hm hyes
                    go_upto_region 15 with (fail)
                    refine wp_region_z (fun w' => w'.cell? ⟨b8, 1, none⟩ = some (.slice A1 k c1) ∧ w'.cell? ⟨bN, oN, none⟩ = some (.int .i64 (x : Nat)) ∧ w'.cell? ⟨bN, oN + 1, none⟩ = some (.int .i64 (y : Nat))) [0, 1, 2, 3, 4, 5, 6, 7, 8, 9, 10, 11, 12, 13, 14] [18] (by kernel_rfl) (by kernel_rfl) (by kernel_rfl) (by rfl) (fun _ _ _ _ e h => ⟨e.symm.trans h.1, h.2⟩) ⟨g1, x0, x1⟩ ?_
                    iterate 15
                      refine Heads.step (v := ?_) rfl (by first | (go_simp; done) | rfl) (fun W hW => ?_) ?_
                      rotate_left
                      · (obtain ⟨t0, t1, t2⟩ := hW; go_simp; try with_reducible rfl)
                    have hbl0 : Below w4.heap.size w4 w4.drew := (Below.refl _ w4).drew
                    have kp := Keeps.of_below hbl0
                    replace g1 := kp _ _ g1
                    replace x0 := kp _ _ x0
                    replace x1 := kp _ _ x1
                    replace HI4 := Lib.hid (HI4.out.below hbl0)
                    clear hbl0 kp
                    generalize w4.drew = wd at *
                    refine AnyZ.one (i := 15) (by kernel_rfl) rfl (fun K hK => ?_)
                    go_simp
                    have hbl : Below wd.heap.size wd (wd.alloc (.cells #[.int .i64 (x : Nat), .bool bb] 47)) := (Below.refl _ _).alloc (Nat.le_refl _) _
                    obtain ⟨_, _, hsc⟩ := src_news wd #[.int .i64 (x : Nat), .bool bb] 47 2 1 rfl (by intro u hu; simp at hu; rcases hu with rfl | rfl <;> rfl)
                    obtain ⟨ad, hae, hsc⟩ := hsc (by omega)
                    injection hae with hae; subst hae
                    have kp := Keeps.of_below hbl
                    replace g1 := kp _ _ g1
                    replace x0 := kp _ _ x0
                    replace x1 := kp _ _ x1
                    have HI5 := Lib.hid (HI4.out.below hbl)
                    clear hbl kp
                    generalize wd.alloc (.cells #[.int .i64 (x : Nat), .bool bb] 47) = w5 at *
                    refine hK _ _ (fun _ => ⟨g1, x0, x1⟩) ?_
                    clear hK
                    obtain ⟨A', c', w6, hap, hown, hon⟩ := run_append_s elLt 24 HI5.out.o1 ⟨wd.heap.size, 0, none⟩ 1 [.int .i64 (x : Nat), .bool bb] rfl hsc (by intro u hu; simp at hu; rcases hu with rfl | rfl <;> rfl) (by omega) HI5.out.zz
                    have hap6 := HI5.out.lat hown (by show _ = [Value.int .i64 ((h.graphU l p0 0).L k), Value.bool ((h.graphU l p0 0).I k)]; rw [HVL.out.1, HVL.out.2]) hon
                    have HI6 := Lib.hid hap6.2
                    have hX6 := hap6.1
                    have hA3 : ∀ b, blockOf A1 b → b < wq.heap.size := fun b hb => own_lt HI.out.o1 b hb
                    replace g1 := (box4 hX6).1.2.1
                    replace x0 := hon.cell x0 (by show ¬ blockOf A1 bN; intro hb; have := hA3 _ hb; have := HWQ.out; omega)
                    replace x1 := hon.cell x1 (by show ¬ blockOf A1 bN; intro hb; have := hA3 _ hb; have := HWQ.out; omega)
                    clear hon hsc hA3 hown hap6
                    refine AnyZ.one (i := 16) (by kernel_rfl) rfl (fun K hK => ?_)
                    rw [if_pos (by rfl)]
                    refine wpZ_append1 (.tmp 110) (.tmp 124) 24 rfl rfl rfl hap ?_
                    go_simp
                    refine hK _ _ (fun _ => ⟨g1, x0, x1⟩) ?_
                    clear hK hap
                    refine AnyZ.mid [17] [18] 1 rfl (by kernel_rfl) (by kernel_rfl) (by kernel_rfl) (fun _ _ _ _ e h => ⟨e.symm.trans h.1, h.2⟩) ⟨g1, x0, x1⟩ ?_
                    iterate 1
                      refine Heads.step (v := ?_) rfl (by first | (go_simp; done) | rfl) (fun W hW => ?_) ?_
                      rotate_left
                      · (obtain ⟨t0, t1, t2⟩ := hW; go_simp; try with_reducible rfl)
                    have z6 : w6.frozen? ⟨b8, 1, none⟩ = false := by simp [World.frozen?, hX6]
                    refine AnyZ.one (i := 18) (by kernel_rfl) rfl (fun K hK => ?_)
                    go_simp
                    refine hK _ _ (fun h => by cases h) (AnyZ.done (by kernel_rfl) ?_)
                    clear hK
                    go_simp
                    clear z6 hX6 g1 x0 x1
                    go_wp2_with fail
                    exact ⟨⟨k + 1, q, A', none, c', 0, k + 1, 0, by omega, HQL.out, by simp, by simp, HP2, Lib.hid ⟨by omega, by omega, fun _ => ⟨rfl, rfl⟩⟩, HI6⟩, by simp [intOf]; omega⟩
                  · have q1 : (M : Int) ≤ (x : Int) := by omega
                    have HBD : Hid (BadU l p) := Lib.hid (.inr ⟨h, p0, HD1.out, .inl ⟨k, by unfold Hd.rowsU; omega, HP.out, by rw [HUR.out]; exact if_neg (by rw [HMM.out]; exact hm)⟩⟩)
                    clear hm s0 s1 s2 s3
                    have HX2 := Lib.hid HI5.out.r2
                    have HX3 := Lib.hid HI5.out.r3
                    have HXB := Lib.hid HI5.out.bel
                    go_wp2_with fail
                    refine (badByte_any p w5).mono ?_
                    rintro e wy ⟨rfl, hby⟩
                    have HY2 := Lib.hid (heap_below hby HX2.out); have HY3 := Lib.hid (heap_below hby HX3.out); have HYB := Lib.hid (HXB.out.trans (hby.mono HXB.out.size))
                    clear hby
                    obtain ⟨⟨y0, y1, y2, y3⟩, yz⟩ := box4 HY2.out
                    have yz0 := yz 0
                    have yz1 := yz 1
                    have yz2 := yz 2
                    have yz3 := yz 3
                    obtain ⟨⟨v0, v1⟩, vz⟩ := box2 HY3.out
                    have vz0 := vz 0
                    have vz1 := vz 1
                    have HR := Lib.hid (RfI.res (w0 := w) HY2.out HY3.out HYB.out (by have := HE.out; omega) (by have := HE.out; omega) (.int .i64 0) (.slice none 0 0) (.slice none 0 0) (.slice none 0 0) (.int .i64 16) (.int .i64 ((p : Nat) : Int)))
                    clear yz vz
                    go_wp2_with fail
                    exact bodyPost_ret (v := .tuple #[.agg #[.int .i64 0, .slice none 0 0, .slice none 0 0, .slice none 0 0], .agg #[.int .i64 16, .int .i64 ((p : Nat) : Int)]]) (outsX rfl rfl HR.out.1 HR.out.2.1) rfl ⟨.inl ⟨p, HBD.out, rfl⟩, HR.out.2.2.1⟩
          · obtain rfl : n1 = h.l := by have := HN.out.1; omega
            obtain ⟨j, hj⟩ : ∃ j, j = n3 := ⟨_, rfl⟩
            subst hj
            have HJ : Hid (k = h.l + j) := Lib.hid (by have := HN.out.2.1; omega)
            have hjb : j ≤ 60000 := by have := HJ.out; omega
            clear HN
            have hln := refLine_any l A c p wq (HMO.out _ HI.out.bel) hp hl hcm
            go_wp2_with fail
            refine hln.mono ?_
            rintro e w3 ⟨hr, hb3⟩
            have HI3 := Lib.hid (HI.out.below hb3)
            have HW3 := Lib.hid hb3.size
            clear hln hb3 s0 s1 s2 s3
            rcases hr with ⟨hq, rfl⟩ | ⟨s, q, hq, rfl⟩
            · have HBD : Hid (BadU l p) := Lib.hid (.inr ⟨h, p0, HD1.out, .inl ⟨k, by unfold Hd.rowsU; omega, HP.out, uRow_ln hq⟩⟩)
              have hb4' : Below w3.heap.size w3 (w3.alloc (.cells #[.string ⟨#[]⟩] 9)) := (Below.refl _ _).alloc (Nat.le_refl _) _
              have hls := ls_one w3 []
              rw [show bstr [] = ⟨#[]⟩ from rfl] at hls
              have HI4 := Lib.hid (HI3.out.below hb4')
              have hrow := refRow_any [[]] (some ⟨w3.heap.size, 0, none⟩) 1 0 1 false _ hls (len_one _ (Nat.zero_le _)) (by omega)
              rw [show (([[]] : List (List UInt8)).length : Nat) = 1 from rfl, show ((0 : Nat) : Int) = 0 from rfl, show ((1 : Nat) : Int) = 1 from rfl] at hrow
              rw [row_nil] at hrow
              clear hls hb4' hq
              obtain ⟨⟨s0, s1, s2, s3⟩, _⟩ := box4 HI4.out.sz
              go_upto_region 11 with (fail)
              go_wp2_with fail
              refine hrow.mono ?_
              rintro e w5 ⟨hr, hb5⟩
              have HI5 := Lib.hid (HI4.out.below hb5)
              clear hrow hb5 s0 s1 s2 s3
              rcases hr with ⟨v, rfl, _⟩ | ⟨v, r, rfl, hr2, _⟩
              rotate_left
              · cases hr2
              have HX2 := Lib.hid HI5.out.r2
              have HX3 := Lib.hid HI5.out.r3
              have HXB := Lib.hid HI5.out.bel
              go_wp2_with fail
              refine (badByte_any p w5).mono ?_
              rintro e wy ⟨rfl, hby⟩
              have HY2 := Lib.hid (heap_below hby HX2.out); have HY3 := Lib.hid (heap_below hby HX3.out); have HYB := Lib.hid (HXB.out.trans (hby.mono HXB.out.size))
              clear hby
              obtain ⟨⟨y0, y1, y2, y3⟩, yz⟩ := box4 HY2.out
              have yz0 := yz 0
              have yz1 := yz 1
              have yz2 := yz 2
              have yz3 := yz 3
              obtain ⟨⟨v0, v1⟩, vz⟩ := box2 HY3.out
              have vz0 := vz 0
              have vz1 := vz 1
              have HR := Lib.hid (RfI.res (w0 := w) HY2.out HY3.out HYB.out (by have := HE.out; omega) (by have := HE.out; omega) (.int .i64 0) (.slice none 0 0) (.slice none 0 0) (.slice none 0 0) (.int .i64 16) (.int .i64 ((p : Nat) : Int)))
              clear yz vz
              go_wp2_with fail
              exact bodyPost_ret (v := .tuple #[.agg #[.int .i64 0, .slice none 0 0, .slice none 0 0, .slice none 0 0], .agg #[.int .i64 16, .int .i64 ((p : Nat) : Int)]]) (outsX rfl rfl HR.out.1 HR.out.2.1) rfl ⟨.inl ⟨p, HBD.out, rfl⟩, HR.out.2.2.1⟩
            · have hlb := lnB_le hq
              have hb4' : Below w3.heap.size w3 (w3.alloc (.cells #[.string (bstr s)] 9)) := (Below.refl _ _).alloc (Nat.le_refl _) _
              have hls := ls_one w3 s
              have HI4 := Lib.hid (HI3.out.below hb4')
              have hrow := refRow_any [s] (some ⟨w3.heap.size, 0, none⟩) 1 0 1 false _ hls (len_one _ (by omega)) (by omega)
              rw [show (([s] : List (List UInt8)).length : Nat) = 1 from rfl, show ((0 : Nat) : Int) = 0 from rfl, show ((1 : Nat) : Int) = 1 from rfl] at hrow
              obtain ⟨sb, hsb⟩ : ∃ sb, sb = bstr s := ⟨_, rfl⟩
              rw [← hsb] at hls hrow HI4
              rw [← hsb]
              obtain ⟨Q, hQ⟩ : ∃ Q, Q = rowR [s] 0 1 false := ⟨_, rfl⟩
              rw [← hQ] at hrow
              have HQL := Lib.hid hlb.2.1
              have HUR : Hid (h.uRow l k p = pickU h q Q) := Lib.hid (by rw [row1_rowR hq, decide_eq_false (by omega), hQ])
              have HQR := Lib.hid hQ
              clear hls hb4' hsb hlb hq hQ
              obtain ⟨⟨s0, s1, s2, s3⟩, _⟩ := box4 HI4.out.sz
              go_upto_region 11 with (fail)
              go_wp2_with fail
              refine hrow.mono ?_
              rintro e w5 ⟨hr, hb5⟩
              have HWQ : Hid (wq.heap.size ≤ (w3.alloc (.cells #[.string sb] 9)).heap.size) := Lib.hid (by have := HW3.out; simp; omega)
              have HI5 := Lib.hid (HI4.out.below hb5)
              clear hrow hb5 s0 s1 s2 s3
              rcases hr with ⟨v, rfl, rfl⟩ | ⟨v, ns, rfl, rfl, hnv⟩
              · have HBD : Hid (BadU l p) := Lib.hid (.inr ⟨h, p0, HD1.out, .inl ⟨k, by unfold Hd.rowsU; omega, HP.out, HUR.out⟩⟩)
                have HX2 := Lib.hid HI5.out.r2
                have HX3 := Lib.hid HI5.out.r3
                have HXB := Lib.hid HI5.out.bel
                go_wp2_with fail
                refine (badByte_any p w5).mono ?_
                rintro e wy ⟨rfl, hby⟩
                have HY2 := Lib.hid (heap_below hby HX2.out); have HY3 := Lib.hid (heap_below hby HX3.out); have HYB := Lib.hid (HXB.out.trans (hby.mono HXB.out.size))
                clear hby
                obtain ⟨⟨y0, y1, y2, y3⟩, yz⟩ := box4 HY2.out
                have yz0 := yz 0
                have yz1 := yz 1
                have yz2 := yz 2
                have yz3 := yz 3
                obtain ⟨⟨v0, v1⟩, vz⟩ := box2 HY3.out
                have vz0 := vz 0
                have vz1 := vz 1
                have HR := Lib.hid (RfI.res (w0 := w) HY2.out HY3.out HYB.out (by have := HE.out; omega) (by have := HE.out; omega) (.int .i64 0) (.slice none 0 0) (.slice none 0 0) (.slice none 0 0) (.int .i64 16) (.int .i64 ((p : Nat) : Int)))
                clear yz vz
                go_wp2_with fail
                exact bodyPost_ret (v := .tuple #[.agg #[.int .i64 0, .slice none 0 0, .slice none 0 0, .slice none 0 0], .agg #[.int .i64 16, .int .i64 ((p : Nat) : Int)]]) (outsX rfl rfl HR.out.1 HR.out.2.1) rfl ⟨.inl ⟨p, HBD.out, rfl⟩, HR.out.2.2.1⟩
              · obtain ⟨bN, oN, cN, rfl, hbN, hx⟩ := hnv
                have hlen : ns.length = 1 := by
                  rcases (rowR1_yes HQR.out.symm) with h9 | h9
                  · exact absurd h9.1 (by simp)
                  · exact h9
                match ns, hlen with
                | [x], _ =>
                  have x0 : w5.cell? ⟨bN, oN, none⟩ = some (.int .i64 (x : Nat)) := hx 0 (by simp)
                  clear hx
                  obtain ⟨⟨s0, s1, s2, s3⟩, _⟩ := box4 HI5.out.sz
                  by_cases hm : x < M
                  · have q1 : ¬ ((M : Int) ≤ (x : Int)) := by omega
                    have hyes : h.uRow l k p = some ([x], q) := by rw [HUR.out]; exact if_pos (by rw [HMM.out]; exact hm)
                    have HP2 := Lib.hid (uPos_next HP.out hyes)
                    have HVL : Hid ((h.graphU l p0 0).O j = (x : Int)) := Lib.hid (by
                      have e := numU_at HP.out hyes
                      show (((h.numU l p0 (h.l + j)).getD 0 0 : Nat) : Int) = _
                      rw [← HJ.out, e]; rfl)
                    obtain ⟨w4, hw4⟩ : ∃ x, x = w5 := ⟨_, rfl⟩
                    subst hw4
                    have HI4 := HI5
                    obtain ⟨_, _, _, g1⟩ := (box4 HI4.out.g).1
                    clear hm hyes
                    go_upto_region 16 with (fail)
                    refine wp_region_z (fun w' => w'.cell? ⟨b8, 3, none⟩ = some (.slice A3 j c3) ∧ w'.cell? ⟨bN, oN, none⟩ = some (.int .i64 (x : Nat))) [0, 1, 2, 3, 4] [8] (by kernel_rfl) (by kernel_rfl) (by kernel_rfl) (by rfl) (fun _ _ _ _ e h => ⟨e.symm.trans h.1, h.2⟩) ⟨g1, x0⟩ ?_
                    iterate 5
                      refine Heads.step (v := ?_) rfl (by first | (go_simp; done) | rfl) (fun W hW => ?_) ?_
                      rotate_left
                      · (obtain ⟨t0, t1⟩ := hW; go_simp; try with_reducible rfl)
                    have hbl0 : Below w4.heap.size w4 w4.drew := (Below.refl _ w4).drew
                    have kp := Keeps.of_below hbl0
                    replace g1 := kp _ _ g1
                    replace x0 := kp _ _ x0
                    replace HI4 := Lib.hid (HI4.out.below hbl0)
                    clear hbl0 kp
                    generalize w4.drew = wd at *
                    refine AnyZ.one (i := 5) (by kernel_rfl) rfl (fun K hK => ?_)
                    go_simp
                    have hbl : Below wd.heap.size wd (wd.alloc (.cells #[.int .i64 (x : Nat)] 3)) := (Below.refl _ _).alloc (Nat.le_refl _) _
                    obtain ⟨_, _, hsc⟩ := src_news wd #[.int .i64 (x : Nat)] 3 1 1 rfl (by intro u hu; simp at hu; subst hu; rfl)
                    obtain ⟨ad, hae, hsc⟩ := hsc (by omega)
                    injection hae with hae; subst hae
                    have kp := Keeps.of_below hbl
                    replace g1 := kp _ _ g1
                    replace x0 := kp _ _ x0
                    have HI5 := Lib.hid (HI4.out.below hbl)
                    clear hbl kp
                    generalize wd.alloc (.cells #[.int .i64 (x : Nat)] 3) = w5 at *
                    refine hK _ _ (fun _ => ⟨g1, x0⟩) ?_
                    clear hK
                    obtain ⟨A', c', w6, hap, hown, hon⟩ := run_append_s elIn 26 HI5.out.o3 ⟨wd.heap.size, 0, none⟩ 1 [.int .i64 (x : Nat)] rfl hsc (by intro u hu; simp at hu; subst hu; rfl) (by omega) HI5.out.zz
                    have hap6 := HI5.out.out hown (by show _ = [Value.int .i64 ((h.graphU l p0 0).O j)]; rw [HVL.out]) hon
                    have HI6 := Lib.hid hap6.2
                    have hX6 := hap6.1
                    have hA3 : ∀ b, blockOf A3 b → b < wq.heap.size := fun b hb => own_lt HI.out.o3 b hb
                    replace g1 := (box4 hX6).1.2.2.2
                    replace x0 := hon.cell x0 (by show ¬ blockOf A3 bN; intro hb; have := hA3 _ hb; have := HWQ.out; omega)
                    clear hon hsc hA3 hown hap6
                    refine AnyZ.one (i := 6) (by kernel_rfl) rfl (fun K hK => ?_)
                    rw [if_pos (by rfl)]
                    refine wpZ_append1 (.tmp 128) (.tmp 132) 26 rfl rfl rfl hap ?_
                    go_simp
                    refine hK _ _ (fun _ => ⟨g1, x0⟩) ?_
                    clear hK hap
                    refine AnyZ.mid [7] [8] 1 rfl (by kernel_rfl) (by kernel_rfl) (by kernel_rfl) (fun _ _ _ _ e h => ⟨e.symm.trans h.1, h.2⟩) ⟨g1, x0⟩ ?_
                    iterate 1
                      refine Heads.step (v := ?_) rfl (by first | (go_simp; done) | rfl) (fun W hW => ?_) ?_
                      rotate_left
                      · (obtain ⟨t0, t1⟩ := hW; go_simp; try with_reducible rfl)
                    have z6 : w6.frozen? ⟨b8, 3, none⟩ = false := by simp [World.frozen?, hX6]
                    refine AnyZ.one (i := 8) (by kernel_rfl) rfl (fun K hK => ?_)
                    go_simp
                    refine hK _ _ (fun h => by cases h) (AnyZ.done (by kernel_rfl) ?_)
                    clear hK
                    go_simp
                    clear z6 hX6 g1 x0
                    go_wp2_with fail
                    exact ⟨⟨k + 1, q, A1, A', c1, c', h.l, j + 1, by omega, HQL.out, by simp, by simp, HP2, Lib.hid ⟨by omega, by have := HJ.out; omega, fun hx => by omega⟩, HI6⟩, by simp [intOf]; omega⟩
                  · have q1 : (M : Int) ≤ (x : Int) := by omega
                    have HBD : Hid (BadU l p) := Lib.hid (.inr ⟨h, p0, HD1.out, .inl ⟨k, by unfold Hd.rowsU; omega, HP.out, by rw [HUR.out]; exact if_neg (by rw [HMM.out]; exact hm)⟩⟩)
                    clear hm s0 s1 s2 s3
                    have HX2 := Lib.hid HI5.out.r2
                    have HX3 := Lib.hid HI5.out.r3
                    have HXB := Lib.hid HI5.out.bel
                    go_wp2_with fail
                    refine (badByte_any p w5).mono ?_
                    rintro e wy ⟨rfl, hby⟩
                    have HY2 := Lib.hid (heap_below hby HX2.out); have HY3 := Lib.hid (heap_below hby HX3.out); have HYB := Lib.hid (HXB.out.trans (hby.mono HXB.out.size))
                    clear hby
                    obtain ⟨⟨y0, y1, y2, y3⟩, yz⟩ := box4 HY2.out
                    have yz0 := yz 0
                    have yz1 := yz 1
                    have yz2 := yz 2
                    have yz3 := yz 3
                    obtain ⟨⟨v0, v1⟩, vz⟩ := box2 HY3.out
                    have vz0 := vz 0
                    have vz1 := vz 1
                    have HR := Lib.hid (RfI.res (w0 := w) HY2.out HY3.out HYB.out (by have := HE.out; omega) (by have := HE.out; omega) (.int .i64 0) (.slice none 0 0) (.slice none 0 0) (.slice none 0 0) (.int .i64 16) (.int .i64 ((p : Nat) : Int)))
                    clear yz vz
                    go_wp2_with fail
                    exact bodyPost_ret (v := .tuple #[.agg #[.int .i64 0, .slice none 0 0, .slice none 0 0, .slice none 0 0], .agg #[.int .i64 16, .int .i64 ((p : Nat) : Int)]]) (outsX rfl rfl HR.out.1 HR.out.2.1) rfl ⟨.inl ⟨p, HBD.out, rfl⟩, HR.out.2.2.1⟩
        · obtain rfl : n1 = h.l := by have := HN.out.1; omega
          obtain rfl : n3 = h.o := by have := HN.out.2.1; omega
          have hlti : ¬ ((k : Int) < (h.l : Int) + (h.o : Int)) := by omega
          have hke : k = h.l + h.o := by omega
          have HKE1 := Lib.hid hke
          clear hke
          obtain ⟨p1, hp1⟩ : ∃ p1, p1 = p := ⟨_, rfl⟩
          subst hp1
          have HP1 : Hid (h.uPos l p0 h.rowsU = some p1) := Lib.hid (by have e := HP.out; unfold Hd.rowsU; rw [← HKE1.out]; exact e)
          have HPL1 := Lib.hid hp
          have HI0 : Hid (RuI w l h p0 p1 b2 b3 b6 b8 z A1 none A3 c1 0 c3 h.l 0 h.o wq) := Lib.hid HI.out.repos
          clear HP HI HN hlt hkl hp
          go_wp2_with fail
          clear s0 s1 s2 s3
          go_loopw [5, 17] (fun vp vi wr => ∃ (k p : Nat) (A2 : Option Addr) (c2 : Nat), k ≤ h.a ∧ p ≤ l.length ∧ vp = .int .i64 p ∧ vi = .int .i64 k ∧ Hid (h.gPos l p1 k = some p) ∧ Hid (RuI w l h p0 p1 b2 b3 b6 b8 z A1 A2 A3 c1 c2 c3 h.l k h.o wr)) (fun _ vi _ => h.a - (intOf vi).toNat)
          case atStart => exact ⟨0, p1, none, 0, by omega, HPL1.out, rfl, rfl, Lib.hid rfl, HI0⟩
          case round =>
            clear HI0
            obtain ⟨k, p, A2, c2, hkl, hp, rfl, rfl, HP, HI⟩ := hrel
            obtain ⟨wq, hwq⟩ : ∃ wq, wq = wr := ⟨_, rfl⟩
            subst hwq
            obtain ⟨⟨s0, s1, s2, s3⟩, _⟩ := box4 HI.out.sz
            by_cases hlt : k < h.a
            · obtain ⟨ow, how⟩ : ∃ x, x = h.own k := ⟨_, rfl⟩
              have HOWN := Lib.hid how
              have hoe : ow = 2 * (1 + h.i + h.l + k) := how
              have ew1 : IntKind.i64.wrap (1 + (h.i : Int)) = 1 + (h.i : Int) := by rw [IntKind.wrap_i64]; omega
              have ew2 : IntKind.i64.wrap (1 + (h.i : Int) + (h.l : Int)) = 1 + (h.i : Int) + (h.l : Int) := by rw [IntKind.wrap_i64]; omega
              have ew3 : IntKind.i64.wrap (1 + (h.i : Int) + (h.l : Int) + (k : Int)) = 1 + (h.i : Int) + (h.l : Int) + (k : Int) := by rw [IntKind.wrap_i64]; omega
              have ew4 : IntKind.i64.wrap (2 * (1 + (h.i : Int) + (h.l : Int) + (k : Int))) = (ow : Int) := by rw [IntKind.wrap_i64]; omega
              have ew5 : 2 * (1 + (h.i : Int) + (h.l : Int) + (k : Int)) = (ow : Int) := by omega
              have hob : ow ≤ 200000 := by omega
              clear how hoe
              have hus := unseven_any l A c p wq (HMO.out _ HI.out.bel) hp hl
              go_wp2_with fail
              refine hus.mono ?_
              rintro e w3 ⟨hr, hb3⟩
              have HI3 := Lib.hid (HI.out.below hb3)
              have HW3 := Lib.hid hb3.size
              clear hus hb3
              rcases hr with ⟨hq, nx, qx, rfl⟩ | ⟨x, q, hq, rfl⟩
              · have HBD : Hid (BadU l p) := Lib.hid (.inr ⟨h, p0, HD1.out, .inr ⟨p1, HP1.out, .inl ⟨k, p, hlt, HP.out, .inl ⟨by unfold Hd.gX; rw [hq], rfl⟩⟩⟩⟩)
                clear hq
                obtain ⟨⟨s0, s1, s2, s3⟩, _⟩ := box4 HI3.out.sz
                have HX2 := Lib.hid HI3.out.r2
                have HX3 := Lib.hid HI3.out.r3
                have HXB := Lib.hid HI3.out.bel
                go_wp2_with fail
                refine (badByte_any p w3).mono ?_
                rintro e wy ⟨rfl, hby⟩
                have HY2 := Lib.hid (heap_below hby HX2.out); have HY3 := Lib.hid (heap_below hby HX3.out); have HYB := Lib.hid (HXB.out.trans (hby.mono HXB.out.size))
                clear hby
                obtain ⟨⟨y0, y1, y2, y3⟩, yz⟩ := box4 HY2.out
                have yz0 := yz 0
                have yz1 := yz 1
                have yz2 := yz 2
                have yz3 := yz 3
                obtain ⟨⟨v0, v1⟩, vz⟩ := box2 HY3.out
                have vz0 := vz 0
                have vz1 := vz 1
                have HR := Lib.hid (RfI.res (w0 := w) HY2.out HY3.out HYB.out (by have := HE.out; omega) (by have := HE.out; omega) (.int .i64 0) (.slice none 0 0) (.slice none 0 0) (.slice none 0 0) (.int .i64 16) (.int .i64 ((p : Nat) : Int)))
                clear yz vz
                go_wp2_with fail
                exact bodyPost_ret (v := .tuple #[.agg #[.int .i64 0, .slice none 0 0, .slice none 0 0, .slice none 0 0], .agg #[.int .i64 16, .int .i64 ((p : Nat) : Int)]]) (outsX rfl rfl HR.out.1 HR.out.2.1) rfl ⟨.inl ⟨p, HBD.out, rfl⟩, HR.out.2.2.1⟩
              · have hqle := (svB_le hq).2
                have HQLE := Lib.hid hqle
                obtain ⟨⟨s0, s1, s2, s3⟩, _⟩ := box4 HI3.out.sz
                by_cases hx1 : x < 1
                · have HBD : Hid (BadU l p) := Lib.hid (.inr ⟨h, p0, HD1.out, .inr ⟨p1, HP1.out, .inl ⟨k, p, hlt, HP.out, .inl ⟨by unfold Hd.gX; rw [hq]; exact if_neg (by omega), rfl⟩⟩⟩⟩)
                  have q1 : (x : Int) < 1 := by omega
                  clear hq hqle hx1
                  have HX2 := Lib.hid HI3.out.r2
                  have HX3 := Lib.hid HI3.out.r3
                  have HXB := Lib.hid HI3.out.bel
                  go_wp2_with fail
                  refine (badByte_any p w3).mono ?_
                  rintro e wy ⟨rfl, hby⟩
                  have HY2 := Lib.hid (heap_below hby HX2.out); have HY3 := Lib.hid (heap_below hby HX3.out); have HYB := Lib.hid (HXB.out.trans (hby.mono HXB.out.size))
                  clear hby
                  obtain ⟨⟨y0, y1, y2, y3⟩, yz⟩ := box4 HY2.out
                  have yz0 := yz 0
                  have yz1 := yz 1
                  have yz2 := yz 2
                  have yz3 := yz 3
                  obtain ⟨⟨v0, v1⟩, vz⟩ := box2 HY3.out
                  have vz0 := vz 0
                  have vz1 := vz 1
                  have HR := Lib.hid (RfI.res (w0 := w) HY2.out HY3.out HYB.out (by have := HE.out; omega) (by have := HE.out; omega) (.int .i64 0) (.slice none 0 0) (.slice none 0 0) (.slice none 0 0) (.int .i64 16) (.int .i64 ((p : Nat) : Int)))
                  clear yz vz
                  go_wp2_with fail
                  exact bodyPost_ret (v := .tuple #[.agg #[.int .i64 0, .slice none 0 0, .slice none 0 0, .slice none 0 0], .agg #[.int .i64 16, .int .i64 ((p : Nat) : Int)]]) (outsX rfl rfl HR.out.1 HR.out.2.1) rfl ⟨.inl ⟨p, HBD.out, rfl⟩, HR.out.2.2.1⟩
                · have q1 : ¬ ((x : Int) < 1) := by omega
                  by_cases hx2 : ow < x
                  · have HBD : Hid (BadU l p) := Lib.hid (.inr ⟨h, p0, HD1.out, .inr ⟨p1, HP1.out, .inl ⟨k, p, hlt, HP.out, .inl ⟨by unfold Hd.gX; rw [hq]; exact if_neg (by rw [← HOWN.out]; omega), rfl⟩⟩⟩⟩)
                    have q2 : (ow : Int) < (x : Int) := by omega
                    clear hq hqle hx1 hx2
                    have HX2 := Lib.hid HI3.out.r2
                    have HX3 := Lib.hid HI3.out.r3
                    have HXB := Lib.hid HI3.out.bel
                    go_wp2_with fail
                    refine (badByte_any p w3).mono ?_
                    rintro e wy ⟨rfl, hby⟩
                    have HY2 := Lib.hid (heap_below hby HX2.out); have HY3 := Lib.hid (heap_below hby HX3.out); have HYB := Lib.hid (HXB.out.trans (hby.mono HXB.out.size))
                    clear hby
                    obtain ⟨⟨y0, y1, y2, y3⟩, yz⟩ := box4 HY2.out
                    have yz0 := yz 0
                    have yz1 := yz 1
                    have yz2 := yz 2
                    have yz3 := yz 3
                    obtain ⟨⟨v0, v1⟩, vz⟩ := box2 HY3.out
                    have vz0 := vz 0
                    have vz1 := vz 1
                    have HR := Lib.hid (RfI.res (w0 := w) HY2.out HY3.out HYB.out (by have := HE.out; omega) (by have := HE.out; omega) (.int .i64 0) (.slice none 0 0) (.slice none 0 0) (.slice none 0 0) (.int .i64 16) (.int .i64 ((p : Nat) : Int)))
                    clear yz vz
                    go_wp2_with fail
                    exact bodyPost_ret (v := .tuple #[.agg #[.int .i64 0, .slice none 0 0, .slice none 0 0, .slice none 0 0], .agg #[.int .i64 16, .int .i64 ((p : Nat) : Int)]]) (outsX rfl rfl HR.out.1 HR.out.2.1) rfl ⟨.inl ⟨p, HBD.out, rfl⟩, HR.out.2.2.1⟩
                  · have q2 : ¬ ((ow : Int) < (x : Int)) := by omega
                    have HX : Hid (h.gX l k p = some (x, q)) := Lib.hid (by unfold Hd.gX; rw [hq]; exact if_pos ⟨by omega, by rw [← HOWN.out]; omega⟩)
                    have ew6 : IntKind.i64.wrap ((ow : Int) - (x : Int)) = ((ow - x : Nat) : Int) := by rw [IntKind.wrap_i64]; omega
                    obtain ⟨d, hd⟩ : ∃ d, d = ow - x := ⟨_, rfl⟩
                    rw [← hd] at ew6
                    have ew7 : (ow : Int) - (x : Int) = (d : Int) := by omega
                    have HDD : Hid (d = h.own k - x ∧ (d : Int) = (h.own k : Int) - (x : Int)) := Lib.hid (by rw [← HOWN.out]; exact ⟨hd, by omega⟩)
                    have hdb : d ≤ 200000 := by omega
                    have hus := unseven_any l A c q w3 (HMO.out _ HI3.out.bel) hqle hl
                    clear hd hq hx1 hx2
                    go_wp2_with fail
                    refine hus.mono ?_
                    rintro e w4 ⟨hr, hb4⟩
                    have HI4 := Lib.hid (HI3.out.below hb4)
                    have HW4 := Lib.hid hb4.size
                    clear hus hb4 s0 s1 s2 s3
                    rcases hr with ⟨hq, nx, qx, rfl⟩ | ⟨y, r, hq, rfl⟩
                    · have HBD : Hid (BadU l q) := Lib.hid (.inr ⟨h, p0, HD1.out, .inr ⟨p1, HP1.out, .inl ⟨k, p, hlt, HP.out, .inr ⟨x, HX.out, by unfold Hd.gY; rw [hq]⟩⟩⟩⟩)
                      clear hq
                      have HX2 := Lib.hid HI4.out.r2
                      have HX3 := Lib.hid HI4.out.r3
                      have HXB := Lib.hid HI4.out.bel
                      go_wp2_with fail
                      refine (badByte_any q w4).mono ?_
                      rintro e wy ⟨rfl, hby⟩
                      have HY2 := Lib.hid (heap_below hby HX2.out); have HY3 := Lib.hid (heap_below hby HX3.out); have HYB := Lib.hid (HXB.out.trans (hby.mono HXB.out.size))
                      clear hby
                      obtain ⟨⟨y0, y1, y2, y3⟩, yz⟩ := box4 HY2.out
                      have yz0 := yz 0
                      have yz1 := yz 1
                      have yz2 := yz 2
                      have yz3 := yz 3
                      obtain ⟨⟨v0, v1⟩, vz⟩ := box2 HY3.out
                      have vz0 := vz 0
                      have vz1 := vz 1
                      have HR := Lib.hid (RfI.res (w0 := w) HY2.out HY3.out HYB.out (by have := HE.out; omega) (by have := HE.out; omega) (.int .i64 0) (.slice none 0 0) (.slice none 0 0) (.slice none 0 0) (.int .i64 16) (.int .i64 ((q : Nat) : Int)))
                      clear yz vz
                      go_wp2_with fail
                      exact bodyPost_ret (v := .tuple #[.agg #[.int .i64 0, .slice none 0 0, .slice none 0 0, .slice none 0 0], .agg #[.int .i64 16, .int .i64 ((q : Nat) : Int)]]) (outsX rfl rfl HR.out.1 HR.out.2.1) rfl ⟨.inl ⟨q, HBD.out, rfl⟩, HR.out.2.2.1⟩
                    · have hrle := (svB_le hq).2
                      by_cases hy : d < y
                      · have HBD : Hid (BadU l q) := Lib.hid (.inr ⟨h, p0, HD1.out, .inr ⟨p1, HP1.out, .inl ⟨k, p, hlt, HP.out, .inr ⟨x, HX.out, by unfold Hd.gY; rw [hq]; exact if_neg (by rw [← HDD.out.1]; omega)⟩⟩⟩⟩)
                        have q3 : (d : Int) < (y : Int) := by omega
                        clear hq hrle hy
                        have HX2 := Lib.hid HI4.out.r2
                        have HX3 := Lib.hid HI4.out.r3
                        have HXB := Lib.hid HI4.out.bel
                        go_wp2_with fail
                        refine (badByte_any q w4).mono ?_
                        rintro e wy ⟨rfl, hby⟩
                        have HY2 := Lib.hid (heap_below hby HX2.out); have HY3 := Lib.hid (heap_below hby HX3.out); have HYB := Lib.hid (HXB.out.trans (hby.mono HXB.out.size))
                        clear hby
                        obtain ⟨⟨y0, y1, y2, y3⟩, yz⟩ := box4 HY2.out
                        have yz0 := yz 0
                        have yz1 := yz 1
                        have yz2 := yz 2
                        have yz3 := yz 3
                        obtain ⟨⟨v0, v1⟩, vz⟩ := box2 HY3.out
                        have vz0 := vz 0
                        have vz1 := vz 1
                        have HR := Lib.hid (RfI.res (w0 := w) HY2.out HY3.out HYB.out (by have := HE.out; omega) (by have := HE.out; omega) (.int .i64 0) (.slice none 0 0) (.slice none 0 0) (.slice none 0 0) (.int .i64 16) (.int .i64 ((q : Nat) : Int)))
                        clear yz vz
                        go_wp2_with fail
                        exact bodyPost_ret (v := .tuple #[.agg #[.int .i64 0, .slice none 0 0, .slice none 0 0, .slice none 0 0], .agg #[.int .i64 16, .int .i64 ((q : Nat) : Int)]]) (outsX rfl rfl HR.out.1 HR.out.2.1) rfl ⟨.inl ⟨q, HBD.out, rfl⟩, HR.out.2.2.1⟩
                      · have q3 : ¬ ((d : Int) < (y : Int)) := by omega
                        have HY : Hid (h.gY l k x q = some (y, r)) := Lib.hid (by unfold Hd.gY; rw [hq]; exact if_pos (by rw [← HDD.out.1]; omega))
                        have hrow := gRow_yes HX.out HY.out
                        have HP2 := Lib.hid (gPos_next HP.out hrow)
                        have HRLE := Lib.hid hrle
                        have HVL : Hid ((h.graphU l 0 p1).X k = (d : Int) ∧ (h.graphU l 0 p1).Y k = (d : Int) - (y : Int)) := Lib.hid (by
                          have e := gatU_at HP.out hrow
                          have e1 : (h.graphU l 0 p1).X k = (h.own k : Int) - (x : Int) := by
                            show (h.own k : Int) - ((h.gatU l p1 k).1 : Nat) = _
                            rw [e]
                          have e2 : (h.graphU l 0 p1).Y k = (h.own k : Int) - (x : Int) - (y : Int) := by
                            show (h.own k : Int) - ((h.gatU l p1 k).1 : Nat) - ((h.gatU l p1 k).2 : Nat) = _
                            rw [e]
                          rw [e1, e2, HDD.out.2]
                          exact ⟨rfl, rfl⟩)
                        have ew8 : IntKind.i64.wrap ((d : Int) - (y : Int)) = (d : Int) - (y : Int) := by rw [IntKind.wrap_i64]; omega
                        clear hq hrow hrle hy
                        obtain ⟨_, _, g1, _⟩ := (box4 HI4.out.g).1
                        have HI5 := Lib.hid (HI4.out.below ((Below.refl w4.heap.size w4).alloc (Nat.le_refl _) (.cells #[.int .i64 (d : Int), .int .i64 ((d : Int) - (y : Int))] 48)))
                        have HNW : Hid ([Value.int .i64 (d : Int), Value.int .i64 ((d : Int) - (y : Int))] = (List.range 2).map (fAndU h l p1 k)) := Lib.hid (by show _ = [Value.int .i64 ((h.graphU l 0 p1).X k), Value.int .i64 ((h.graphU l 0 p1).Y k)]; rw [HVL.out.1, HVL.out.2])
                        go_wp2_with (at_builtin; refine wp_append rfl (.tmp 194) (.tmp 204) _ rfl elPr z A2 k c2 _ rfl HI5.out.o2 _ 1 1 [.int .i64 (d : Int), .int .i64 ((d : Int) - (y : Int))] rfl (src_news w4 #[.int .i64 (d : Int), .int .i64 ((d : Int) - (y : Int))] 48 2 1 rfl (by intro u hu; simp at hu; rcases hu with rfl | rfl <;> rfl)) (by omega) HI5.out.zz ?_; intro A' c' w6 hown hon hbk; have hap6 := HI5.out.and_ hown HNW.out hon; have HX6 := Lib.hid hap6.1; have HI6 := Lib.hid hap6.2; have z6 : w6.frozen? ⟨b8, 2, none⟩ = false := (box4 HX6.out).2 2; have g6 := (box4 HX6.out).1.2.2.1; clear hap6 hown hon hbk)
                        exact ⟨⟨k + 1, r, A', c', by omega, HRLE.out, by simp, by simp, HP2, HI6⟩, by simp [intOf]; omega⟩
            · obtain rfl : h.a = k := by omega
              obtain ⟨bA, oA, rfl, hmem, hlc⟩ := (HMO.out _ HI.out.bel).at_ HL0.out
              have hcv := conv_tail wq bA oA c l p hmem hp hlc
              obtain ⟨rest, hrest⟩ : ∃ r, r = l.drop p := ⟨_, rfl⟩
              have hrl : rest.length ≤ 1000000000 := by rw [hrest, List.length_drop]; omega
              rw [← hrest] at hcv
              have hln := lines_any rest wq hrl
              obtain ⟨LS, hLS⟩ : ∃ L, L = linA rest [] := ⟨_, rfl⟩
              obtain ⟨TL, hTL⟩ : ∃ T, T = tlA rest [] := ⟨_, rfl⟩
              have hc1 := linU_count rest []
              have HLW : Hid (∀ i, i < LS.length → (LS.getD i []).length ≤ 1000000000) := Lib.hid (fun i hi => by
                have h9 := linU_wlen rest [] (LS.getD i []) (by rw [← hLS, List.getD_eq_getElem?_getD, List.getElem?_eq_getElem hi]; exact List.getElem_mem hi)
                simp only [List.length_nil] at h9
                omega)
              rw [← hLS, ← hTL] at hln
              rw [← hLS] at hc1
              have HTU : Hid (tailU l p = tailF TL LS 0) := Lib.hid (by unfold tailU; rw [← hrest, ← hLS, ← hTL])
              obtain ⟨T, hT⟩ : ∃ T, T = TL.isEmpty := ⟨_, rfl⟩
              rw [← hT] at hln
              have HTE := Lib.hid hT
              obtain ⟨LL, hLL⟩ : ∃ n, n = LS.length := ⟨_, rfl⟩
              rw [← hLL] at hln hc1
              have HLL2 := Lib.hid hLL
              obtain ⟨sr, hsr⟩ : ∃ s, s = bstr rest := ⟨_, rfl⟩
              rw [← hsr] at hcv hln
              have hLb : LL ≤ 1000000000 := by omega
              have hpn : (p : Int) ≤ (l.length : Int) := by omega
              clear hLS hTL hT hLL hrest hsr hc1 hmem
              go_upto_region 30 with (fail)
              clear s0 s1 s2 s3
              obtain ⟨X, hX⟩ : ∃ X, (if c = p then (some ⟨bA, oA, none⟩ : Option Addr) else some ⟨bA, oA + p, none⟩) = X := ⟨_, rfl⟩
              rw [hX] at hcv
              go_wp2_with fail
              clear hX
              refine hln.mono ?_
              rintro e w3 ⟨⟨AL, cL, rfl, hls⟩, hb3⟩
              have HI3 := Lib.hid (HI.out.below hb3)
              have hbh := behind_any LS AL cL 0 w3 hls (by rw [← HLL2.out]; exact hLb) HLW.out (Nat.zero_le _)
              rw [List.drop_zero, ← HLL2.out, show ((0 : Nat) : Int) = 0 from rfl] at hbh
              have HLSA := Lib.hid hls
              obtain ⟨K, hK⟩ : ∃ K, K = bhF LS 0 := ⟨_, rfl⟩
              rw [← hK] at hbh
              have HKE := Lib.hid hK
              clear hK hln hb3 hls hcv
              go_wp2_with fail
              refine hbh.mono ?_
              rintro e w5 ⟨rfl, hb5⟩
              have HI5 := Lib.hid (HI3.out.below hb5)
              have HLS5 := Lib.hid (HLSA.out.below hb5)
              clear hbh hb5
              go_wp2_with fail
              go_loopw [27, 28] (fun vc vi wr => ∃ (i : Nat) (cm : Bool), i ≤ LL ∧ vc = .bool cm ∧ vi = .int .i64 i ∧ Hid (cm = true ↔ ∃ j, j < i ∧ LS.getD j [] = [99]) ∧ Hid (RuI w l h p0 p1 b2 b3 b6 b8 z A1 A2 A3 c1 c2 c3 h.l h.a h.o wr) ∧ Hid (LsAt wr AL LS)) (fun _ vi _ => LL - (intOf vi).toNat)
              case atStart => exact ⟨0, false, by omega, rfl, rfl, Lib.hid ⟨(fun e => by cases e), fun ⟨j, h1, _⟩ => by omega⟩, HI5, HLS5⟩
              case round =>
                clear HI5 HLS5 HI HI3 HLSA
                obtain ⟨i, cm, hi2, rfl, rfl, HCM, HI, HLS⟩ := hrel
                obtain ⟨wz, hwz⟩ : ∃ wz, wz = wr := ⟨_, rfl⟩
                subst hwz
                by_cases hlt : i < LL
                · have hx9 := HLS.out.at_ (i := i) (by rw [← HLL2.out]; exact hlt)
                  obtain ⟨bL, oL, rfl, x0⟩ := hx9
                  obtain ⟨x, hx⟩ : ∃ x, x = LS.getD i [] := ⟨_, rfl⟩
                  obtain ⟨q, hq⟩ : ∃ q, q = bstr x := ⟨_, rfl⟩
                  rw [← hx, ← hq] at x0
                  obtain ⟨cb, hcb⟩ : ∃ cb, cb = decide (x = [99]) := ⟨_, rfl⟩
                  have hqe : (q.toList == [99]) = cb := by rw [hq, bstr_toList, hcb, Bool.eq_iff_iff]; simp
                  have HCN : Hid ((cm || cb) = true ↔ ∃ j, j < i + 1 ∧ LS.getD j [] = [99]) := Lib.hid (by
                    rw [Bool.or_eq_true, HCM.out, hcb, decide_eq_true_iff, hx]
                    constructor
                    · rintro (⟨j, h2, h3⟩ | h3)
                      · exact ⟨j, by omega, h3⟩
                      · exact ⟨i, by omega, h3⟩
                    · rintro ⟨j, h2, h3⟩
                      by_cases e : j = i
                      · exact .inr (e ▸ h3)
                      · exact .inl ⟨j, by omega, h3⟩)
                  clear hx hq hcb HCM
                  cases cm with
                  | true =>
                    go_wp2_with fail
                    exact ⟨⟨i + 1, true, by omega, rfl, by simp, by simpa using HCN, HI, HLS⟩, by simp [intOf]; omega⟩
                  | false =>
                    go_wp2_with fail
                    exact ⟨⟨i + 1, cb, by omega, rfl, by simp, by simpa using HCN, HI, HLS⟩, by simp [intOf]; omega⟩
                · obtain rfl : LL = i := by omega
                  have HCC : Hid (cm = true ↔ [99] ∈ LS) := Lib.hid (by
                    rw [HCM.out]
                    constructor
                    · rintro ⟨j, h2, h3⟩
                      have hj : j < LS.length := by rw [← HLL2.out]; exact h2
                      rw [List.getD_eq_getElem?_getD, List.getElem?_eq_getElem hj, Option.getD_some] at h3
                      rw [← h3]
                      exact List.getElem_mem hj
                    · intro hm
                      obtain ⟨j, hj, he⟩ := List.mem_iff_getElem.1 hm
                      refine ⟨j, by rw [HLL2.out]; exact hj, ?_⟩
                      rw [List.getD_eq_getElem?_getD, List.getElem?_eq_getElem hj, Option.getD_some]
                      exact he)
                  clear HCM
                  by_cases hK0 : K = 0
                  · have hKi : ¬ (0 : Int) < (K : Int) := by omega
                    have HK0 : Hid (bhF LS 0 = 0) := Lib.hid (by rw [← HKE.out]; exact hK0)
                    clear hK0 HKE
                    cases cm with
                    | true =>
                      have HFN : Hid (tailF TL LS 0 = none) := Lib.hid (bhF_c _ _ _ HK0.out (HCC.out.1 rfl))
                      cases T with
                      | true =>
                        have HR := Lib.hid (RfI.res (w0 := w) HI.out.r2 HI.out.r3 HI.out.bel (by have := HE.out; omega) (by have := HE.out; omega) (.int .i64 (h.i : Int)) (.slice A1 h.l c1) (.slice A2 h.a c2) (.slice A3 h.o c3) (.int .i64 0) (.int .i64 0))
                        obtain ⟨⟨x0, x1, x2, x3⟩, _⟩ := box4 HI.out.g
                        obtain ⟨⟨y0, y1, y2, y3⟩, yz⟩ := box4 HI.out.r2
                        have yz0 := yz 0
                        have yz1 := yz 1
                        have yz2 := yz 2
                        have yz3 := yz 3
                        obtain ⟨⟨v0, v1⟩, vz⟩ := box2 HI.out.r3
                        have vz0 := vz 0
                        have vz1 := vz 1
                        clear yz vz
                        go_wp2_with fail
                        exact bodyPost_ret (v := .tuple #[.agg #[.int .i64 (h.i : Int), .slice A1 h.l c1, .slice A2 h.a c2, .slice A3 h.o c3], .agg #[.int .i64 0, .int .i64 0]]) (outsX rfl rfl HR.out.1 HR.out.2.1) rfl ⟨.inr ⟨h, p0, p1, A1, A2, A3, c1, c2, c3, ⟨HD1.out, HP1.out, p, HP.out, by rw [HTU.out]; exact HFN.out⟩, rfl, HI.out.at_ HR.out.2.2.2⟩, HR.out.2.2.1⟩
                      | false =>
                        have HR := Lib.hid (RfI.res (w0 := w) HI.out.r2 HI.out.r3 HI.out.bel (by have := HE.out; omega) (by have := HE.out; omega) (.int .i64 (h.i : Int)) (.slice A1 h.l c1) (.slice A2 h.a c2) (.slice A3 h.o c3) (.int .i64 0) (.int .i64 0))
                        obtain ⟨⟨x0, x1, x2, x3⟩, _⟩ := box4 HI.out.g
                        obtain ⟨⟨y0, y1, y2, y3⟩, yz⟩ := box4 HI.out.r2
                        have yz0 := yz 0
                        have yz1 := yz 1
                        have yz2 := yz 2
                        have yz3 := yz 3
                        obtain ⟨⟨v0, v1⟩, vz⟩ := box2 HI.out.r3
                        have vz0 := vz 0
                        have vz1 := vz 1
                        clear yz vz
                        go_wp2_with fail
                        exact bodyPost_ret (v := .tuple #[.agg #[.int .i64 (h.i : Int), .slice A1 h.l c1, .slice A2 h.a c2, .slice A3 h.o c3], .agg #[.int .i64 0, .int .i64 0]]) (outsX rfl rfl HR.out.1 HR.out.2.1) rfl ⟨.inr ⟨h, p0, p1, A1, A2, A3, c1, c2, c3, ⟨HD1.out, HP1.out, p, HP.out, by rw [HTU.out]; exact HFN.out⟩, rfl, HI.out.at_ HR.out.2.2.2⟩, HR.out.2.2.1⟩
                    | false =>
                      have HNC : Hid ([99] ∉ LS) := Lib.hid (fun hm => by have := HCC.out.2 hm; cases this)
                      cases T with
                      | true =>
                        have HFN : Hid (tailF TL LS 0 = none) := Lib.hid (by rw [bhF_end _ _ 0 HK0.out HNC.out, if_pos (by have h9 := HTE.out; simpa using h9.symm)])
                        have HR := Lib.hid (RfI.res (w0 := w) HI.out.r2 HI.out.r3 HI.out.bel (by have := HE.out; omega) (by have := HE.out; omega) (.int .i64 (h.i : Int)) (.slice A1 h.l c1) (.slice A2 h.a c2) (.slice A3 h.o c3) (.int .i64 0) (.int .i64 0))
                        obtain ⟨⟨x0, x1, x2, x3⟩, _⟩ := box4 HI.out.g
                        obtain ⟨⟨y0, y1, y2, y3⟩, yz⟩ := box4 HI.out.r2
                        have yz0 := yz 0
                        have yz1 := yz 1
                        have yz2 := yz 2
                        have yz3 := yz 3
                        obtain ⟨⟨v0, v1⟩, vz⟩ := box2 HI.out.r3
                        have vz0 := vz 0
                        have vz1 := vz 1
                        clear yz vz
                        go_wp2_with fail
                        exact bodyPost_ret (v := .tuple #[.agg #[.int .i64 (h.i : Int), .slice A1 h.l c1, .slice A2 h.a c2, .slice A3 h.o c3], .agg #[.int .i64 0, .int .i64 0]]) (outsX rfl rfl HR.out.1 HR.out.2.1) rfl ⟨.inr ⟨h, p0, p1, A1, A2, A3, c1, c2, c3, ⟨HD1.out, HP1.out, p, HP.out, by rw [HTU.out]; exact HFN.out⟩, rfl, HI.out.at_ HR.out.2.2.2⟩, HR.out.2.2.1⟩
                      | false =>
                        have HBT : Hid (tailF TL LS 0 ≠ none) := Lib.hid (by rw [bhF_end _ _ 0 HK0.out HNC.out, if_neg (by intro e; have h9 := HTE.out; rw [e] at h9; simp at h9)]; simp)
                        have HBD : Hid (BadU l p) := Lib.hid (.inr ⟨h, p0, HD1.out, .inr ⟨p1, HP1.out, .inr ⟨HP.out, by rw [HTU.out]; exact HBT.out⟩⟩⟩)
                        have HX2 := Lib.hid HI.out.r2
                        have HX3 := Lib.hid HI.out.r3
                        have HXB := Lib.hid HI.out.bel
                        go_wp2_with fail
                        refine (badByte_any p wz).mono ?_
                        rintro e wy ⟨rfl, hby⟩
                        have HY2 := Lib.hid (heap_below hby HX2.out); have HY3 := Lib.hid (heap_below hby HX3.out); have HYB := Lib.hid (HXB.out.trans (hby.mono HXB.out.size))
                        clear hby
                        obtain ⟨⟨y0, y1, y2, y3⟩, yz⟩ := box4 HY2.out
                        have yz0 := yz 0
                        have yz1 := yz 1
                        have yz2 := yz 2
                        have yz3 := yz 3
                        obtain ⟨⟨v0, v1⟩, vz⟩ := box2 HY3.out
                        have vz0 := vz 0
                        have vz1 := vz 1
                        have HR := Lib.hid (RfI.res (w0 := w) HY2.out HY3.out HYB.out (by have := HE.out; omega) (by have := HE.out; omega) (.int .i64 0) (.slice none 0 0) (.slice none 0 0) (.slice none 0 0) (.int .i64 16) (.int .i64 ((p : Nat) : Int)))
                        clear yz vz
                        go_wp2_with fail
                        exact bodyPost_ret (v := .tuple #[.agg #[.int .i64 0, .slice none 0 0, .slice none 0 0, .slice none 0 0], .agg #[.int .i64 16, .int .i64 ((p : Nat) : Int)]]) (outsX rfl rfl HR.out.1 HR.out.2.1) rfl ⟨.inl ⟨p, HBD.out, rfl⟩, HR.out.2.2.1⟩
                  · have hKi : (0 : Int) < (K : Int) := by omega
                    have HBT : Hid (tailF TL LS 0 ≠ none) := Lib.hid (by rw [bhF_bad _ _ _ (by rw [← HKE.out]; exact hK0)]; simp)
                    clear hK0 HKE
                    have HBD : Hid (BadU l p) := Lib.hid (.inr ⟨h, p0, HD1.out, .inr ⟨p1, HP1.out, .inr ⟨HP.out, by rw [HTU.out]; exact HBT.out⟩⟩⟩)
                    have HX2 := Lib.hid HI.out.r2
                    have HX3 := Lib.hid HI.out.r3
                    have HXB := Lib.hid HI.out.bel
                    go_wp2_with fail
                    refine (badByte_any p wz).mono ?_
                    rintro e wy ⟨rfl, hby⟩
                    have HY2 := Lib.hid (heap_below hby HX2.out); have HY3 := Lib.hid (heap_below hby HX3.out); have HYB := Lib.hid (HXB.out.trans (hby.mono HXB.out.size))
                    clear hby
                    obtain ⟨⟨y0, y1, y2, y3⟩, yz⟩ := box4 HY2.out
                    have yz0 := yz 0
                    have yz1 := yz 1
                    have yz2 := yz 2
                    have yz3 := yz 3
                    obtain ⟨⟨v0, v1⟩, vz⟩ := box2 HY3.out
                    have vz0 := vz 0
                    have vz1 := vz 1
                    have HR := Lib.hid (RfI.res (w0 := w) HY2.out HY3.out HYB.out (by have := HE.out; omega) (by have := HE.out; omega) (.int .i64 0) (.slice none 0 0) (.slice none 0 0) (.slice none 0 0) (.int .i64 16) (.int .i64 ((p : Nat) : Int)))
                    clear yz vz
                    go_wp2_with fail
                    exact bodyPost_ret (v := .tuple #[.agg #[.int .i64 0, .slice none 0 0, .slice none 0 0, .slice none 0 0], .agg #[.int .i64 16, .int .i64 ((p : Nat) : Int)]]) (outsX rfl rfl HR.out.1 HR.out.2.1) rfl ⟨.inl ⟨p, HBD.out, rfl⟩, HR.out.2.2.1⟩
end Go.Proofs.YtngjbiipgbeemaaDoor
