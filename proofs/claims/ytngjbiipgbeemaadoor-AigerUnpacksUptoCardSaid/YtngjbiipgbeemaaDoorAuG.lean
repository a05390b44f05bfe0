/- aiger's (*unpacker).graph, walked: the graph, or the place where it is wrong. Conditions: the bytes lie in memory and are fewer than 1000000000; internal/bytealg.MaxLen holds a number. -/
import Derived.Test.YtngjbiipgbeemaaDoorAuQ
import Derived.Test.YtngjbiipgbeemaaDoorGrA
import Derived.Test.YtngjbiipgbeemaaDoorAuV
namespace Go.Proofs.YtngjbiipgbeemaaDoor
open Go.RowKit Go.Shelf Go.Deep

def UpO (w : World) (bu : Nat) (A : Option Addr) (n c p : Nat) : Prop := w.heap[bu]? = some (.cells #[.slice A n c, .int .i64 (p : Int)] 78)
def GuPost (n0 : Nat) (l : List UInt8) (bu : Nat) (A : Option Addr) (c : Nat) (e : Ending) (w' : World) : Prop :=
  (∃ (i : Int) (A1 A2 A3 : Option Addr) (n1 n2 n3 c1 c2 c3 p : Nat), GuBad l p ∧ e = .returned (.tuple #[.agg #[.int .i64 i, .slice A1 n1 c1, .slice A2 n2 c2, .slice A3 n3 c3], .bool false]) ∧ UpO w' bu A l.length c p) ∨
  (∃ h p0 p1 p A1 A2 A3 c1 c2 c3, hdU l = some (h, p0) ∧ h.uPos l p0 h.rowsU = some p1 ∧ h.gPos l p1 h.a = some p ∧ p ≤ l.length ∧ e = .returned (.tuple #[.agg #[.int .i64 (h.i : Int), .slice A1 h.l c1, .slice A2 h.a c2, .slice A3 h.o c3], .bool true]) ∧ (∀ W', Only (fun k => k < n0) w' W' → (h.graphU l p0 p1).At W' A1 A2 A3) ∧ UpO w' bu A l.length c p)
attribute [local go_sem] Oper.semAt_some in
theorem outsU {tmps : Array Value} {W : World} {b : Nat} {x0 x1 x2 x3 v : Value} (h2 : tmps[2]? = some (.pointer (some ⟨b, 0, none⟩))) (h3 : tmps[3]? = some v) (h : W.heap[b]? = some (.cells #[x0, x1, x2, x3] 28)) :
    (results Tryd.f31 tmps).run Tryd.prog W = .ok (.tuple #[.agg #[x0, x1, x2, x3], v]) W := by
  obtain ⟨⟨c0, c1, c2, c3⟩, _⟩ := box4 h
  simp [results, Tryd.f31, go_sem, h2, h3, c0, c1, c2, c3]
/-- the index of the first line's end, in all the bytes -/
theorem ix0_any (w : World) (A : Option Addr) (c : Nat) (l : List UInt8) (hM : MemO w A l c) :
    Calls Tryd.prog 46 #[.slice A l.length c, .int .u8 10] w fun e w' => e = .returned (.int .i64 (if lnK l 0 < l.length then (lnK l 0 : Int) else -1)) ∧ w' = w := by
  rcases hM with ⟨rfl, rfl, rfl⟩ | ⟨a, rfl, hc, rfl | ⟨b, o, rfl, hm⟩⟩
  · exact (Tryd.bytes_IndexByte_nil 10 w).mono (by rintro e w' ⟨rfl, rfl⟩; exact ⟨rfl, rfl⟩)
  · exact (Tryd.bytes_IndexByte_at a 0 c [] 10 w rfl (fun i hi => by omega)).mono (by rintro e w' ⟨rfl, rfl⟩; exact ⟨rfl, rfl⟩)
  · refine (Tryd.bytes_IndexByte b o l.length c (l.map (fun b => (b.toNat : Int))) 10 w (by simp) (fun i hi => ?_)).mono ?_
    · rw [hm i hi, List.getD_eq_getElem?_getD, List.getD_eq_getElem?_getD, List.getElem?_map, List.getElem?_eq_getElem hi]
      rfl
    · rintro e w' ⟨rfl, rfl⟩
      have h := ix_k l (p := 0) (Nat.zero_le _)
      rw [List.drop_zero, Nat.zero_add] at h
      rw [bytes_back, show (10 : Int).toNat.toUInt8 = 10 from rfl, h]
      exact ⟨rfl, rfl⟩

set_option maxRecDepth 100000 in
set_option maxHeartbeats 40000000 in
theorem ugraph_any (l : List UInt8) (bu : Nat) (A : Option Addr) (c : Nat) (w : World) (hu : UpO w bu A l.length c 0) (hM : MemO w A l c) (hAu : ∀ b o t, A = some ⟨b, o, t⟩ → 0 < l.length → b < bu) (hm : MaxT w) (hcm : c ≤ 9223372036854775807) (hl : l.length ≤ 1000000000) :
    Calls Tryd.prog 31 #[.pointer (some ⟨bu, 0, none⟩)] w fun e w' => GuPost w.heap.size l bu A c e w' ∧ Only (fun k => k = bu) w w' := by
  have H1 : Hid (¬ bu = 1) := Lib.hid (fun e => by
    obtain ⟨m, hm⟩ := hm
    have h := (box2 hu).1.1
    rw [e] at h
    rw [h] at hm
    cases hm)
  have HBC : Hid (bu < w.heap.size) := Lib.hid (Array.getElem?_eq_some_iff.1 (show w.heap[bu]? = _ from hu)).1
  have HONE : Hid (1 < w.heap.size) := Lib.hid (by obtain ⟨m, hm⟩ := hm; exact World.block_lt_of_cell? w _ hm)
  have HAU := Lib.hid hAu
  have hk2 := heap_alloc_new w (.cells #[.int .i64 0, .slice none 0 0, .slice none 0 0, .slice none 0 0] 28)
  have hw0 : Below w.heap.size w (w.alloc (.cells #[.int .i64 0, .slice none 0 0, .slice none 0 0, .slice none 0 0] 28)) := (Below.refl _ _).alloc (Nat.le_refl _) _
  have hz0 : (w.alloc (.cells #[.int .i64 0, .slice none 0 0, .slice none 0 0, .slice none 0 0] 28)).heap.size = w.heap.size + 1 := by simp
  have hu2 : UpO (w.alloc (.cells #[.int .i64 0, .slice none 0 0, .slice none 0 0, .slice none 0 0] 28)) bu A l.length c 0 := heap_below hw0 hu
  have hM2 := hM.below hw0
  have hm2 := hm.below hw0
  clear hu hM hm hAu
  go_enter Tryd.func31, Tryd.ntmps31
  go_upto_region 1 with (fail)
  generalize w.alloc (.cells #[.int .i64 0, .slice none 0 0, .slice none 0 0, .slice none 0 0] 28) = wa at *
  obtain ⟨b2, hb2⟩ : ∃ b, b = w.heap.size := ⟨_, rfl⟩
  rw [← hb2] at hk2 ⊢
  have HE : Hid (b2 = w.heap.size ∧ wa.heap.size = b2 + 1) := Lib.hid ⟨hb2, by omega⟩
  obtain ⟨⟨u0, u1⟩, uz⟩ := box2 hu2
  have hix := ix0_any wa A c l hM2
  have HN2 := Lib.hid hk2; have HOW : Hid (Only (fun k => k = bu) w wa) := Lib.hid ((Only.refl (fun k => k = bu) w).call hw0); have HM1 := Lib.hid hm2; have HU1 := Lib.hid hu2; have HMM1 := Lib.hid hM2
  obtain ⟨kk, hkk⟩ : ∃ kk, kk = lnK l 0 := ⟨_, rfl⟩
  rw [← hkk] at hix
  have HK := Lib.hid hkk
  clear hb2 hk2 hw0 hz0 hu2 hM2 hm2 hkk
  go_wp2_with fail
  refine hix.mono ?_
  rintro e w1 ⟨rfl, rfl⟩
  clear hix
  by_cases hk0 : kk < l.length
  · rw [if_pos hk0]
    obtain ⟨bA, oA, rfl, hmem, hlc⟩ := HMM1.out.at_ (by omega)
    have HAB : Hid (bA < bu) := Lib.hid (HAU.out bA oA none rfl (by omega))
    have HMEM := Lib.hid hmem
    have hcv := conv_any w1 bA oA c l 0 kk hmem (by omega)
    rw [List.drop_zero, Nat.add_zero] at hcv
    have hhd := header_any [97, 105, 103] (l.take kk) w1 HM1.out (by rw [List.length_take]; omega) (by simp)
    rw [show bstr [97, 105, 103] = ⟨#[97, 105, 103]⟩ from rfl] at hhd
    obtain ⟨s1, hs1⟩ : ∃ s, s = bstr (l.take kk) := ⟨_, rfl⟩
    rw [← hs1] at hhd hcv
    obtain ⟨Q, hQ⟩ : ∃ Q, Q = hdrB [97, 105, 103] (l.take kk) := ⟨_, rfl⟩
    rw [← hQ] at hhd
    have HLN : Hid (lnB l 0 = some (l.take kk, kk + 1)) := Lib.hid (by
      have e := lnB_k (l := l) (p := 0) (by rw [← HK.out]; omega)
      rw [← HK.out, List.drop_zero, Nat.zero_add] at e
      exact e)
    have HD0 : Hid (hdU l = Q.map (fun h => (h, kk + 1))) := Lib.hid (by unfold hdU; rw [HLN.out, hQ])
    have HFIT : Hid (∀ h, Q = some h → h.i + h.l + h.a < 60000 ∧ h.l ≤ 6000 ∧ h.o ≤ 60000) := Lib.hid (fun h e => hdr_fits (by rw [← hQ]; exact e))
    have hkc : (kk : Int) ≤ (c : Int) := by omega
    have hc0 : ¬ c = 0 := by omega
    clear hs1 hQ hmem
    cases Q with
    | none =>
      have HBD : Hid (GuBad l 0) := Lib.hid (.inl ⟨HD0.out, rfl⟩)
      go_wp2_with fail
      refine hhd.mono ?_
      rintro e w2 ⟨rfl, hb2⟩
      clear hhd hcv u0 u1 uz
      simp only [szV, Option.isSome_none]
      have hb4 := hb2.trans (((Below.refl w2.heap.size w2).alloc (Nat.le_refl _) (.cells #[.int .i64 0, .int .i64 0, .int .i64 0, .int .i64 0] 87)).mono hb2.size)
      have HN4 := Lib.hid (heap_below hb4 HN2.out)
      have HC4 : Hid (UpO _ bu _ l.length c 0) := Lib.hid (heap_below hb4 HU1.out)
      have HOW4 := Lib.hid (HOW.out.call hb4)
      clear hb2 hb4
      go_upto_region 5 with (fail)
      generalize w2.alloc (.cells #[.int .i64 0, .int .i64 0, .int .i64 0, .int .i64 0] 87) = w3 at *
      obtain ⟨⟨x0, x1, x2, x3⟩, xz⟩ := box4 HN4.out
      have xz0 := xz 0
      have xz1 := xz 1
      have xz2 := xz 2
      have xz3 := xz 3
      have hk := st4_only w3 b2 (.int .i64 0) (.slice none 0 0) (.slice none 0 0) (.slice none 0 0)
      have hne : ¬ bu = b2 := by have := HE.out; have := HBC.out; omega
      have HC5 : Hid (UpO _ bu _ l.length c 0) := Lib.hid (hk.heap HC4.out hne)
      have HOW5 := Lib.hid (HOW4.out.then_ hk (fun i hi hs => by have := HE.out; omega))
      clear xz hk hne
      go_wp2_with fail
      exact bodyPost_ret (v := .tuple #[.agg #[.int .i64 0, .slice none 0 0, .slice none 0 0, .slice none 0 0], .bool false]) (outsU rfl rfl (st4_heap HN4.out _ _ _ _)) rfl ⟨.inl ⟨_, _, _, _, _, _, _, _, _, _, 0, HBD.out, rfl, HC5.out⟩, HOW5.out⟩
    | some h =>
      obtain ⟨hf1, hf2, hf3⟩ := HFIT.out h rfl
      simp only [szV, Option.isSome_some] at *
      clear HFIT
      go_wp2_with fail
      refine hhd.mono ?_
      rintro e w2 ⟨rfl, hb2⟩
      clear hhd hcv
      have b5' := (Below.refl w2.heap.size w2).alloc (Nat.le_refl _) (.cells #[.int .i64 (h.i : Int), .int .i64 (h.l : Int), .int .i64 (h.o : Int), .int .i64 (h.a : Int)] 87)
      have k5 := heap_alloc_new w2 (.cells #[.int .i64 (h.i : Int), .int .i64 (h.l : Int), .int .i64 (h.o : Int), .int .i64 (h.a : Int)] 87)
      have z5 : (w2.alloc (.cells #[.int .i64 (h.i : Int), .int .i64 (h.l : Int), .int .i64 (h.o : Int), .int .i64 (h.a : Int)] 87)).heap.size = w2.heap.size + 1 := by simp
      go_upto_region 7 with (fail)
      generalize w2.alloc (.cells #[.int .i64 (h.i : Int), .int .i64 (h.l : Int), .int .i64 (h.o : Int), .int .i64 (h.a : Int)] 87) = w5 at *
      have hb15 := hb2.trans (b5'.mono hb2.size)
      have kp := Keeps.of_below hb15
      replace u1 := kp _ _ u1
      have HU5 : Hid (UpO w5 bu (some ⟨bA, oA, none⟩) l.length c 0) := Lib.hid (heap_below hb15 HU1.out)
      have uz5 : w5.frozen? ⟨bu, 1, none⟩ = false := (box2 HU5.out).2 1
      obtain ⟨p0, hp0⟩ : ∃ p, p = kk + 1 := ⟨_, rfl⟩
      have HW6 : Hid (UpAt (w5.setCell ⟨bu, 1, none⟩ (.int .i64 (p0 : Int))) bu bA oA l.length c p0) := Lib.hid (set2_1 HU5.out _)
      have hk1 : Only (fun k => k = bu) w5 (w5.setCell ⟨bu, 1, none⟩ (.int .i64 (p0 : Int))) := Only.setCell (p := ⟨bu, 1, none⟩) (Only.refl (fun k => k = bu) w5) (fun _ => rfl) _
      have ew : IntKind.i64.wrap ((kk : Int) + 1) = (p0 : Int) := by rw [IntKind.wrap_i64] <;> omega
      have ew1 : (kk : Int) + 1 = (p0 : Int) := by omega
      have HPE := Lib.hid hp0
      clear hp0
      have k5b := hk1.heap k5 (by have := HBC.out; have := HE.out; have := hb2.size; omega)
      have HX2 := Lib.hid (hk1.heap (heap_below hb15 HN2.out) (by have := HBC.out; have := HE.out; omega))
      have HXO := Lib.hid ((HOW.out.call hb15).then_ hk1 (fun _ _ h => h))
      have HXM := Lib.hid ((HMEM.out.below hb15).only hk1 (by have := HAB.out; omega))
      have HXT := Lib.hid ((HM1.out.below hb15).only hk1 (fun e => H1.out e.symm))
      have z6 : (w5.setCell ⟨bu, 1, none⟩ (.int .i64 (p0 : Int))).heap.size = w5.heap.size := by simp [World.setCell]
      have hw12 : b2 < w2.heap.size := by have := hb2.size; have := HE.out; omega
      clear kp uz u0
      go_upto_region 8 with (fail)
      clear u1 uz5 ew ew1
      generalize w5.setCell ⟨bu, 1, none⟩ (.int .i64 (p0 : Int)) = w6 at *
      obtain ⟨⟨s0, s1, s2, s3⟩, _⟩ := box4 k5b
      have b7' := (Below.refl w6.heap.size w6).alloc (Nat.le_refl _) (.cells #[.int .i64 (h.i : Int), .slice none 0 0, .slice none 0 0, .slice none 0 0] 28)
      have k7 := heap_alloc_new w6 (.cells #[.int .i64 (h.i : Int), .slice none 0 0, .slice none 0 0, .slice none 0 0] 28)
      have z7 : (w6.alloc (.cells #[.int .i64 (h.i : Int), .slice none 0 0, .slice none 0 0, .slice none 0 0] 28)).heap.size = w6.heap.size + 1 := by simp
      go_upto_region 9 with (fail)
      generalize w6.alloc (.cells #[.int .i64 (h.i : Int), .slice none 0 0, .slice none 0 0, .slice none 0 0] 28) = w7 at *
      rw [z6, z5] at k7
      obtain ⟨z, hz⟩ : ∃ z, z = w7.heap.size := ⟨_, rfl⟩
      obtain ⟨b5, hb5⟩ : ∃ b, b = w2.heap.size := ⟨_, rfl⟩
      obtain ⟨b7, hb7⟩ : ∃ b, b = w2.heap.size + 1 := ⟨_, rfl⟩
      try rw [z6, z5]
      rw [← hb7, ← hb5]
      have HI0 : Hid (GuI w l h p0 0 bu b2 b5 b7 z bA oA c p0 none none none 0 0 0 0 0 0 w7) := Lib.hid
        ⟨heap_below b7' HW6.out, HXM.out.below b7', by have := HPE.out; omega, by rw [hb5]; exact heap_below b7' k5b, by rw [hb7]; exact k7, heap_below b7' HX2.out, World.ownsRow_nil _ _ _ _, World.ownsRow_nil _ _ _ _, World.ownsRow_nil _ _ _ _, HXO.out.call b7', HXT.out.below b7', by omega,
          by have h1 := HE.out; have h2 := HBC.out; have h3 := HONE.out; have h4 := H1.out; have h5 := HAB.out; omega⟩
      have HD1 : Hid (hdU l = some (h, p0)) := Lib.hid (by rw [HD0.out, HPE.out]; rfl)
      obtain ⟨M, hM⟩ : ∃ M, M = 2 * (1 + h.i + h.l + h.a) := ⟨_, rfl⟩
      have HMM : Hid (h.most = M) := Lib.hid hM.symm
      have hMl : M ≤ 200000 := by omega
      have HMST : Hid (∀ W : World, Calls Tryd.prog 39 #[.agg #[.int .i64 (h.i : Int), .int .i64 (h.l : Int), .int .i64 (h.o : Int), .int .i64 (h.a : Int)]] W fun e w' => e = .returned (.int .i64 (M : Int)) ∧ Below W.heap.size W w') := Lib.hid (fun W => by rw [hM]; exact most_any h.i h.l h.o h.a W (by omega))
      clear s0 s1 s2 s3 hM hz hb5 hb7 b5' b7' k5 k5b k7 z5 z6 z7 hb15 hb2 hk1 hw12 hkc hc0 hk0 HN2 HOW HM1 HU1 HMM1 HMEM HW6 HXO HX2 HXM HXT HU5 HK HLN HD0
      obtain ⟨⟨s0, s1, s2, s3⟩, _⟩ := box4 HI0.out.sz
      go_wp2_with fail
      clear s0 s1 s2 s3
      have HLC := Lib.hid hlc
      clear hlc
      go_loopw [51] (fun vk wr => ∃ (k p : Nat) (A1 : Option Addr) (c1 : Nat), k ≤ h.l ∧ vk = .int .i64 k ∧ Hid (h.uPos l p0 k = some p) ∧ Hid (GuI w l h p0 0 bu b2 b5 b7 z bA oA c p A1 none none c1 0 0 k 0 0 wr)) (fun vk _ => h.l - (intOf vk).toNat)
      case atStart => exact ⟨0, p0, none, 0, by omega, rfl, Lib.hid rfl, HI0⟩
      case round =>
        obtain ⟨k, p, A1, c1, hkl, rfl, HP, HI⟩ := hrel
        obtain ⟨wq, hwq⟩ : ∃ wq, wq = wr := ⟨_, rfl⟩
        subst hwq
        have HPL := Lib.hid HI.out.ple
        obtain ⟨⟨s0, s1, s2, s3⟩, _⟩ := box4 HI.out.sz
        by_cases hlt : k < h.l
        · have hrow := urow_any l 2 bu bA oA c p wq HI.out.up HI.out.mem HI.out.ple (HLC.out) hcm hl HI.out.mx
          rw [show ((2 : Nat) : Int) = 2 from rfl] at hrow
          obtain ⟨⟨_, v1⟩, _⟩ := box2 HI.out.up
          obtain ⟨Q, hQ⟩ : ∃ Q, Q = rowU l 2 p := ⟨_, rfl⟩
          go_wp2_with fail
          refine hrow.mono ?_
          rintro e w3 ⟨hr, hO3⟩
          clear hrow v1 s0 s1 s2 s3
          clear hQ
          rcases hr with ⟨hr1, rfl, hup⟩ | ⟨ns, q, v, hr1, rfl, hnv, hup⟩
          · have HBD : Hid (GuBad l p) := Lib.hid (.inr ⟨h, p0, HD1.out, .inl ⟨k, by unfold Hd.rowsU; omega, HP.out, uRow_no (b := 2) (by rw [if_pos (by omega)]) hr1⟩⟩)
            have HI3 := Lib.hid (HI.out.row hO3 hup HPL.out)
            clear hO3 hup hr1
            go_upto_region 13 with (fail)
            go_quiet (fail)
            replace HI3 := Lib.hid (HI3.out.drewN nq)
            generalize w3.drewN nq = w4 at *
            obtain ⟨⟨_, v1⟩, vz⟩ := box2 HI3.out.up
            have vz1 := vz 1
            have hk1 : Only (fun k => k = bu) w4 (w4.setCell ⟨bu, 1, none⟩ (.int .i64 (p : Int))) := Only.setCell (p := ⟨bu, 1, none⟩) (Only.refl (fun k => k = bu) w4) (fun _ => rfl) _
            have HI9 := Lib.hid (HI3.out.row hk1 (set2_1 HI3.out.up _) HPL.out)
            clear vz hk1
            go_upto_region 15 with (fail)
            clear v1 vz1
            generalize w4.setCell ⟨bu, 1, none⟩ (.int .i64 (p : Int)) = w9 at *
            obtain ⟨⟨x0, x1, x2, x3⟩, _⟩ := box4 HI9.out.g
            obtain ⟨⟨y0, y1, y2, y3⟩, yz⟩ := box4 HI9.out.r2
            have yz0 := yz 0
            have yz1 := yz 1
            have yz2 := yz 2
            have yz3 := yz 3
            have HR := Lib.hid (HI9.out.res (.int .i64 (h.i : Int)) (.slice A1 k c1) (.slice none 0 0) (.slice none 0 0))
            clear yz
            go_wp2_with fail
            exact bodyPost_ret (v := .tuple #[.agg #[.int .i64 (h.i : Int), .slice A1 k c1, .slice none 0 0, .slice none 0 0], .bool false]) (outsU rfl rfl HR.out.1) rfl ⟨.inl ⟨_, _, _, _, _, _, _, _, _, _, p, HBD.out, rfl, HR.out.2.1⟩, HR.out.2.2⟩
          · obtain ⟨bN, oN, cN, rfl, hbN, hx⟩ := hnv
            have hql := rowU_len hr1
            have HI3 := Lib.hid (HI.out.row hO3 hup hql.2.2.2.2)
            clear hO3 hup
            obtain ⟨hl1, hl2, _⟩ := hql
            match ns, hl1, hl2 with
            | [x], _, _ =>
              have x0 : w3.cell? ⟨bN, oN, none⟩ = some (.int .i64 (x : Nat)) := hx 0 (by simp)
              obtain ⟨⟨s0, s1, s2, s3⟩, _⟩ := box4 HI3.out.sz
              have hmc := HMM.out
              clear hx
              go_upto_region 13 with (fail)
              by_cases hm : x < M
              · have q1 : ¬ (M : Int) ≤ (x : Int) := by omega
                refine wp_region_z (fun w' => w'.cell? ⟨bN, oN, none⟩ = some (.int .i64 (x : Nat)) ∧ w'.cell? ⟨b5, 0, none⟩ = some (.int .i64 (h.i : Int)) ∧ w'.cell? ⟨b5, 1, none⟩ = some (.int .i64 (h.l : Int)) ∧ w'.cell? ⟨b5, 2, none⟩ = some (.int .i64 (h.o : Int)) ∧ w'.cell? ⟨b5, 3, none⟩ = some (.int .i64 (h.a : Int))) [0, 1, 2, 3, 4, 5, 6] [] (by kernel_rfl) (by kernel_rfl) (by kernel_rfl) (by rfl) (fun _ _ _ _ e h => ⟨e.symm.trans h.1, h.2⟩) ⟨x0, s0, s1, s2, s3⟩ ?_
                iterate 7
                  refine Heads.step (v := ?_) rfl (by first | (go_simp; done) | rfl) (fun W hW => ?_) ?_
                  rotate_left
                  · (obtain ⟨t0, t1, t2, t3, t4⟩ := hW; go_simp; try with_reducible rfl)
                refine AnyZ.one (i := 7) (by kernel_rfl) rfl (fun K hK => ?_)
                go_simp
                refine (HMST.out w3.drew).mono ?_
                rintro e w4 ⟨rfl, hb4⟩
                have hb4' : Below w3.heap.size w3 w4 := ((Below.refl _ w3).drew).trans hb4
                have kp := Keeps.of_below hb4'
                replace x0 := kp _ _ x0
                replace s0 := kp _ _ s0
                replace s1 := kp _ _ s1
                replace s2 := kp _ _ s2
                replace s3 := kp _ _ s3
                refine hK _ _ (fun _ => ⟨x0, s0, s1, s2, s3⟩) ?_
                clear hK
                have HI4 := Lib.hid (HI3.out.below hb4')
                clear kp hb4 hb4'
                refine AnyZ.mid [8, 9, 10, 11, 12, 13, 14, 15, 16, 17, 18, 19, 20] [] 0 rfl (by kernel_rfl) (by kernel_rfl) (by kernel_rfl) (fun _ _ _ _ e h => ⟨e.symm.trans h.1, h.2⟩) ⟨x0, s0, s1, s2, s3⟩ ?_
                iterate 3
                  refine Heads.step (v := ?_) rfl (by first | (go_simp; done) | rfl) (fun W hW => ?_) ?_
                  rotate_left
                  · (obtain ⟨t0, t1, t2, t3, t4⟩ := hW; go_simp; try with_reducible rfl)
                iterate 4
                  refine Heads.step (v := ?_) rfl (by first | (go_simp; done) | rfl) (fun W hW => ?_) ?_
                  rotate_left
                  · (obtain ⟨t0, t1, t2, t3, t4⟩ := hW; go_simp; try with_reducible rfl)
                iterate 4
                  refine Heads.skip rfl (by first | (go_simp; done) | rfl) ?_
                iterate 1
                  refine Heads.step (v := ?_) rfl (by first | (go_simp; done) | rfl) (fun W hW => ?_) ?_
                  rotate_left
                  · (obtain ⟨t0, t1, t2, t3, t4⟩ := hW; go_simp; try with_reducible rfl)
                iterate 1
                  refine Heads.step (v := ?_) rfl (by first | (go_simp; done) | rfl) (fun W hW => ?_) ?_
                  rotate_left
                  · (obtain ⟨t0, t1, t2, t3, t4⟩ := hW; go_simp; try with_reducible rfl)
                refine AnyZ.done (by kernel_rfl) ?_
                go_simp
                have hyes := (uRow_yes (t := k) (b := 2) (by rw [if_pos (by omega)]) hr1 (fun h5 => by simp at h5) (by rw [hmc]; exact hm))
                have HVL : Hid ((h.graphU l p0 0).L k = (x : Int) ∧ (h.graphU l p0 0).I k = false) := Lib.hid (by
                  have e := numU_at HP.out hyes
                  refine ⟨by show (((h.numU l p0 k).getD 0 0 : Nat) : Int) = _; rw [e]; rfl, ?_⟩
                  show decide ((h.numU l p0 k).length = 2 ∧ (h.numU l p0 k).getD 1 0 = 1) = _
                  rw [e]
                  simp)
                have HP2 := Lib.hid (uPos_next HP.out hyes)
                obtain ⟨_, g1, _, _⟩ := (box4 HI4.out.g).1
                clear s0 s1 s2 s3 hm hr1 hyes q1
                go_upto_region 16 with (fail)
                refine wp_region_z (fun w' => w'.cell? ⟨b7, 1, none⟩ = some (.slice A1 k c1) ∧ w'.cell? ⟨bN, oN, none⟩ = some (.int .i64 (x : Nat))) [0, 1, 2, 3, 4, 5, 6, 7, 8, 9, 10, 11, 12, 13, 14] [18] (by kernel_rfl) (by kernel_rfl) (by kernel_rfl) (by rfl) (fun _ _ _ _ e h => ⟨e.symm.trans h.1, h.2⟩) ⟨g1, x0⟩ ?_
                iterate 9
                  refine Heads.step (v := ?_) rfl (by first | (go_simp; done) | rfl) (fun W hW => ?_) ?_
                  rotate_left
                  · (obtain ⟨t0, t1⟩ := hW; go_simp; try with_reducible rfl)
                iterate 4
                  refine Heads.skip rfl (by first | (go_simp; done) | rfl) ?_
                iterate 2
                  refine Heads.step (v := ?_) rfl (by first | (go_simp; done) | rfl) (fun W hW => ?_) ?_
                  rotate_left
                  · (obtain ⟨t0, t1⟩ := hW; go_simp; try with_reducible rfl)
                have hbl0 : Below w4.heap.size w4 w4.drew := (Below.refl _ w4).drew
                have kp := Keeps.of_below hbl0
                replace g1 := kp _ _ g1
                replace x0 := kp _ _ x0
                replace HI4 := Lib.hid (HI4.out.below hbl0)
                clear hbl0 kp
                generalize w4.drew = wd at *
                refine AnyZ.one (i := 15) (by kernel_rfl) rfl (fun K hK => ?_)
                go_simp
                have hbl : Below wd.heap.size wd (wd.alloc (.cells #[.int .i64 (x : Nat), .bool false] 47)) := (Below.refl _ _).alloc (Nat.le_refl _) _
                obtain ⟨_, _, hsc⟩ := src_news wd #[.int .i64 (x : Nat), .bool false] 47 2 1 rfl (by intro u hu; simp at hu; rcases hu with rfl | rfl <;> rfl)
                obtain ⟨ad, hae, hsc⟩ := hsc (by omega)
                injection hae with hae; subst hae
                have kp := Keeps.of_below hbl
                replace g1 := kp _ _ g1
                replace x0 := kp _ _ x0
                have HI5 := Lib.hid (HI4.out.below hbl)
                clear hbl kp
                generalize wd.alloc (.cells #[.int .i64 (x : Nat), .bool false] 47) = w5 at *
                refine hK _ _ (fun _ => ⟨g1, x0⟩) ?_
                clear hK
                obtain ⟨A', c', w6, hap, hown, hon⟩ := run_append_s elLt 24 HI5.out.o1 ⟨wd.heap.size, 0, none⟩ 1 [.int .i64 (x : Nat), .bool false] rfl hsc (by intro u hu; simp at hu; rcases hu with rfl | rfl <;> rfl) (by omega) HI5.out.zz
                have hap6 := HI5.out.lat hown (by show _ = [Value.int .i64 ((h.graphU l p0 0).L k), Value.bool ((h.graphU l p0 0).I k)]; rw [HVL.out.1, HVL.out.2]) hon
                have HI6 := Lib.hid hap6.2
                have hX6 := hap6.1
                have hA3 : ∀ b, blockOf A1 b → b < wq.heap.size := fun b hb => own_lt HI.out.o1 b hb
                replace g1 := (box4 hX6).1.2.1
                replace x0 := hon.cell x0 (by show ¬ blockOf A1 bN; intro hb; have := hA3 _ hb; omega)
                clear hon hsc hA3 hown hap6
                refine AnyZ.one (i := 16) (by kernel_rfl) rfl (fun K hK => ?_)
                rw [if_pos (by rfl)]
                refine wpZ_append1 (.tmp 89) (.tmp 103) 24 rfl rfl rfl hap ?_
                go_simp
                refine hK _ _ (fun _ => ⟨g1, x0⟩) ?_
                clear hK hap
                refine AnyZ.mid [17] [18] 1 rfl (by kernel_rfl) (by kernel_rfl) (by kernel_rfl) (fun _ _ _ _ e h => ⟨e.symm.trans h.1, h.2⟩) ⟨g1, x0⟩ ?_
                iterate 1
                  refine Heads.step (v := ?_) rfl (by first | (go_simp; done) | rfl) (fun W hW => ?_) ?_
                  rotate_left
                  · (obtain ⟨t0, t1⟩ := hW; go_simp; try with_reducible rfl)
                have z6 : w6.frozen? ⟨b7, 1, none⟩ = false := by simp [World.frozen?, hX6]
                refine AnyZ.one (i := 18) (by kernel_rfl) rfl (fun K hK => ?_)
                go_simp
                refine hK _ _ (fun h => by cases h) (AnyZ.done (by kernel_rfl) ?_)
                clear hK
                go_simp
                clear z6 hX6 g1 x0
                go_wp2_with fail
                exact ⟨⟨k + 1, q, A', c', by omega, by simp, HP2, HI6⟩, by simp [intOf]; omega⟩
              · have q1 : (M : Int) ≤ (x : Int) := by omega
                have HBD : Hid (GuBad l p) := Lib.hid (.inr ⟨h, p0, HD1.out, .inl ⟨k, by unfold Hd.rowsU; omega, HP.out, uRow_not (b := 2) (by rw [if_pos (by omega)]) hr1 (fun hc => hm (by have h9 := hc.2; rw [hmc] at h9; exact h9))⟩⟩)
                refine wp_region_z (fun w' => w'.cell? ⟨bN, oN, none⟩ = some (.int .i64 (x : Nat)) ∧ w'.cell? ⟨b5, 0, none⟩ = some (.int .i64 (h.i : Int)) ∧ w'.cell? ⟨b5, 1, none⟩ = some (.int .i64 (h.l : Int)) ∧ w'.cell? ⟨b5, 2, none⟩ = some (.int .i64 (h.o : Int)) ∧ w'.cell? ⟨b5, 3, none⟩ = some (.int .i64 (h.a : Int))) [0, 1, 2, 3, 4, 5, 6] [] (by kernel_rfl) (by kernel_rfl) (by kernel_rfl) (by rfl) (fun _ _ _ _ e h => ⟨e.symm.trans h.1, h.2⟩) ⟨x0, s0, s1, s2, s3⟩ ?_
                iterate 7
                  refine Heads.step (v := ?_) rfl (by first | (go_simp; done) | rfl) (fun W hW => ?_) ?_
                  rotate_left
                  · (obtain ⟨t0, t1, t2, t3, t4⟩ := hW; go_simp; try with_reducible rfl)
                refine AnyZ.one (i := 7) (by kernel_rfl) rfl (fun K hK => ?_)
                go_simp
                refine (HMST.out w3.drew).mono ?_
                rintro e w4 ⟨rfl, hb4⟩
                have hb4' : Below w3.heap.size w3 w4 := ((Below.refl _ w3).drew).trans hb4
                have kp := Keeps.of_below hb4'
                replace x0 := kp _ _ x0
                replace s0 := kp _ _ s0
                replace s1 := kp _ _ s1
                replace s2 := kp _ _ s2
                replace s3 := kp _ _ s3
                refine hK _ _ (fun _ => ⟨x0, s0, s1, s2, s3⟩) ?_
                clear hK
                have HI4 := Lib.hid (HI3.out.below hb4')
                clear kp hb4 hb4'
                refine AnyZ.mid [8, 9, 10, 11, 12, 13, 14, 15, 16, 17, 18, 19, 20] [] 0 rfl (by kernel_rfl) (by kernel_rfl) (by kernel_rfl) (fun _ _ _ _ e h => ⟨e.symm.trans h.1, h.2⟩) ⟨x0, s0, s1, s2, s3⟩ ?_
                iterate 3
                  refine Heads.step (v := ?_) rfl (by first | (go_simp; done) | rfl) (fun W hW => ?_) ?_
                  rotate_left
                  · (obtain ⟨t0, t1, t2, t3, t4⟩ := hW; go_simp; try with_reducible rfl)
                iterate 4
                  refine Heads.skip rfl (by first | (go_simp; done) | rfl) ?_
                refine Heads.skipU (j := 14) (want := true) rfl rfl (by go_simp) ?_
                refine Heads.skipU (j := 14) (want := true) rfl rfl (by go_simp) ?_
                refine Heads.skipU (j := 14) (want := true) rfl rfl (by go_simp) ?_
                refine Heads.skipU (j := 14) (want := true) rfl rfl (by go_simp) ?_
                iterate 1
                  refine Heads.skip rfl (by first | (go_simp; done) | rfl) ?_
                iterate 1
                  refine Heads.step (v := ?_) rfl (by first | (go_simp; done) | rfl) (fun W hW => ?_) ?_
                  rotate_left
                  · (obtain ⟨t0, t1, t2, t3, t4⟩ := hW; go_simp; try with_reducible rfl)
                refine AnyZ.done (by kernel_rfl) ?_
                go_simp
                clear x0 s0 s1 s2 s3 hr1
                obtain ⟨⟨_, v1⟩, vz⟩ := box2 HI4.out.up
                have vz1 := vz 1
                have hk1 : Only (fun k => k = bu) w4 (w4.setCell ⟨bu, 1, none⟩ (.int .i64 (p : Int))) := Only.setCell (p := ⟨bu, 1, none⟩) (Only.refl (fun k => k = bu) w4) (fun _ => rfl) _
                have HI9 := Lib.hid (HI4.out.row hk1 (set2_1 HI4.out.up _) HPL.out)
                clear vz hk1
                go_upto_region 15 with (fail)
                clear v1 vz1
                generalize w4.setCell ⟨bu, 1, none⟩ (.int .i64 (p : Int)) = w9 at *
                obtain ⟨⟨x0, x1, x2, x3⟩, _⟩ := box4 HI9.out.g
                obtain ⟨⟨y0, y1, y2, y3⟩, yz⟩ := box4 HI9.out.r2
                have yz0 := yz 0
                have yz1 := yz 1
                have yz2 := yz 2
                have yz3 := yz 3
                have HR := Lib.hid (HI9.out.res (.int .i64 (h.i : Int)) (.slice A1 k c1) (.slice none 0 0) (.slice none 0 0))
                clear yz
                go_wp2_with fail
                exact bodyPost_ret (v := .tuple #[.agg #[.int .i64 (h.i : Int), .slice A1 k c1, .slice none 0 0, .slice none 0 0], .bool false]) (outsU rfl rfl HR.out.1) rfl ⟨.inl ⟨_, _, _, _, _, _, _, _, _, _, p, HBD.out, rfl, HR.out.2.1⟩, HR.out.2.2⟩
            | [x, y], _, _ =>
              have x0 : w3.cell? ⟨bN, oN, none⟩ = some (.int .i64 (x : Nat)) := hx 0 (by simp)
              have x1 : w3.cell? ⟨bN, oN + 1, none⟩ = some (.int .i64 (y : Nat)) := hx 1 (by simp)
              obtain ⟨⟨s0, s1, s2, s3⟩, _⟩ := box4 HI3.out.sz
              have hmc := HMM.out
              clear hx
              go_upto_region 13 with (fail)
              by_cases hm : x < M
              · by_cases hy : 1 < y
                · have q1 : ¬ (M : Int) ≤ (x : Int) := by omega
                  have q2 : (1 : Int) < (y : Int) := by omega
                  have HBD : Hid (GuBad l p) := Lib.hid (.inr ⟨h, p0, HD1.out, .inl ⟨k, by unfold Hd.rowsU; omega, HP.out, uRow_not (b := 2) (by rw [if_pos (by omega)]) hr1 (fun hc => by have h9 := hc.1 rfl; simp at h9; omega)⟩⟩)
                  refine wp_region_z (fun w' => w'.cell? ⟨bN, oN, none⟩ = some (.int .i64 (x : Nat)) ∧ w'.cell? ⟨bN, oN + 1, none⟩ = some (.int .i64 (y : Nat)) ∧ w'.cell? ⟨b5, 0, none⟩ = some (.int .i64 (h.i : Int)) ∧ w'.cell? ⟨b5, 1, none⟩ = some (.int .i64 (h.l : Int)) ∧ w'.cell? ⟨b5, 2, none⟩ = some (.int .i64 (h.o : Int)) ∧ w'.cell? ⟨b5, 3, none⟩ = some (.int .i64 (h.a : Int))) [0, 1, 2, 3, 4, 5, 6] [] (by kernel_rfl) (by kernel_rfl) (by kernel_rfl) (by rfl) (fun _ _ _ _ e h => ⟨e.symm.trans h.1, h.2⟩) ⟨x0, x1, s0, s1, s2, s3⟩ ?_
                  iterate 7
                    refine Heads.step (v := ?_) rfl (by first | (go_simp; done) | rfl) (fun W hW => ?_) ?_
                    rotate_left
                    · (obtain ⟨t0, t1, t2, t3, t4, t5⟩ := hW; go_simp; try with_reducible rfl)
                  refine AnyZ.one (i := 7) (by kernel_rfl) rfl (fun K hK => ?_)
                  go_simp
                  refine (HMST.out w3.drew).mono ?_
                  rintro e w4 ⟨rfl, hb4⟩
                  have hb4' : Below w3.heap.size w3 w4 := ((Below.refl _ w3).drew).trans hb4
                  have kp := Keeps.of_below hb4'
                  replace x0 := kp _ _ x0
                  replace x1 := kp _ _ x1
                  replace s0 := kp _ _ s0
                  replace s1 := kp _ _ s1
                  replace s2 := kp _ _ s2
                  replace s3 := kp _ _ s3
                  refine hK _ _ (fun _ => ⟨x0, x1, s0, s1, s2, s3⟩) ?_
                  clear hK
                  have HI4 := Lib.hid (HI3.out.below hb4')
                  clear kp hb4 hb4'
                  refine AnyZ.mid [8, 9, 10, 11, 12, 13, 14, 15, 16, 17, 18, 19, 20] [] 0 rfl (by kernel_rfl) (by kernel_rfl) (by kernel_rfl) (fun _ _ _ _ e h => ⟨e.symm.trans h.1, h.2⟩) ⟨x0, x1, s0, s1, s2, s3⟩ ?_
                  iterate 3
                    refine Heads.step (v := ?_) rfl (by first | (go_simp; done) | rfl) (fun W hW => ?_) ?_
                    rotate_left
                    · (obtain ⟨t0, t1, t2, t3, t4, t5⟩ := hW; go_simp; try with_reducible rfl)
                  iterate 4
                    refine Heads.step (v := ?_) rfl (by first | (go_simp; done) | rfl) (fun W hW => ?_) ?_
                    rotate_left
                    · (obtain ⟨t0, t1, t2, t3, t4, t5⟩ := hW; go_simp; try with_reducible rfl)
                  iterate 4
                    refine Heads.step (v := ?_) rfl (by first | (go_simp; done) | rfl) (fun W hW => ?_) ?_
                    rotate_left
                    · (obtain ⟨t0, t1, t2, t3, t4, t5⟩ := hW; go_simp; try with_reducible rfl)
                  iterate 1
                    refine Heads.step (v := ?_) rfl (by first | (go_simp; done) | rfl) (fun W hW => ?_) ?_
                    rotate_left
                    · (obtain ⟨t0, t1, t2, t3, t4, t5⟩ := hW; go_simp; try with_reducible rfl)
                  iterate 1
                    refine Heads.step (v := ?_) rfl (by first | (go_simp; done) | rfl) (fun W hW => ?_) ?_
                    rotate_left
                    · (obtain ⟨t0, t1, t2, t3, t4, t5⟩ := hW; go_simp; try with_reducible rfl)
                  refine AnyZ.done (by kernel_rfl) ?_
                  go_simp
                  clear x0 x1 s0 s1 s2 s3 hr1
                  obtain ⟨⟨_, v1⟩, vz⟩ := box2 HI4.out.up
                  have vz1 := vz 1
                  have hk1 : Only (fun k => k = bu) w4 (w4.setCell ⟨bu, 1, none⟩ (.int .i64 (p : Int))) := Only.setCell (p := ⟨bu, 1, none⟩) (Only.refl (fun k => k = bu) w4) (fun _ => rfl) _
                  have HI9 := Lib.hid (HI4.out.row hk1 (set2_1 HI4.out.up _) HPL.out)
                  clear vz hk1
                  go_upto_region 15 with (fail)
                  clear v1 vz1
                  generalize w4.setCell ⟨bu, 1, none⟩ (.int .i64 (p : Int)) = w9 at *
                  obtain ⟨⟨x0, x1, x2, x3⟩, _⟩ := box4 HI9.out.g
                  obtain ⟨⟨y0, y1, y2, y3⟩, yz⟩ := box4 HI9.out.r2
                  have yz0 := yz 0
                  have yz1 := yz 1
                  have yz2 := yz 2
                  have yz3 := yz 3
                  have HR := Lib.hid (HI9.out.res (.int .i64 (h.i : Int)) (.slice A1 k c1) (.slice none 0 0) (.slice none 0 0))
                  clear yz
                  go_wp2_with fail
                  exact bodyPost_ret (v := .tuple #[.agg #[.int .i64 (h.i : Int), .slice A1 k c1, .slice none 0 0, .slice none 0 0], .bool false]) (outsU rfl rfl HR.out.1) rfl ⟨.inl ⟨_, _, _, _, _, _, _, _, _, _, p, HBD.out, rfl, HR.out.2.1⟩, HR.out.2.2⟩
                · obtain ⟨bb, hbb⟩ : ∃ bb, bb = decide (y = 1) := ⟨_, rfl⟩
                  have HBB := Lib.hid hbb
                  have q3 : ((y : Int) == 1) = bb := by rw [hbb]; by_cases e : y = 1 <;> simp [e]; omega
                  clear hbb
                  have q1 : ¬ (M : Int) ≤ (x : Int) := by omega
                  have q2 : ¬ (1 : Int) < (y : Int) := by omega
                  refine wp_region_z (fun w' => w'.cell? ⟨bN, oN, none⟩ = some (.int .i64 (x : Nat)) ∧ w'.cell? ⟨bN, oN + 1, none⟩ = some (.int .i64 (y : Nat)) ∧ w'.cell? ⟨b5, 0, none⟩ = some (.int .i64 (h.i : Int)) ∧ w'.cell? ⟨b5, 1, none⟩ = some (.int .i64 (h.l : Int)) ∧ w'.cell? ⟨b5, 2, none⟩ = some (.int .i64 (h.o : Int)) ∧ w'.cell? ⟨b5, 3, none⟩ = some (.int .i64 (h.a : Int))) [0, 1, 2, 3, 4, 5, 6] [] (by kernel_rfl) (by kernel_rfl) (by kernel_rfl) (by rfl) (fun _ _ _ _ e h => ⟨e.symm.trans h.1, h.2⟩) ⟨x0, x1, s0, s1, s2, s3⟩ ?_
                  iterate 7
                    refine Heads.step (v := ?_) rfl (by first | (go_simp; done) | rfl) (fun W hW => ?_) ?_
                    rotate_left
                    · (obtain ⟨t0, t1, t2, t3, t4, t5⟩ := hW; go_simp; try with_reducible rfl)
                  refine AnyZ.one (i := 7) (by kernel_rfl) rfl (fun K hK => ?_)
                  go_simp
                  refine (HMST.out w3.drew).mono ?_
                  rintro e w4 ⟨rfl, hb4⟩
                  have hb4' : Below w3.heap.size w3 w4 := ((Below.refl _ w3).drew).trans hb4
                  have kp := Keeps.of_below hb4'
                  replace x0 := kp _ _ x0
                  replace x1 := kp _ _ x1
                  replace s0 := kp _ _ s0
                  replace s1 := kp _ _ s1
                  replace s2 := kp _ _ s2
                  replace s3 := kp _ _ s3
                  refine hK _ _ (fun _ => ⟨x0, x1, s0, s1, s2, s3⟩) ?_
                  clear hK
                  have HI4 := Lib.hid (HI3.out.below hb4')
                  clear kp hb4 hb4'
                  refine AnyZ.mid [8, 9, 10, 11, 12, 13, 14, 15, 16, 17, 18, 19, 20] [] 0 rfl (by kernel_rfl) (by kernel_rfl) (by kernel_rfl) (fun _ _ _ _ e h => ⟨e.symm.trans h.1, h.2⟩) ⟨x0, x1, s0, s1, s2, s3⟩ ?_
                  iterate 3
                    refine Heads.step (v := ?_) rfl (by first | (go_simp; done) | rfl) (fun W hW => ?_) ?_
                    rotate_left
                    · (obtain ⟨t0, t1, t2, t3, t4, t5⟩ := hW; go_simp; try with_reducible rfl)
                  iterate 4
                    refine Heads.step (v := ?_) rfl (by first | (go_simp; done) | rfl) (fun W hW => ?_) ?_
                    rotate_left
                    · (obtain ⟨t0, t1, t2, t3, t4, t5⟩ := hW; go_simp; try with_reducible rfl)
                  iterate 4
                    refine Heads.step (v := ?_) rfl (by first | (go_simp; done) | rfl) (fun W hW => ?_) ?_
                    rotate_left
                    · (obtain ⟨t0, t1, t2, t3, t4, t5⟩ := hW; go_simp; try with_reducible rfl)
                  iterate 1
                    refine Heads.step (v := ?_) rfl (by first | (go_simp; done) | rfl) (fun W hW => ?_) ?_
                    rotate_left
                    · (obtain ⟨t0, t1, t2, t3, t4, t5⟩ := hW; go_simp; try with_reducible rfl)
                  iterate 1
                    refine Heads.step (v := ?_) rfl (by first | (go_simp; done) | rfl) (fun W hW => ?_) ?_
                    rotate_left
                    · (obtain ⟨t0, t1, t2, t3, t4, t5⟩ := hW; go_simp; try with_reducible rfl)
                  refine AnyZ.done (by kernel_rfl) ?_
                  go_simp
                  have hyes := (uRow_yes (t := k) (b := 2) (by rw [if_pos (by omega)]) hr1 (fun h5 => by simp; omega) (by rw [hmc]; exact hm))
                  have HVL : Hid ((h.graphU l p0 0).L k = (x : Int) ∧ (h.graphU l p0 0).I k = bb) := Lib.hid (by
                    have e := numU_at HP.out hyes
                    refine ⟨by show (((h.numU l p0 k).getD 0 0 : Nat) : Int) = _; rw [e]; rfl, ?_⟩
                    show decide ((h.numU l p0 k).length = 2 ∧ (h.numU l p0 k).getD 1 0 = 1) = _
                    rw [e]
                    simp [HBB.out])
                  have HP2 := Lib.hid (uPos_next HP.out hyes)
                  obtain ⟨_, g1, _, _⟩ := (box4 HI4.out.g).1
                  clear s0 s1 s2 s3 hm hr1 hyes q1 q2
                  go_upto_region 16 with (fail)
                  refine wp_region_z (fun w' => w'.cell? ⟨b7, 1, none⟩ = some (.slice A1 k c1) ∧ w'.cell? ⟨bN, oN, none⟩ = some (.int .i64 (x : Nat)) ∧ w'.cell? ⟨bN, oN + 1, none⟩ = some (.int .i64 (y : Nat))) [0, 1, 2, 3, 4, 5, 6, 7, 8, 9, 10, 11, 12, 13, 14] [18] (by kernel_rfl) (by kernel_rfl) (by kernel_rfl) (by rfl) (fun _ _ _ _ e h => ⟨e.symm.trans h.1, h.2⟩) ⟨g1, x0, x1⟩ ?_
                  iterate 15
                    refine Heads.step (v := ?_) rfl (by first | (go_simp; done) | rfl) (fun W hW => ?_) ?_
                    rotate_left
                    · (obtain ⟨t0, t1, t2⟩ := hW; go_simp; try with_reducible rfl)
                  have hbl0 : Below w4.heap.size w4 w4.drew := (Below.refl _ w4).drew
                  have kp := Keeps.of_below hbl0
                  replace g1 := kp _ _ g1
                  replace x0 := kp _ _ x0
                  replace x1 := kp _ _ x1
                  replace HI4 := Lib.hid (HI4.out.below hbl0)
                  clear hbl0 kp
                  generalize w4.drew = wd at *
                  refine AnyZ.one (i := 15) (by kernel_rfl) rfl (fun K hK => ?_)
                  go_simp
                  have hbl : Below wd.heap.size wd (wd.alloc (.cells #[.int .i64 (x : Nat), .bool bb] 47)) := (Below.refl _ _).alloc (Nat.le_refl _) _
                  obtain ⟨_, _, hsc⟩ := src_news wd #[.int .i64 (x : Nat), .bool bb] 47 2 1 rfl (by intro u hu; simp at hu; rcases hu with rfl | rfl <;> rfl)
                  obtain ⟨ad, hae, hsc⟩ := hsc (by omega)
                  injection hae with hae; subst hae
                  have kp := Keeps.of_below hbl
                  replace g1 := kp _ _ g1
                  replace x0 := kp _ _ x0
                  replace x1 := kp _ _ x1
                  have HI5 := Lib.hid (HI4.out.below hbl)
                  clear hbl kp
                  generalize wd.alloc (.cells #[.int .i64 (x : Nat), .bool bb] 47) = w5 at *
                  refine hK _ _ (fun _ => ⟨g1, x0, x1⟩) ?_
                  clear hK
                  obtain ⟨A', c', w6, hap, hown, hon⟩ := run_append_s elLt 24 HI5.out.o1 ⟨wd.heap.size, 0, none⟩ 1 [.int .i64 (x : Nat), .bool bb] rfl hsc (by intro u hu; simp at hu; rcases hu with rfl | rfl <;> rfl) (by omega) HI5.out.zz
                  have hap6 := HI5.out.lat hown (by show _ = [Value.int .i64 ((h.graphU l p0 0).L k), Value.bool ((h.graphU l p0 0).I k)]; rw [HVL.out.1, HVL.out.2]) hon
                  have HI6 := Lib.hid hap6.2
                  have hX6 := hap6.1
                  have hA3 : ∀ b, blockOf A1 b → b < wq.heap.size := fun b hb => own_lt HI.out.o1 b hb
                  replace g1 := (box4 hX6).1.2.1
                  replace x0 := hon.cell x0 (by show ¬ blockOf A1 bN; intro hb; have := hA3 _ hb; omega)
                  replace x1 := hon.cell x1 (by show ¬ blockOf A1 bN; intro hb; have := hA3 _ hb; omega)
                  clear hon hsc hA3 hown hap6
                  refine AnyZ.one (i := 16) (by kernel_rfl) rfl (fun K hK => ?_)
                  rw [if_pos (by rfl)]
                  refine wpZ_append1 (.tmp 89) (.tmp 103) 24 rfl rfl rfl hap ?_
                  go_simp
                  refine hK _ _ (fun _ => ⟨g1, x0, x1⟩) ?_
                  clear hK hap
                  refine AnyZ.mid [17] [18] 1 rfl (by kernel_rfl) (by kernel_rfl) (by kernel_rfl) (fun _ _ _ _ e h => ⟨e.symm.trans h.1, h.2⟩) ⟨g1, x0, x1⟩ ?_
                  iterate 1
                    refine Heads.step (v := ?_) rfl (by first | (go_simp; done) | rfl) (fun W hW => ?_) ?_
                    rotate_left
                    · (obtain ⟨t0, t1, t2⟩ := hW; go_simp; try with_reducible rfl)
                  have z6 : w6.frozen? ⟨b7, 1, none⟩ = false := by simp [World.frozen?, hX6]
                  refine AnyZ.one (i := 18) (by kernel_rfl) rfl (fun K hK => ?_)
                  go_simp
                  refine hK _ _ (fun h => by cases h) (AnyZ.done (by kernel_rfl) ?_)
                  clear hK
                  go_simp
                  clear z6 hX6 g1 x0 x1
                  go_wp2_with fail
                  exact ⟨⟨k + 1, q, A', c', by omega, by simp, HP2, HI6⟩, by simp [intOf]; omega⟩
              · have q1 : (M : Int) ≤ (x : Int) := by omega
                have HBD : Hid (GuBad l p) := Lib.hid (.inr ⟨h, p0, HD1.out, .inl ⟨k, by unfold Hd.rowsU; omega, HP.out, uRow_not (b := 2) (by rw [if_pos (by omega)]) hr1 (fun hc => hm (by have h9 := hc.2; rw [hmc] at h9; exact h9))⟩⟩)
                refine wp_region_z (fun w' => w'.cell? ⟨bN, oN, none⟩ = some (.int .i64 (x : Nat)) ∧ w'.cell? ⟨bN, oN + 1, none⟩ = some (.int .i64 (y : Nat)) ∧ w'.cell? ⟨b5, 0, none⟩ = some (.int .i64 (h.i : Int)) ∧ w'.cell? ⟨b5, 1, none⟩ = some (.int .i64 (h.l : Int)) ∧ w'.cell? ⟨b5, 2, none⟩ = some (.int .i64 (h.o : Int)) ∧ w'.cell? ⟨b5, 3, none⟩ = some (.int .i64 (h.a : Int))) [0, 1, 2, 3, 4, 5, 6] [] (by kernel_rfl) (by kernel_rfl) (by kernel_rfl) (by rfl) (fun _ _ _ _ e h => ⟨e.symm.trans h.1, h.2⟩) ⟨x0, x1, s0, s1, s2, s3⟩ ?_
                iterate 7
                  refine Heads.step (v := ?_) rfl (by first | (go_simp; done) | rfl) (fun W hW => ?_) ?_
                  rotate_left
                  · (obtain ⟨t0, t1, t2, t3, t4, t5⟩ := hW; go_simp; try with_reducible rfl)
                refine AnyZ.one (i := 7) (by kernel_rfl) rfl (fun K hK => ?_)
                go_simp
                refine (HMST.out w3.drew).mono ?_
                rintro e w4 ⟨rfl, hb4⟩
                have hb4' : Below w3.heap.size w3 w4 := ((Below.refl _ w3).drew).trans hb4
                have kp := Keeps.of_below hb4'
                replace x0 := kp _ _ x0
                replace x1 := kp _ _ x1
                replace s0 := kp _ _ s0
                replace s1 := kp _ _ s1
                replace s2 := kp _ _ s2
                replace s3 := kp _ _ s3
                refine hK _ _ (fun _ => ⟨x0, x1, s0, s1, s2, s3⟩) ?_
                clear hK
                have HI4 := Lib.hid (HI3.out.below hb4')
                clear kp hb4 hb4'
                refine AnyZ.mid [8, 9, 10, 11, 12, 13, 14, 15, 16, 17, 18, 19, 20] [] 0 rfl (by kernel_rfl) (by kernel_rfl) (by kernel_rfl) (fun _ _ _ _ e h => ⟨e.symm.trans h.1, h.2⟩) ⟨x0, x1, s0, s1, s2, s3⟩ ?_
                iterate 3
                  refine Heads.step (v := ?_) rfl (by first | (go_simp; done) | rfl) (fun W hW => ?_) ?_
                  rotate_left
                  · (obtain ⟨t0, t1, t2, t3, t4, t5⟩ := hW; go_simp; try with_reducible rfl)
                iterate 4
                  refine Heads.skip rfl (by first | (go_simp; done) | rfl) ?_
                refine Heads.skipU (j := 14) (want := true) rfl rfl (by go_simp) ?_
                refine Heads.skipU (j := 14) (want := true) rfl rfl (by go_simp) ?_
                refine Heads.skipU (j := 14) (want := true) rfl rfl (by go_simp) ?_
                refine Heads.skipU (j := 14) (want := true) rfl rfl (by go_simp) ?_
                iterate 1
                  refine Heads.skip rfl (by first | (go_simp; done) | rfl) ?_
                iterate 1
                  refine Heads.step (v := ?_) rfl (by first | (go_simp; done) | rfl) (fun W hW => ?_) ?_
                  rotate_left
                  · (obtain ⟨t0, t1, t2, t3, t4, t5⟩ := hW; go_simp; try with_reducible rfl)
                refine AnyZ.done (by kernel_rfl) ?_
                go_simp
                clear x0 x1 s0 s1 s2 s3 hr1
                obtain ⟨⟨_, v1⟩, vz⟩ := box2 HI4.out.up
                have vz1 := vz 1
                have hk1 : Only (fun k => k = bu) w4 (w4.setCell ⟨bu, 1, none⟩ (.int .i64 (p : Int))) := Only.setCell (p := ⟨bu, 1, none⟩) (Only.refl (fun k => k = bu) w4) (fun _ => rfl) _
                have HI9 := Lib.hid (HI4.out.row hk1 (set2_1 HI4.out.up _) HPL.out)
                clear vz hk1
                go_upto_region 15 with (fail)
                clear v1 vz1
                generalize w4.setCell ⟨bu, 1, none⟩ (.int .i64 (p : Int)) = w9 at *
                obtain ⟨⟨x0, x1, x2, x3⟩, _⟩ := box4 HI9.out.g
                obtain ⟨⟨y0, y1, y2, y3⟩, yz⟩ := box4 HI9.out.r2
                have yz0 := yz 0
                have yz1 := yz 1
                have yz2 := yz 2
                have yz3 := yz 3
                have HR := Lib.hid (HI9.out.res (.int .i64 (h.i : Int)) (.slice A1 k c1) (.slice none 0 0) (.slice none 0 0))
                clear yz
                go_wp2_with fail
                exact bodyPost_ret (v := .tuple #[.agg #[.int .i64 (h.i : Int), .slice A1 k c1, .slice none 0 0, .slice none 0 0], .bool false]) (outsU rfl rfl HR.out.1) rfl ⟨.inl ⟨_, _, _, _, _, _, _, _, _, _, p, HBD.out, rfl, HR.out.2.1⟩, HR.out.2.2⟩
        · obtain rfl : h.l = k := by omega
          go_wp2_with fail
          clear s0 s1 s2 s3
          go_loopw [109] (fun vk wr => ∃ (k p : Nat) (A3 : Option Addr) (c3 : Nat), k ≤ h.o ∧ vk = .int .i64 k ∧ Hid (h.uPos l p0 (h.l + k) = some p) ∧ Hid (GuI w l h p0 0 bu b2 b5 b7 z bA oA c p A1 none A3 c1 0 c3 h.l 0 k wr)) (fun vk _ => h.o - (intOf vk).toNat)
          case atStart => exact ⟨0, p, none, 0, by omega, rfl, HP, HI⟩
          case round =>
            obtain ⟨k, p, A3, c3, hkl, rfl, HP, HI⟩ := hrel
            obtain ⟨wq, hwq⟩ : ∃ wq, wq = wr := ⟨_, rfl⟩
            subst hwq
            have HPL := Lib.hid HI.out.ple
            obtain ⟨⟨s0, s1, s2, s3⟩, _⟩ := box4 HI.out.sz
            by_cases hlt : k < h.o
            · have hrow := urow_any l 1 bu bA oA c p wq HI.out.up HI.out.mem HI.out.ple (HLC.out) hcm hl HI.out.mx
              rw [show ((1 : Nat) : Int) = 1 from rfl] at hrow
              obtain ⟨⟨_, v1⟩, _⟩ := box2 HI.out.up
              obtain ⟨Q, hQ⟩ : ∃ Q, Q = rowU l 1 p := ⟨_, rfl⟩
              go_wp2_with fail
              refine hrow.mono ?_
              rintro e w3 ⟨hr, hO3⟩
              clear hrow v1 s0 s1 s2 s3
              clear hQ
              rcases hr with ⟨hr1, rfl, hup⟩ | ⟨ns, q, v, hr1, rfl, hnv, hup⟩
              · have HBD : Hid (GuBad l p) := Lib.hid (.inr ⟨h, p0, HD1.out, .inl ⟨h.l + k, by unfold Hd.rowsU; omega, HP.out, uRow_no (b := 1) (by rw [if_neg (by omega)]) hr1⟩⟩)
                have HI3 := Lib.hid (HI.out.row hO3 hup HPL.out)
                clear hO3 hup hr1
                go_upto_region 22 with (fail)
                go_quiet (fail)
                replace HI3 := Lib.hid (HI3.out.drewN nq)
                generalize w3.drewN nq = w4 at *
                obtain ⟨⟨_, v1⟩, vz⟩ := box2 HI3.out.up
                have vz1 := vz 1
                have hk1 : Only (fun k => k = bu) w4 (w4.setCell ⟨bu, 1, none⟩ (.int .i64 (p : Int))) := Only.setCell (p := ⟨bu, 1, none⟩) (Only.refl (fun k => k = bu) w4) (fun _ => rfl) _
                have HI9 := Lib.hid (HI3.out.row hk1 (set2_1 HI3.out.up _) HPL.out)
                clear vz hk1
                go_upto_region 24 with (fail)
                clear v1 vz1
                generalize w4.setCell ⟨bu, 1, none⟩ (.int .i64 (p : Int)) = w9 at *
                obtain ⟨⟨x0, x1, x2, x3⟩, _⟩ := box4 HI9.out.g
                obtain ⟨⟨y0, y1, y2, y3⟩, yz⟩ := box4 HI9.out.r2
                have yz0 := yz 0
                have yz1 := yz 1
                have yz2 := yz 2
                have yz3 := yz 3
                have HR := Lib.hid (HI9.out.res (.int .i64 (h.i : Int)) (.slice A1 h.l c1) (.slice none 0 0) (.slice A3 k c3))
                clear yz
                go_wp2_with fail
                exact bodyPost_ret (v := .tuple #[.agg #[.int .i64 (h.i : Int), .slice A1 h.l c1, .slice none 0 0, .slice A3 k c3], .bool false]) (outsU rfl rfl HR.out.1) rfl ⟨.inl ⟨_, _, _, _, _, _, _, _, _, _, p, HBD.out, rfl, HR.out.2.1⟩, HR.out.2.2⟩
              · obtain ⟨bN, oN, cN, rfl, hbN, hx⟩ := hnv
                have hql := rowU_len hr1
                have HI3 := Lib.hid (HI.out.row hO3 hup hql.2.2.2.2)
                clear hO3 hup
                obtain ⟨hl1, hl2, _⟩ := hql
                match ns, hl1, hl2 with
                | [x], _, _ =>
                  have x0 : w3.cell? ⟨bN, oN, none⟩ = some (.int .i64 (x : Nat)) := hx 0 (by simp)
                  obtain ⟨⟨s0, s1, s2, s3⟩, _⟩ := box4 HI3.out.sz
                  have hmc := HMM.out
                  clear hx
                  go_upto_region 22 with (fail)
                  by_cases hm : x < M
                  · have q1 : ¬ (M : Int) ≤ (x : Int) := by omega
                    refine wp_region_z (fun w' => w'.cell? ⟨bN, oN, none⟩ = some (.int .i64 (x : Nat)) ∧ w'.cell? ⟨b5, 0, none⟩ = some (.int .i64 (h.i : Int)) ∧ w'.cell? ⟨b5, 1, none⟩ = some (.int .i64 (h.l : Int)) ∧ w'.cell? ⟨b5, 2, none⟩ = some (.int .i64 (h.o : Int)) ∧ w'.cell? ⟨b5, 3, none⟩ = some (.int .i64 (h.a : Int))) [0, 1, 2, 3, 4, 5, 6] [] (by kernel_rfl) (by kernel_rfl) (by kernel_rfl) (by rfl) (fun _ _ _ _ e h => ⟨e.symm.trans h.1, h.2⟩) ⟨x0, s0, s1, s2, s3⟩ ?_
                    iterate 7
                      refine Heads.step (v := ?_) rfl (by first | (go_simp; done) | rfl) (fun W hW => ?_) ?_
                      rotate_left
                      · (obtain ⟨t0, t1, t2, t3, t4⟩ := hW; go_simp; try with_reducible rfl)
                    refine AnyZ.one (i := 7) (by kernel_rfl) rfl (fun K hK => ?_)
                    go_simp
                    refine (HMST.out w3.drew).mono ?_
                    rintro e w4 ⟨rfl, hb4⟩
                    have hb4' : Below w3.heap.size w3 w4 := ((Below.refl _ w3).drew).trans hb4
                    have kp := Keeps.of_below hb4'
                    replace x0 := kp _ _ x0
                    replace s0 := kp _ _ s0
                    replace s1 := kp _ _ s1
                    replace s2 := kp _ _ s2
                    replace s3 := kp _ _ s3
                    refine hK _ _ (fun _ => ⟨x0, s0, s1, s2, s3⟩) ?_
                    clear hK
                    have HI4 := Lib.hid (HI3.out.below hb4')
                    clear kp hb4 hb4'
                    refine AnyZ.mid [8, 9] [] 0 rfl (by kernel_rfl) (by kernel_rfl) (by kernel_rfl) (fun _ _ _ _ e h => ⟨e.symm.trans h.1, h.2⟩) ⟨x0, s0, s1, s2, s3⟩ ?_
                    iterate 2
                      refine Heads.step (v := ?_) rfl (by first | (go_simp; done) | rfl) (fun W hW => ?_) ?_
                      rotate_left
                      · (obtain ⟨t0, t1, t2, t3, t4⟩ := hW; go_simp; try with_reducible rfl)
                    refine AnyZ.done (by kernel_rfl) ?_
                    go_simp
                    have hyes := (uRow_yes (h := h) (t := h.l + k) (b := 1) (by rw [if_neg (by omega)]) hr1 (fun h5 => by simp at h5) (by rw [hmc]; exact hm))
                    have HVL : Hid ((h.graphU l p0 0).O k = (x : Int)) := Lib.hid (by
                      have e := numU_at HP.out hyes
                      show (((h.numU l p0 (h.l + k)).getD 0 0 : Nat) : Int) = _
                      rw [e]; rfl)
                    have HP2 := Lib.hid (uPos_next HP.out hyes)
                    obtain ⟨_, _, _, g1⟩ := (box4 HI4.out.g).1
                    clear s0 s1 s2 s3 hm hr1 hyes q1
                    go_upto_region 25 with (fail)
                    refine wp_region_z (fun w' => w'.cell? ⟨b7, 3, none⟩ = some (.slice A3 k c3) ∧ w'.cell? ⟨bN, oN, none⟩ = some (.int .i64 (x : Nat))) [0, 1, 2, 3, 4] [8] (by kernel_rfl) (by kernel_rfl) (by kernel_rfl) (by rfl) (fun _ _ _ _ e h => ⟨e.symm.trans h.1, h.2⟩) ⟨g1, x0⟩ ?_
                    iterate 5
                      refine Heads.step (v := ?_) rfl (by first | (go_simp; done) | rfl) (fun W hW => ?_) ?_
                      rotate_left
                      · (obtain ⟨t0, t1⟩ := hW; go_simp; try with_reducible rfl)
                    have hbl0 : Below w4.heap.size w4 w4.drew := (Below.refl _ w4).drew
                    have kp := Keeps.of_below hbl0
                    replace g1 := kp _ _ g1
                    replace x0 := kp _ _ x0
                    replace HI4 := Lib.hid (HI4.out.below hbl0)
                    clear hbl0 kp
                    generalize w4.drew = wd at *
                    refine AnyZ.one (i := 5) (by kernel_rfl) rfl (fun K hK => ?_)
                    go_simp
                    have hbl : Below wd.heap.size wd (wd.alloc (.cells #[.int .i64 (x : Nat)] 3)) := (Below.refl _ _).alloc (Nat.le_refl _) _
                    obtain ⟨_, _, hsc⟩ := src_news wd #[.int .i64 (x : Nat)] 3 1 1 rfl (by intro u hu; simp at hu; subst hu; rfl)
                    obtain ⟨ad, hae, hsc⟩ := hsc (by omega)
                    injection hae with hae; subst hae
                    have kp := Keeps.of_below hbl
                    replace g1 := kp _ _ g1
                    replace x0 := kp _ _ x0
                    have HI5 := Lib.hid (HI4.out.below hbl)
                    clear hbl kp
                    generalize wd.alloc (.cells #[.int .i64 (x : Nat)] 3) = w5 at *
                    refine hK _ _ (fun _ => ⟨g1, x0⟩) ?_
                    clear hK
                    obtain ⟨A', c', w6, hap, hown, hon⟩ := run_append_s elIn 26 HI5.out.o3 ⟨wd.heap.size, 0, none⟩ 1 [.int .i64 (x : Nat)] rfl hsc (by intro u hu; simp at hu; subst hu; rfl) (by omega) HI5.out.zz
                    have hap6 := HI5.out.out hown (by show _ = [Value.int .i64 ((h.graphU l p0 0).O k)]; rw [HVL.out]) hon
                    have HI6 := Lib.hid hap6.2
                    have hX6 := hap6.1
                    have hA3 : ∀ b, blockOf A3 b → b < wq.heap.size := fun b hb => own_lt HI.out.o3 b hb
                    replace g1 := (box4 hX6).1.2.2.2
                    replace x0 := hon.cell x0 (by show ¬ blockOf A3 bN; intro hb; have := hA3 _ hb; omega)
                    clear hon hsc hA3 hown hap6
                    refine AnyZ.one (i := 6) (by kernel_rfl) rfl (fun K hK => ?_)
                    rw [if_pos (by rfl)]
                    refine wpZ_append1 (.tmp 136) (.tmp 140) 26 rfl rfl rfl hap ?_
                    go_simp
                    refine hK _ _ (fun _ => ⟨g1, x0⟩) ?_
                    clear hK hap
                    refine AnyZ.mid [7] [8] 1 rfl (by kernel_rfl) (by kernel_rfl) (by kernel_rfl) (fun _ _ _ _ e h => ⟨e.symm.trans h.1, h.2⟩) ⟨g1, x0⟩ ?_
                    iterate 1
                      refine Heads.step (v := ?_) rfl (by first | (go_simp; done) | rfl) (fun W hW => ?_) ?_
                      rotate_left
                      · (obtain ⟨t0, t1⟩ := hW; go_simp; try with_reducible rfl)
                    have z6 : w6.frozen? ⟨b7, 3, none⟩ = false := by simp [World.frozen?, hX6]
                    refine AnyZ.one (i := 8) (by kernel_rfl) rfl (fun K hK => ?_)
                    go_simp
                    refine hK _ _ (fun h => by cases h) (AnyZ.done (by kernel_rfl) ?_)
                    clear hK
                    go_simp
                    clear z6 hX6 g1 x0
                    go_wp2_with fail
                    exact ⟨⟨k + 1, q, A', c', by omega, by simp, HP2, HI6⟩, by simp [intOf]; omega⟩
                  · have q1 : (M : Int) ≤ (x : Int) := by omega
                    have HBD : Hid (GuBad l p) := Lib.hid (.inr ⟨h, p0, HD1.out, .inl ⟨h.l + k, by unfold Hd.rowsU; omega, HP.out, uRow_not (b := 1) (by rw [if_neg (by omega)]) hr1 (fun hc => hm (by have h9 := hc.2; rw [hmc] at h9; exact h9))⟩⟩)
                    refine wp_region_z (fun w' => w'.cell? ⟨bN, oN, none⟩ = some (.int .i64 (x : Nat)) ∧ w'.cell? ⟨b5, 0, none⟩ = some (.int .i64 (h.i : Int)) ∧ w'.cell? ⟨b5, 1, none⟩ = some (.int .i64 (h.l : Int)) ∧ w'.cell? ⟨b5, 2, none⟩ = some (.int .i64 (h.o : Int)) ∧ w'.cell? ⟨b5, 3, none⟩ = some (.int .i64 (h.a : Int))) [0, 1, 2, 3, 4, 5, 6] [] (by kernel_rfl) (by kernel_rfl) (by kernel_rfl) (by rfl) (fun _ _ _ _ e h => ⟨e.symm.trans h.1, h.2⟩) ⟨x0, s0, s1, s2, s3⟩ ?_
                    iterate 7
                      refine Heads.step (v := ?_) rfl (by first | (go_simp; done) | rfl) (fun W hW => ?_) ?_
                      rotate_left
                      · (obtain ⟨t0, t1, t2, t3, t4⟩ := hW; go_simp; try with_reducible rfl)
                    refine AnyZ.one (i := 7) (by kernel_rfl) rfl (fun K hK => ?_)
                    go_simp
                    refine (HMST.out w3.drew).mono ?_
                    rintro e w4 ⟨rfl, hb4⟩
                    have hb4' : Below w3.heap.size w3 w4 := ((Below.refl _ w3).drew).trans hb4
                    have kp := Keeps.of_below hb4'
                    replace x0 := kp _ _ x0
                    replace s0 := kp _ _ s0
                    replace s1 := kp _ _ s1
                    replace s2 := kp _ _ s2
                    replace s3 := kp _ _ s3
                    refine hK _ _ (fun _ => ⟨x0, s0, s1, s2, s3⟩) ?_
                    clear hK
                    have HI4 := Lib.hid (HI3.out.below hb4')
                    clear kp hb4 hb4'
                    refine AnyZ.mid [8, 9] [] 0 rfl (by kernel_rfl) (by kernel_rfl) (by kernel_rfl) (fun _ _ _ _ e h => ⟨e.symm.trans h.1, h.2⟩) ⟨x0, s0, s1, s2, s3⟩ ?_
                    iterate 2
                      refine Heads.step (v := ?_) rfl (by first | (go_simp; done) | rfl) (fun W hW => ?_) ?_
                      rotate_left
                      · (obtain ⟨t0, t1, t2, t3, t4⟩ := hW; go_simp; try with_reducible rfl)
                    refine AnyZ.done (by kernel_rfl) ?_
                    go_simp
                    clear x0 s0 s1 s2 s3 hr1
                    obtain ⟨⟨_, v1⟩, vz⟩ := box2 HI4.out.up
                    have vz1 := vz 1
                    have hk1 : Only (fun k => k = bu) w4 (w4.setCell ⟨bu, 1, none⟩ (.int .i64 (p : Int))) := Only.setCell (p := ⟨bu, 1, none⟩) (Only.refl (fun k => k = bu) w4) (fun _ => rfl) _
                    have HI9 := Lib.hid (HI4.out.row hk1 (set2_1 HI4.out.up _) HPL.out)
                    clear vz hk1
                    go_upto_region 24 with (fail)
                    clear v1 vz1
                    generalize w4.setCell ⟨bu, 1, none⟩ (.int .i64 (p : Int)) = w9 at *
                    obtain ⟨⟨x0, x1, x2, x3⟩, _⟩ := box4 HI9.out.g
                    obtain ⟨⟨y0, y1, y2, y3⟩, yz⟩ := box4 HI9.out.r2
                    have yz0 := yz 0
                    have yz1 := yz 1
                    have yz2 := yz 2
                    have yz3 := yz 3
                    have HR := Lib.hid (HI9.out.res (.int .i64 (h.i : Int)) (.slice A1 h.l c1) (.slice none 0 0) (.slice A3 k c3))
                    clear yz
                    go_wp2_with fail
                    exact bodyPost_ret (v := .tuple #[.agg #[.int .i64 (h.i : Int), .slice A1 h.l c1, .slice none 0 0, .slice A3 k c3], .bool false]) (outsU rfl rfl HR.out.1) rfl ⟨.inl ⟨_, _, _, _, _, _, _, _, _, _, p, HBD.out, rfl, HR.out.2.1⟩, HR.out.2.2⟩
            · obtain rfl : h.o = k := by omega
              obtain ⟨p1, hp1⟩ : ∃ p1, p1 = p := ⟨_, rfl⟩
              subst hp1
              have HP1 : Hid (h.uPos l p0 h.rowsU = some p1) := Lib.hid (by have e := HP.out; unfold Hd.rowsU; exact e)
              have HI0 : Hid (GuI w l h p0 p1 bu b2 b5 b7 z bA oA c p1 A1 none A3 c1 0 c3 h.l 0 h.o wq) := Lib.hid HI.out.repos
              clear HP HPL HI
              go_wp2_with fail
              clear s0 s1 s2 s3
              go_loopw [146] (fun vk wr => ∃ (k p : Nat) (A2 : Option Addr) (c2 : Nat), k ≤ h.a ∧ vk = .int .i64 k ∧ Hid (h.gPos l p1 k = some p) ∧ Hid (GuI w l h p0 p1 bu b2 b5 b7 z bA oA c p A1 A2 A3 c1 c2 c3 h.l k h.o wr)) (fun vk _ => h.a - (intOf vk).toNat)
              case atStart => exact ⟨0, p1, none, 0, by omega, rfl, Lib.hid rfl, HI0⟩
              case round =>
                obtain ⟨k, p, A2, c2, hkl, rfl, HP, HI⟩ := hrel
                obtain ⟨wq, hwq⟩ : ∃ wq, wq = wr := ⟨_, rfl⟩
                subst hwq
                have HPL := Lib.hid HI.out.ple
                obtain ⟨⟨s0, s1, s2, s3⟩, _⟩ := box4 HI.out.sz
                by_cases hlt : k < h.a
                · obtain ⟨ow, how⟩ : ∃ x, x = h.own k := ⟨_, rfl⟩
                  have HOWN := Lib.hid how
                  have hoe : ow = 2 * (1 + h.i + h.l + k) := how
                  have ew1 : IntKind.i64.wrap (1 + (h.i : Int)) = 1 + (h.i : Int) := by rw [IntKind.wrap_i64]; omega
                  have ew2 : IntKind.i64.wrap (1 + (h.i : Int) + (h.l : Int)) = 1 + (h.i : Int) + (h.l : Int) := by rw [IntKind.wrap_i64]; omega
                  have ew3 : IntKind.i64.wrap (1 + (h.i : Int) + (h.l : Int) + (k : Int)) = 1 + (h.i : Int) + (h.l : Int) + (k : Int) := by rw [IntKind.wrap_i64]; omega
                  have ew4 : IntKind.i64.wrap (2 * (1 + (h.i : Int) + (h.l : Int) + (k : Int))) = (ow : Int) := by rw [IntKind.wrap_i64]; omega
                  have ew5 : 2 * (1 + (h.i : Int) + (h.l : Int) + (k : Int)) = (ow : Int) := by omega
                  have hob : ow ≤ 200000 := by omega
                  clear how hoe
                  have hsv := seven_any l 1 ow bu bA oA c p wq HI.out.up HI.out.mem HI.out.ple hl
                  rw [show ((1 : Nat) : Int) = 1 from rfl] at hsv
                  go_wp2_with fail
                  refine hsv.mono ?_
                  rintro e w3 ⟨hr, hO3⟩
                  clear hsv s0 s1 s2 s3 ew1 ew2 ew3 ew4 ew5
                  rcases hr with ⟨hr1, rfl, hup⟩ | ⟨x, q, hr1, rfl, hup⟩
                  · have HBD : Hid (GuBad l p) := Lib.hid (.inr ⟨h, p0, HD1.out, .inr ⟨p1, HP1.out, k, p, hlt, HP.out, .inl ⟨by rw [svQ_x, ← HOWN.out]; exact hr1, rfl⟩⟩⟩)
                    have HI3 := Lib.hid (HI.out.row hO3 hup HPL.out)
                    clear hO3 hup hr1
                    obtain ⟨⟨x0, x1, x2, x3⟩, _⟩ := box4 HI3.out.g
                    obtain ⟨⟨y0, y1, y2, y3⟩, yz⟩ := box4 HI3.out.r2
                    have yz0 := yz 0
                    have yz1 := yz 1
                    have yz2 := yz 2
                    have yz3 := yz 3
                    have HR := Lib.hid (HI3.out.res (.int .i64 (h.i : Int)) (.slice A1 h.l c1) (.slice A2 k c2) (.slice A3 h.o c3))
                    clear yz
                    go_wp2_with fail
                    exact bodyPost_ret (v := .tuple #[.agg #[.int .i64 (h.i : Int), .slice A1 h.l c1, .slice A2 k c2, .slice A3 h.o c3], .bool false]) (outsU rfl rfl HR.out.1) rfl ⟨.inl ⟨_, _, _, _, _, _, _, _, _, _, p, HBD.out, rfl, HR.out.2.1⟩, HR.out.2.2⟩
                  · have hql := svQ_le hr1
                    have HI3 := Lib.hid (HI.out.row hO3 hup hql.2.1)
                    have HX : Hid (h.gX l k p = some (x, q)) := Lib.hid (by rw [svQ_x, ← HOWN.out]; exact hr1)
                    obtain ⟨_, hq2, hx1, hx2⟩ := hql
                    have HQ2 := Lib.hid hq2
                    clear hO3 hup hr1
                    have ew6 : IntKind.i64.wrap ((ow : Int) - (x : Int)) = ((ow - x : Nat) : Int) := by rw [IntKind.wrap_i64]; omega
                    obtain ⟨d, hd⟩ : ∃ d, d = ow - x := ⟨_, rfl⟩
                    rw [← hd] at ew6
                    have ew7 : (ow : Int) - (x : Int) = (d : Int) := by omega
                    have HDD : Hid (d = h.own k - x ∧ (d : Int) = (h.own k : Int) - (x : Int)) := Lib.hid (by rw [← HOWN.out]; exact ⟨hd, by omega⟩)
                    clear hd
                    have hsv := seven_any l 0 d bu bA oA c q w3 HI3.out.up HI3.out.mem HI3.out.ple hl
                    rw [show ((0 : Nat) : Int) = 0 from rfl] at hsv
                    go_wp2_with fail
                    refine hsv.mono ?_
                    rintro e w4 ⟨hr, hO4⟩
                    clear hsv
                    rcases hr with ⟨hr1, rfl, hup⟩ | ⟨y, r, hr1, rfl, hup⟩
                    · have HBD : Hid (GuBad l q) := Lib.hid (.inr ⟨h, p0, HD1.out, .inr ⟨p1, HP1.out, k, p, hlt, HP.out, .inr ⟨x, HX.out, by rw [svQ_y, ← HDD.out.1]; exact hr1⟩⟩⟩)
                      have HI4 := Lib.hid (HI3.out.row hO4 hup HQ2.out)
                      clear hO4 hup hr1
                      obtain ⟨⟨x0, x1, x2, x3⟩, _⟩ := box4 HI4.out.g
                      obtain ⟨⟨y0, y1, y2, y3⟩, yz⟩ := box4 HI4.out.r2
                      have yz0 := yz 0
                      have yz1 := yz 1
                      have yz2 := yz 2
                      have yz3 := yz 3
                      have HR := Lib.hid (HI4.out.res (.int .i64 (h.i : Int)) (.slice A1 h.l c1) (.slice A2 k c2) (.slice A3 h.o c3))
                      clear yz
                      go_wp2_with fail
                      exact bodyPost_ret (v := .tuple #[.agg #[.int .i64 (h.i : Int), .slice A1 h.l c1, .slice A2 k c2, .slice A3 h.o c3], .bool false]) (outsU rfl rfl HR.out.1) rfl ⟨.inl ⟨_, _, _, _, _, _, _, _, _, _, q, HBD.out, rfl, HR.out.2.1⟩, HR.out.2.2⟩
                    · have hql := svQ_le hr1
                      have HI4 := Lib.hid (HI3.out.row hO4 hup hql.2.1)
                      have HY : Hid (h.gY l k x q = some (y, r)) := Lib.hid (by rw [svQ_y, ← HDD.out.1]; exact hr1)
                      have hrow := gRow_yes HX.out HY.out
                      have HP2 := Lib.hid (gPos_next HP.out hrow)
                      have hxy : y ≤ d := hql.2.2.2
                      have HVL : Hid ((h.graphU l 0 p1).X k = (d : Int) ∧ (h.graphU l 0 p1).Y k = (d : Int) - (y : Int)) := Lib.hid (by
                        have e := gatU_at HP.out hrow
                        have e1 : (h.graphU l 0 p1).X k = (h.own k : Int) - (x : Int) := by
                          show (h.own k : Int) - ((h.gatU l p1 k).1 : Nat) = _
                          rw [e]
                        have e2 : (h.graphU l 0 p1).Y k = (h.own k : Int) - (x : Int) - (y : Int) := by
                          show (h.own k : Int) - ((h.gatU l p1 k).1 : Nat) - ((h.gatU l p1 k).2 : Nat) = _
                          rw [e]
                        rw [e1, e2, HDD.out.2]
                        exact ⟨rfl, rfl⟩)
                      have ew8 : IntKind.i64.wrap ((d : Int) - (y : Int)) = (d : Int) - (y : Int) := by rw [IntKind.wrap_i64]; omega
                      clear hO4 hup hr1 hql hrow
                      obtain ⟨_, _, g1, _⟩ := (box4 HI4.out.g).1
                      have OB1 : Hid (Below w4.heap.size w4 (w4.alloc (.cells #[.int .i64 (d : Int), .int .i64 ((d : Int) - (y : Int))] 48))) := Lib.hid ((Below.refl _ _).alloc (Nat.le_refl _) _)
                      have HI5 := Lib.hid (HI4.out.below OB1.out)
                      have hA3 : ∀ b, blockOf A2 b → b < wq.heap.size := fun b hb => own_lt HI.out.o2 b hb
                      have HNW : Hid ([Value.int .i64 (d : Int), Value.int .i64 ((d : Int) - (y : Int))] = (List.range 2).map (fAndU h l p1 k)) := Lib.hid (by show _ = [Value.int .i64 ((h.graphU l 0 p1).X k), Value.int .i64 ((h.graphU l 0 p1).Y k)]; rw [HVL.out.1, HVL.out.2])
                      have HRL : Hid (r ≤ l.length) := Lib.hid HI4.out.ple
                      go_wp2_with (at_builtin; refine wp_append rfl (.tmp 179) (.tmp 189) _ rfl elPr z A2 k c2 _ rfl HI5.out.o2 _ 1 1 [.int .i64 (d : Int), .int .i64 ((d : Int) - (y : Int))] rfl (src_news w4 #[.int .i64 (d : Int), .int .i64 ((d : Int) - (y : Int))] 48 2 1 rfl (by intro u hu; simp at hu; rcases hu with rfl | rfl <;> rfl)) (by omega) HI5.out.zz ?_; intro A' c' w6 hown hon hbk; have hap6 := HI5.out.and_ hown HNW.out hon; have HX6 := Lib.hid hap6.1; have HI6 := Lib.hid hap6.2; have z6 : w6.frozen? ⟨b7, 2, none⟩ = false := (box4 HX6.out).2 2; have g6 := (box4 HX6.out).1.2.2.1; clear hap6 hown hon hbk)
                      exact ⟨⟨k + 1, r, A', c', by omega, by simp, HP2, HI6⟩, by simp [intOf]; omega⟩
                · obtain rfl : h.a = k := by omega
                  obtain ⟨⟨x0, x1, x2, x3⟩, _⟩ := box4 HI.out.g
                  obtain ⟨⟨y0, y1, y2, y3⟩, yz⟩ := box4 HI.out.r2
                  have yz0 := yz 0
                  have yz1 := yz 1
                  have yz2 := yz 2
                  have yz3 := yz 3
                  have HR := Lib.hid (HI.out.res (.int .i64 (h.i : Int)) (.slice A1 h.l c1) (.slice A2 h.a c2) (.slice A3 h.o c3))
                  have HAT := Lib.hid (HI.out.at_ (.int .i64 (h.i : Int)) (.slice A1 h.l c1) (.slice A2 h.a c2) (.slice A3 h.o c3))
                  clear yz
                  go_wp2_with fail
                  exact bodyPost_ret (v := .tuple #[.agg #[.int .i64 (h.i : Int), .slice A1 h.l c1, .slice A2 h.a c2, .slice A3 h.o c3], .bool true]) (outsU rfl rfl HR.out.1) rfl ⟨.inr ⟨h, p0, p1, p, A1, A2, A3, c1, c2, c3, HD1.out, HP1.out, HP.out, HPL.out, rfl, HAT.out, HR.out.2.1⟩, HR.out.2.2⟩
  · rw [if_neg hk0]
    have HBD : Hid (GuBad l 0) := Lib.hid (.inl ⟨by unfold hdU; rw [lnB_no (by rw [← HK.out]; omega)], rfl⟩)
    clear u0 u1 uz
    obtain ⟨⟨x0, x1, x2, x3⟩, xz⟩ := box4 HN2.out
    have xz0 := xz 0
    have xz1 := xz 1
    have xz2 := xz 2
    have xz3 := xz 3
    have hk := st4_only w1 b2 (.int .i64 0) (.slice none 0 0) (.slice none 0 0) (.slice none 0 0)
    have hne : ¬ bu = b2 := by have := HE.out; have := HBC.out; omega
    have HC5 : Hid (UpO _ bu _ l.length c 0) := Lib.hid (hk.heap HU1.out hne)
    have HOW5 := Lib.hid (HOW.out.then_ hk (fun i hi hs => by have := HE.out; omega))
    clear xz hk hne
    go_wp2_with fail
    exact bodyPost_ret (v := .tuple #[.agg #[.int .i64 0, .slice none 0 0, .slice none 0 0, .slice none 0 0], .bool false]) (outsU rfl rfl (st4_heap HN2.out _ _ _ _)) rfl ⟨.inl ⟨_, _, _, _, _, _, _, _, _, _, 0, HBD.out, rfl, HC5.out⟩, HOW5.out⟩
end Go.Proofs.YtngjbiipgbeemaaDoor
