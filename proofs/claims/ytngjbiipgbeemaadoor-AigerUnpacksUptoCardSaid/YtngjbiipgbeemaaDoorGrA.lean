/- aiger's (*cursor).graph, walked: the graph, or the line where it is wrong. Conditions: the text is shorter than 1000000000 bytes; internal/bytealg.MaxLen holds a number. -/
import Derived.Test.YtngjbiipgbeemaaDoorAgQ
import Derived.Lib.MinMax
namespace Go.Proofs.YtngjbiipgbeemaaDoor
open Go.RowKit Go.Shelf Go.Deep

def GrPost (n0 : Nat) (txt : List UInt8) (bc : Nat) (e : Ending) (w' : World) : Prop :=
  (∃ (i : Int) (A1 A2 A3 : Option Addr) (n1 n2 n3 c1 c2 c3 p : Nat) (rest : List UInt8), GrBad txt p ∧ e = .returned (.tuple #[.agg #[.int .i64 i, .slice A1 n1 c1, .slice A2 n2 c2, .slice A3 n3 c3], .bool false]) ∧ CurAt w' bc rest p) ∨
  (∃ h rest A1 A2 A3 c1 c2 c3, hd0 (linA txt []) = some h ∧ h.Upto (linA txt []) h.rows ∧ e = .returned (.tuple #[.agg #[.int .i64 (h.i : Int), .slice A1 h.l c1, .slice A2 h.a c2, .slice A3 h.o c3], .bool true]) ∧ (∀ W', Only (fun k => k < n0) w' W' → (h.graph (linA txt [])).At W' A1 A2 A3) ∧ CurAt w' bc rest (h.rows + 1) ∧ linA rest [] = (linA txt []).drop (h.rows + 1) ∧ tlA rest [] = tlA txt [] ∧ rest.length ≤ txt.length)
attribute [local go_sem] Oper.semAt_some in
theorem outsA {tmps : Array Value} {W : World} {b : Nat} {x0 x1 x2 x3 v : Value} (h2 : tmps[2]? = some (.pointer (some ⟨b, 0, none⟩))) (h3 : tmps[3]? = some v) (h : W.heap[b]? = some (.cells #[x0, x1, x2, x3] 28)) :
    (results Tryd.f21 tmps).run Tryd.prog W = .ok (.tuple #[.agg #[x0, x1, x2, x3], v]) W := by
  obtain ⟨⟨c0, c1, c2, c3⟩, _⟩ := box4 h
  simp [results, Tryd.f21, go_sem, h2, h3, c0, c1, c2, c3]
set_option maxHeartbeats 2000000 in
theorem most_any (i l o a : Nat) (w : World) (hb : i + l + a < 60000) : Calls Tryd.prog 39 #[.agg #[.int .i64 (i : Int), .int .i64 (l : Int), .int .i64 (o : Int), .int .i64 (a : Int)]] w fun e w' => e = .returned (.int .i64 ((2 * (1 + i + l + a) : Nat) : Int)) ∧ Below w.heap.size w w' := by
  go_enter Tryd.func39, Tryd.ntmps39
  go_wp2_with fail
  go_ret
  refine ⟨?_, (Below.refl _ _).alloc (Nat.le_refl _) _⟩
  refine congrArg (fun x => Ending.returned (.int .i64 x)) ?_
  omega
theorem elLt : Elem Tryd.prog 24 47 2 16 := elem_mk Tryd.underlying24 (show (Tryd.prog.info? 47).map (fun i => (i.zero, i.size, i.bytes)) = some (some (.agg #[.int .i64 0, .bool false]), 2, 16) by kernel_rfl) rfl (by omega) (by omega)
theorem elPr : Elem Tryd.prog 25 48 2 16 := elem_mk Tryd.underlying25 (show (Tryd.prog.info? 48).map (fun i => (i.zero, i.size, i.bytes)) = some (some (.agg #[.int .i64 0, .int .i64 0]), 2, 16) by kernel_rfl) rfl (by omega) (by omega)

set_option maxRecDepth 100000 in
set_option maxHeartbeats 40000000 in
theorem graph_any (txt : List UInt8) (bc : Nat) (w : World) (hc : CurAt w bc txt 0) (hm : MaxT w) (hl : txt.length ≤ 1000000000) :
    Calls Tryd.prog 21 #[.pointer (some ⟨bc, 0, none⟩)] w fun e w' => GrPost w.heap.size txt bc e w' ∧ Only (fun k => k = bc) w w' := by
  have H1 := Lib.hid (hc.no1 hm)
  have HLEN := Lib.hid hl
  have HBC := Lib.hid (Array.getElem?_eq_some_iff.1 (show w.heap[bc]? = _ from hc)).1
  have HONE : Hid (1 < w.heap.size) := Lib.hid (by obtain ⟨m, hm⟩ := hm; exact World.block_lt_of_cell? w _ hm)
  have hk1 : ((w.alloc (.cells #[.pointer (some ⟨bc, 0, none⟩)] 53)).alloc (.cells #[.int .i64 0, .slice none 0 0, .slice none 0 0, .slice none 0 0] 28)).heap[w.heap.size]? = some (.cells #[.pointer (some ⟨bc, 0, none⟩)] 53) := (Below.heap_alloc _ _ _ (by simp)).trans (heap_alloc_new w _)
  have hk2 : ((w.alloc (.cells #[.pointer (some ⟨bc, 0, none⟩)] 53)).alloc (.cells #[.int .i64 0, .slice none 0 0, .slice none 0 0, .slice none 0 0] 28)).heap[w.heap.size + 1]? = some (.cells #[.int .i64 0, .slice none 0 0, .slice none 0 0, .slice none 0 0] 28) := by
    have h := heap_alloc_new (w.alloc (.cells #[.pointer (some ⟨bc, 0, none⟩)] 53)) (.cells #[.int .i64 0, .slice none 0 0, .slice none 0 0, .slice none 0 0] 28)
    rw [World.size_alloc] at h
    exact h
  have hw0 : Below w.heap.size w ((w.alloc (.cells #[.pointer (some ⟨bc, 0, none⟩)] 53)).alloc (.cells #[.int .i64 0, .slice none 0 0, .slice none 0 0, .slice none 0 0] 28)) := ((Below.refl _ _).alloc (Nat.le_refl _) _).alloc (by simp) _
  have hz0 : ((w.alloc (.cells #[.pointer (some ⟨bc, 0, none⟩)] 53)).alloc (.cells #[.int .i64 0, .slice none 0 0, .slice none 0 0, .slice none 0 0] 28)).heap.size = w.heap.size + 2 := by simp
  have hc2 : CurAt ((w.alloc (.cells #[.pointer (some ⟨bc, 0, none⟩)] 53)).alloc (.cells #[.int .i64 0, .slice none 0 0, .slice none 0 0, .slice none 0 0] 28)) bc txt 0 := heap_below hw0 hc
  have hm2 := hm.below hw0
  clear hc hm
  go_enter Tryd.func21, Tryd.ntmps21
  go_upto_region 1 with (fail)
  generalize ((w.alloc (.cells #[.pointer (some ⟨bc, 0, none⟩)] 53)).alloc (.cells #[.int .i64 0, .slice none 0 0, .slice none 0 0, .slice none 0 0] 28)) = wa at *
  obtain ⟨b2, hb2⟩ : ∃ b, b = w.heap.size + 1 := ⟨_, rfl⟩
  rw [← hb2] at hk2 ⊢
  obtain ⟨b1, hb1⟩ : ∃ b, b = w.heap.size := ⟨_, rfl⟩
  rw [← hb1] at hk1 ⊢
  have HE : Hid (b1 = w.heap.size ∧ b2 = b1 + 1 ∧ wa.heap.size = b2 + 1) := Lib.hid ⟨hb1, by omega, by omega⟩
  have hp1 := (box1 hk1).1
  have hli := line_any bc 0 txt wa hc2 hm2 hl (by omega)
  have HK1 := Lib.hid hk1; have HK2 := Lib.hid hk2; have HW0 := Lib.hid hw0; have HM2 := Lib.hid hm2; have HC2 := Lib.hid hc2
  clear hb1 hb2 hk1 hk2 hw0 hz0 hc2 hm2
  go_wp2_with fail
  refine hli.mono ?_
  rintro e w1 ⟨h, hO1⟩
  have HO1 := Lib.hid hO1
  have HN1 : Hid (w1.heap[b1]? = some (.cells #[.pointer (some ⟨bc, 0, none⟩)] 53)) := Lib.hid (hO1.heap HK1.out (ne_type HK1.out HC2.out (by decide)))
  have HN2 : Hid (w1.heap[b2]? = some (.cells #[.int .i64 0, .slice none 0 0, .slice none 0 0, .slice none 0 0] 28)) := Lib.hid (hO1.heap HK2.out (ne_type HK2.out HC2.out (by decide)))
  have HM1 : Hid (MaxT w1) := Lib.hid (HM2.out.only hO1 (fun e => H1.out e.symm))
  have HOW : Hid (Only (fun k => k = bc) w w1) := Lib.hid (((Only.refl (fun k => k = bc) w).call HW0.out).then_ hO1 (fun _ _ h => h))
  have HZ1 := Lib.hid hO1.size
  clear hli hO1 hp1 HK1 HK2 HC2 HM2
  rcases h with ⟨e1, e2, rfl, hc2⟩ | ⟨l1, l2, hE, e1, e2, rfl, hc2⟩
  · have HBD : Hid (GrBad txt 1) := Lib.hid (.inl ⟨by rw [e1]; rfl, rfl⟩)
    have HC2 := Lib.hid hc2
    have hhd := header_any [97, 97, 103] [] w1 HM1.out (by simp) (by simp)
    rw [show bstr [] = ⟨#[]⟩ from rfl, show bstr [97, 97, 103] = ⟨#[97, 97, 103]⟩ from rfl] at hhd
    have hnn : hdrB [97, 97, 103] [] = none := rfl
    rw [hnn] at hhd
    clear e1 e2 hc2
    go_wp2_with fail
    refine hhd.mono ?_
    rintro e w2 ⟨rfl, hb2⟩
    clear hhd hnn
    simp only [szV, Option.isSome_none]
    have HN3 : Hid (w2.heap[b2]? = some (.cells #[.int .i64 0, .slice none 0 0, .slice none 0 0, .slice none 0 0] 28)) := Lib.hid (heap_below hb2 HN2.out)
    have HC3 : Hid (CurAt w2 bc txt 1) := Lib.hid (heap_below hb2 HC2.out)
    have HOW3 := Lib.hid (HOW.out.call hb2)
    clear hb2
    go_upto_region 3 with (fail)
    have hb4 := (Below.refl w2.heap.size w2).alloc (Nat.le_refl _) (.cells #[.int .i64 0, .int .i64 0, .int .i64 0, .int .i64 0] 87)
    have HN4 : Hid ((w2.alloc (.cells #[.int .i64 0, .int .i64 0, .int .i64 0, .int .i64 0] 87)).heap[b2]? = some (.cells #[.int .i64 0, .slice none 0 0, .slice none 0 0, .slice none 0 0] 28)) := Lib.hid (heap_below hb4 HN3.out)
    have HC4 : Hid (CurAt (w2.alloc (.cells #[.int .i64 0, .int .i64 0, .int .i64 0, .int .i64 0] 87)) bc txt 1) := Lib.hid (heap_below hb4 HC3.out)
    have HOW4 := Lib.hid (HOW3.out.call hb4)
    clear hb4
    generalize w2.alloc (.cells #[.int .i64 0, .int .i64 0, .int .i64 0, .int .i64 0] 87) = w3 at *
    obtain ⟨⟨x0, x1, x2, x3⟩, xz⟩ := box4 HN4.out
    have xz0 := xz 0
    have xz1 := xz 1
    have xz2 := xz 2
    have xz3 := xz 3
    have hk := st4_only w3 b2 (.int .i64 0) (.slice none 0 0) (.slice none 0 0) (.slice none 0 0)
    have hne : ¬ bc = b2 := by have := HE.out; have := HBC.out; omega
    have HC5 := Lib.hid (hk.heap HC4.out hne)
    have HOW5 := Lib.hid (HOW4.out.then_ hk (fun i hi hs => by have := HE.out; omega))
    clear xz hk hne
    go_wp2_with fail
    exact bodyPost_ret (v := .tuple #[.agg #[.int .i64 0, .slice none 0 0, .slice none 0 0, .slice none 0 0], .bool false]) (outsA rfl rfl (st4_heap HN4.out _ _ _ _)) rfl ⟨.inl ⟨_, _, _, _, _, _, _, _, _, _, 1, _, HBD.out, rfl, HC5.out⟩, HOW5.out⟩
  · have HL := Lib.hid (And.intro e1 e2)
    have hl1 : l1.length ≤ txt.length ∧ l2.length ≤ txt.length := by rw [hE]; simp only [List.length_append, List.length_cons]; omega
    have HL2 := Lib.hid hl1.2
    have HC2 := Lib.hid hc2
    have hhd := header_any [97, 97, 103] l1 w1 HM1.out (by omega) (by simp)
    rw [show bstr [97, 97, 103] = ⟨#[97, 97, 103]⟩ from rfl] at hhd
    obtain ⟨s1, hs1⟩ : ∃ s, s = bstr l1 := ⟨_, rfl⟩
    rw [← hs1] at hhd ⊢
    obtain ⟨Q, hQ⟩ : ∃ Q, Q = hdrB [97, 97, 103] l1 := ⟨_, rfl⟩
    rw [← hQ] at hhd
    have HD0 : Hid (hd0 (linA txt []) = Q) := Lib.hid (by rw [e1, hQ]; rfl)
    have HFIT : Hid (∀ h, Q = some h → h.i + h.l + h.a < 60000 ∧ h.l ≤ 6000 ∧ h.o ≤ 60000) := Lib.hid (fun h e => hdr_fits (by rw [← hQ]; exact e))
    clear e1 e2 hc2 hs1 hQ hE hl1
    cases Q with
    | none =>
      have HBD : Hid (GrBad txt 1) := Lib.hid (.inl ⟨HD0.out, rfl⟩)
      go_wp2_with fail
      refine hhd.mono ?_
      rintro e w2 ⟨rfl, hb2⟩
      clear hhd
      simp only [szV, Option.isSome_none]
      have HN3 : Hid (w2.heap[b2]? = some (.cells #[.int .i64 0, .slice none 0 0, .slice none 0 0, .slice none 0 0] 28)) := Lib.hid (heap_below hb2 HN2.out)
      have HC3 : Hid (CurAt w2 bc l2 1) := Lib.hid (heap_below hb2 HC2.out)
      have HOW3 := Lib.hid (HOW.out.call hb2)
      clear hb2
      go_upto_region 3 with (fail)
      have hb4 := (Below.refl w2.heap.size w2).alloc (Nat.le_refl _) (.cells #[.int .i64 0, .int .i64 0, .int .i64 0, .int .i64 0] 87)
      have HN4 : Hid ((w2.alloc (.cells #[.int .i64 0, .int .i64 0, .int .i64 0, .int .i64 0] 87)).heap[b2]? = some (.cells #[.int .i64 0, .slice none 0 0, .slice none 0 0, .slice none 0 0] 28)) := Lib.hid (heap_below hb4 HN3.out)
      have HC4 : Hid (CurAt (w2.alloc (.cells #[.int .i64 0, .int .i64 0, .int .i64 0, .int .i64 0] 87)) bc l2 1) := Lib.hid (heap_below hb4 HC3.out)
      have HOW4 := Lib.hid (HOW3.out.call hb4)
      clear hb4
      generalize w2.alloc (.cells #[.int .i64 0, .int .i64 0, .int .i64 0, .int .i64 0] 87) = w3 at *
      obtain ⟨⟨x0, x1, x2, x3⟩, xz⟩ := box4 HN4.out
      have xz0 := xz 0
      have xz1 := xz 1
      have xz2 := xz 2
      have xz3 := xz 3
      have hk := st4_only w3 b2 (.int .i64 0) (.slice none 0 0) (.slice none 0 0) (.slice none 0 0)
      have hne : ¬ bc = b2 := by have := HE.out; have := HBC.out; omega
      have HC5 := Lib.hid (hk.heap HC4.out hne)
      have HOW5 := Lib.hid (HOW4.out.then_ hk (fun i hi hs => by have := HE.out; omega))
      clear xz hk hne
      go_wp2_with fail
      exact bodyPost_ret (v := .tuple #[.agg #[.int .i64 0, .slice none 0 0, .slice none 0 0, .slice none 0 0], .bool false]) (outsA rfl rfl (st4_heap HN4.out _ _ _ _)) rfl ⟨.inl ⟨_, _, _, _, _, _, _, _, _, _, 1, _, HBD.out, rfl, HC5.out⟩, HOW5.out⟩
    | some h =>
      obtain ⟨hf1, hf2, hf3⟩ := HFIT.out h rfl
      simp only [szV, Option.isSome_some] at *
      clear HFIT
      go_wp2_with fail
      refine hhd.mono ?_
      rintro e w2 ⟨rfl, hb2⟩
      have HN3 : Hid (w2.heap[b2]? = some (.cells #[.int .i64 0, .slice none 0 0, .slice none 0 0, .slice none 0 0] 28)) := Lib.hid (heap_below hb2 HN2.out)
      have HN31 : Hid (w2.heap[b1]? = some (.cells #[.pointer (some ⟨bc, 0, none⟩)] 53)) := Lib.hid (heap_below hb2 HN1.out)
      have HC3 : Hid (CurAt w2 bc l2 1) := Lib.hid (heap_below hb2 HC2.out)
      have HOW3 := Lib.hid (HOW.out.call hb2)
      have HM3 : Hid (MaxT w2) := Lib.hid (HM1.out.below hb2)
      have HZ3 : Hid (b2 < w2.heap.size) := Lib.hid (by have := hb2.size; have := HZ1.out; have := HE.out; omega)
      clear hb2 hhd HN1 HN2 HC2 HOW HM1 HZ1
      go_upto_region 8 with (fail)
      have b6' := (Below.refl w2.heap.size w2).alloc (Nat.le_refl _) (.cells #[.int .i64 (h.i : Int), .int .i64 (h.l : Int), .int .i64 (h.o : Int), .int .i64 (h.a : Int)] 87)
      have k6 := heap_alloc_new w2 (.cells #[.int .i64 (h.i : Int), .int .i64 (h.l : Int), .int .i64 (h.o : Int), .int .i64 (h.a : Int)] 87)
      have z6 : (w2.alloc (.cells #[.int .i64 (h.i : Int), .int .i64 (h.l : Int), .int .i64 (h.o : Int), .int .i64 (h.a : Int)] 87)).heap.size = w2.heap.size + 1 := by simp
      generalize w2.alloc (.cells #[.int .i64 (h.i : Int), .int .i64 (h.l : Int), .int .i64 (h.o : Int), .int .i64 (h.a : Int)] 87) = w6 at *
      have b8' := (Below.refl w6.heap.size w6).alloc (Nat.le_refl _) (.cells #[.int .i64 (h.i : Int), .slice none 0 0, .slice none 0 0, .slice none 0 0] 28)
      have k8 := heap_alloc_new w6 (.cells #[.int .i64 (h.i : Int), .slice none 0 0, .slice none 0 0, .slice none 0 0] 28)
      have z8 : (w6.alloc (.cells #[.int .i64 (h.i : Int), .slice none 0 0, .slice none 0 0, .slice none 0 0] 28)).heap.size = w6.heap.size + 1 := by simp
      generalize w6.alloc (.cells #[.int .i64 (h.i : Int), .slice none 0 0, .slice none 0 0, .slice none 0 0] 28) = w8 at *
      have b9' := (Below.refl w8.heap.size w8).alloc (Nat.le_refl _) (.cells #[.int .i64 0] 3)
      have k9 := heap_alloc_new w8 (.cells #[.int .i64 0] 3)
      have z9 : (w8.alloc (.cells #[.int .i64 0] 3)).heap.size = w8.heap.size + 1 := by simp
      generalize w8.alloc (.cells #[.int .i64 0] 3) = w9 at *
      rw [z6] at k8
      rw [z8, z6] at k9
      have hb29 : Below w2.heap.size w2 w9 := b6'.trans ((b8'.mono (by omega)).trans (b9'.mono (by omega)))
      obtain ⟨z, hz⟩ : ∃ z, z = w9.heap.size := ⟨_, rfl⟩
      obtain ⟨b6, hb6⟩ : ∃ b, b = w2.heap.size := ⟨_, rfl⟩
      obtain ⟨b8, hb8⟩ : ∃ b, b = w2.heap.size + 1 := ⟨_, rfl⟩
      obtain ⟨b9, hb9⟩ : ∃ b, b = w2.heap.size + 1 + 1 := ⟨_, rfl⟩
      rw [← hb9, ← hb8, ← hb6]
      have HG0 : Hid (GrI w txt h bc b1 b2 b6 b8 b9 z 0 0 l2 none none none 0 0 0 0 0 0 w9) := Lib.hid
        ⟨heap_below hb29 HC3.out, by rw [HL.out.1]; rfl, HL.out.2.symm, HL2.out, ⟨heap_below hb29 HN31.out, by rw [hb9]; exact k9⟩, by rw [hb6]; exact heap_below b9' (heap_below b8' k6), by rw [hb8]; exact heap_below b9' k8, heap_below hb29 HN3.out, World.ownsRow_nil _ _ _ _, World.ownsRow_nil _ _ _ _, World.ownsRow_nil _ _ _ _, HOW3.out.call hb29, HM3.out.below hb29, by omega,
          by have h1 := HE.out; have h2 := HBC.out; have h3 := HONE.out; have h4 := HZ3.out; omega⟩
      obtain ⟨M, hM⟩ : ∃ M, M = 2 * (1 + h.i + h.l + h.a) := ⟨_, rfl⟩
      have HMM : Hid (h.most = M) := Lib.hid hM.symm
      have hMl : M ≤ 200000 := by omega
      have HMST : Hid (∀ W : World, Calls Tryd.prog 39 #[.agg #[.int .i64 (h.i : Int), .int .i64 (h.l : Int), .int .i64 (h.o : Int), .int .i64 (h.a : Int)]] W fun e w' => e = .returned (.int .i64 (M : Int)) ∧ Below W.heap.size W w') := Lib.hid (fun W => by rw [hM]; exact most_any h.i h.l h.o h.a W (by omega))
      clear hM hz hb6 hb8 hb9 b6' b8' b9' k6 k8 k9 z6 z8 z9 hb29 HN3 HN31 HC3 HOW3 HM3 HZ3 HL HL2 hl
      obtain ⟨⟨s0, s1, s2, s3⟩, _⟩ := box4 HG0.out.sz
      go_wp2_with fail
      clear s0 s1 s2 s3
      go_loopw [37] (fun vk wr => ∃ (k : Nat) (rest : List UInt8), k ≤ h.i ∧ vk = .int .i64 k ∧ Hid (h.Upto (linA txt []) (k)) ∧ Hid (GrI w txt h bc b1 b2 b6 b8 b9 z (k) (2 * k) rest none none none 0 0 0 0 0 0 wr)) (fun vk _ => h.i - (intOf vk).toNat)
      case atStart => exact ⟨0, l2, by omega, rfl, Lib.hid (fun s hs => absurd hs (Nat.not_lt_zero _)), HG0⟩
      case round =>
        obtain ⟨k, rest, hkl, rfl, HU, HG⟩ := hrel
        obtain ⟨wq, hwq⟩ : ∃ wq, wq = wr := ⟨_, rfl⟩
        subst hwq
        by_cases hlt : k < h.i
        · have hs := HG.out.sz
          obtain ⟨⟨s0, s1, s2, s3⟩, _⟩ := box4 hs
          clear hs
          have hrow := row_any 1 1 true b1 b9 bc (k + 1) (2 * k) rest wq HG.out.rb HG.out.cur HG.out.mx (by have := HG.out.len; have := HLEN.out; omega) (by omega) (by omega)
          rw [show ((1 : Nat) : Int) = 1 from rfl] at hrow
          go_wp2_with fail
          refine hrow.mono ?_
          rintro e w3 ⟨⟨v, rest', rfl, hv, hcv, hok⟩, hO3⟩
          rw [HG.out.lin] at hv hok
          obtain ⟨Q, hQ⟩ : ∃ Q, Q = rowQ ((linA txt []).drop (k + 1)) 1 1 true (2 * k) := ⟨_, rfl⟩
          rw [← hQ] at hv hok
          clear hrow
          cases Q with
          | none =>
            clear s0 s1 s2 s3
            obtain rfl : v = .slice none 0 0 := hv
            have HBD : Hid (GrBad txt (k + 2)) := Lib.hid (.inr ⟨h, HD0.out, k, by unfold Hd.rows; omega, HU.out, in_no hlt hQ.symm, rfl⟩)
            have HF := HG.out.fail hO3
            have HX8 := Lib.hid HF.1
            have HX2 := Lib.hid HF.2.1
            have HOV := Lib.hid HF.2.2
            have HCV : Hid (CurAt w3 bc rest' (k + 2)) := Lib.hid hcv
            clear HF hQ hok hcv hO3
            obtain ⟨⟨x0, x1, x2, x3⟩, _⟩ := box4 HX8.out
            obtain ⟨⟨y0, y1, y2, y3⟩, yz⟩ := box4 HX2.out
            have yz0 := yz 0
            have yz1 := yz 1
            have yz2 := yz 2
            have yz3 := yz 3
            have hk := st4_only w3 b2 (.int .i64 (h.i : Int)) (.slice none 0 0) (.slice none 0 0) (.slice none 0 0)
            have hne : ¬ bc = b2 := by have := HE.out; have := HBC.out; omega
            have HC5 := Lib.hid (hk.heap HCV.out hne)
            have HOW5 := Lib.hid (HOV.out.then_ hk (fun i hi hs => by have := HE.out; omega))
            clear yz hk hne
            go_wp2_with fail
            exact bodyPost_ret (v := .tuple #[.agg #[.int .i64 (h.i : Int), .slice none 0 0, .slice none 0 0, .slice none 0 0], .bool false]) (outsA rfl rfl (st4_heap HX2.out _ _ _ _)) rfl ⟨.inl ⟨_, _, _, _, _, _, _, _, _, _, _, _, HBD.out, rfl, HC5.out⟩, HOW5.out⟩
          | some ns =>
            obtain ⟨bN, oN, cN, rfl, hbN, hx⟩ := hv
            have hrk : h.rowOk (linA txt []) k := in_yes hlt hQ.symm
            obtain ⟨hk1, hk2, hk3, hk4⟩ := hok ns rfl
            have HG2 := Lib.hid (HG.out.row (own' := 2 * (k + 1)) hO3 hcv (by rw [HG.out.lin]; exact hk1) hk2 hk3 (by rw [show 2 * (k + 1) = 2 * k + 2 by omega]; simpa using hk4))
            have HU2 := Lib.hid (HU.out.next hrk)
            clear hk1 hk2 hk3 hk4 hQ hok hcv hO3 hx hbN hrk s0 s1 s2 s3
            go_wp2_with fail
            exact ⟨⟨k + 1, rest', by omega, by simp, HU2, HG2⟩, by simp [intOf]; omega⟩
        · obtain rfl : h.i = k := by omega
          obtain ⟨⟨s0, s1, s2, s3⟩, _⟩ := box4 HG.out.sz
          go_wp2_with fail
          clear s0 s1 s2 s3
          go_loopw [46] (fun vk wr => ∃ (k : Nat) (rest : List UInt8) (A1 : Option Addr) (c1 : Nat), k ≤ h.l ∧ vk = .int .i64 k ∧ Hid (h.Upto (linA txt []) (h.i + k)) ∧ Hid (GrI w txt h bc b1 b2 b6 b8 b9 z (h.i + k) (2 * (h.i + k)) rest A1 none none c1 0 0 k 0 0 wr)) (fun vk _ => h.l - (intOf vk).toNat)
          case atStart => exact ⟨0, rest, none, 0, by omega, rfl, HU, HG⟩
          case round =>
            obtain ⟨k, rest, A1, c1, hkl, rfl, HU, HG⟩ := hrel
            obtain ⟨wq, hwq⟩ : ∃ wq, wq = wr := ⟨_, rfl⟩
            subst hwq
            by_cases hlt : k < h.l
            · have hrow := row_any 2 3 true b1 b9 bc ((h.i + k) + 1) (2 * (h.i + k)) rest wq HG.out.rb HG.out.cur HG.out.mx (by have := HG.out.len; have := HLEN.out; omega) (by omega) (by omega)
              rw [show ((2 : Nat) : Int) = 2 from rfl, show ((3 : Nat) : Int) = 3 from rfl] at hrow
              go_wp2_with fail
              refine hrow.mono ?_
              rintro e w3 ⟨⟨v, rest', rfl, hv, hcv, hok⟩, hO3⟩
              rw [HG.out.lin] at hv hok
              obtain ⟨Q, hQ⟩ : ∃ Q, Q = rowQ ((linA txt []).drop ((h.i + k) + 1)) 2 3 true (2 * (h.i + k)) := ⟨_, rfl⟩
              rw [← hQ] at hv hok
              clear hrow
              cases Q with
              | none =>
                obtain rfl : v = .slice none 0 0 := hv
                have HBD : Hid (GrBad txt (h.i + k + 2)) := Lib.hid (.inr ⟨h, HD0.out, h.i + k, by unfold Hd.rows; omega, HU.out, la_no (by omega) (by omega) hQ.symm, rfl⟩)
                have HF := HG.out.fail hO3
                have HX8 := Lib.hid HF.1
                have HX2 := Lib.hid HF.2.1
                have HOV := Lib.hid HF.2.2
                have HCV : Hid (CurAt w3 bc rest' (h.i + k + 2)) := Lib.hid hcv
                clear HF hQ hok hcv hO3
                go_upto_region 16 with (fail)
                refine wp_region_z (fun w' => True) [0, 1, 2, 3, 4, 5, 6, 7, 8, 9, 10, 11, 12, 13, 14, 15, 16, 17, 18, 19, 20] [] (by kernel_rfl) (by kernel_rfl) (by kernel_rfl) (by rfl) (fun _ _ _ _ e h => ⟨e.symm.trans h.1, h.2⟩) trivial ?_
                iterate 3
                  refine Heads.step (v := ?_) rfl (by first | (go_simp; done) | rfl) (fun W hW => ?_) ?_
                  rotate_left
                  · (go_simp; try with_reducible rfl)
                iterate 6
                  refine Heads.skip rfl (by first | (go_simp; done) | rfl) ?_
                iterate 2
                  refine Heads.step (v := ?_) rfl (by first | (go_simp; done) | rfl) (fun W hW => ?_) ?_
                  rotate_left
                  · (go_simp; try with_reducible rfl)
                iterate 4
                  refine Heads.skip rfl (by first | (go_simp; done) | rfl) ?_
                refine Heads.skipU (j := 14) (want := true) rfl rfl (by go_simp) ?_
                refine Heads.skipU (j := 14) (want := true) rfl rfl (by go_simp) ?_
                refine Heads.skipU (j := 14) (want := true) rfl rfl (by go_simp) ?_
                refine Heads.skipU (j := 14) (want := true) rfl rfl (by go_simp) ?_
                iterate 1
                  refine Heads.skip rfl (by first | (go_simp; done) | rfl) ?_
                iterate 1
                  refine Heads.step (v := ?_) rfl (by first | (go_simp; done) | rfl) (fun W hW => ?_) ?_
                  rotate_left
                  · (go_simp; try with_reducible rfl)
                refine AnyZ.done (by kernel_rfl) ?_
                go_simp
                replace HX8 : Hid (w3.drew.heap[b8]? = _) := HX8
                replace HX2 : Hid (w3.drew.heap[b2]? = _) := HX2
                replace HOV := Lib.hid HOV.out.drew
                replace HCV : Hid (CurAt w3.drew bc rest' _) := HCV
                generalize w3.drew = wv at *
                obtain ⟨⟨x0, x1, x2, x3⟩, _⟩ := box4 HX8.out
                obtain ⟨⟨y0, y1, y2, y3⟩, yz⟩ := box4 HX2.out
                have yz0 := yz 0
                have yz1 := yz 1
                have yz2 := yz 2
                have yz3 := yz 3
                have hk := st4_only wv b2 (.int .i64 (h.i : Int)) (.slice A1 k c1) (.slice none 0 0) (.slice none 0 0)
                have hne : ¬ bc = b2 := by have := HE.out; have := HBC.out; omega
                have HC5 := Lib.hid (hk.heap HCV.out hne)
                have HOW5 := Lib.hid (HOV.out.then_ hk (fun i hi hs => by have := HE.out; omega))
                clear yz hk hne
                go_wp2_with fail
                exact bodyPost_ret (v := .tuple #[.agg #[.int .i64 (h.i : Int), .slice A1 k c1, .slice none 0 0, .slice none 0 0], .bool false]) (outsA rfl rfl (st4_heap HX2.out _ _ _ _)) rfl ⟨.inl ⟨_, _, _, _, _, _, _, _, _, _, _, _, HBD.out, rfl, HC5.out⟩, HOW5.out⟩
              | some ns =>
                obtain ⟨bN, oN, cN, rfl, hbN, hx⟩ := hv
                obtain ⟨hk1, hk2, hk3, hk4⟩ := hok ns rfl
                have HG2 := Lib.hid (HG.out.row (own' := 2 * (h.i + (k + 1))) hO3 hcv (by rw [HG.out.lin]; exact hk1) hk2 hk3 (by rw [show 2 * (h.i + (k + 1)) = 2 * (h.i + k) + 2 by omega]; simpa using hk4))
                clear hk1 hk2 hk3 hk4 hok hcv hO3
                obtain ⟨_, hl2, hl3, _⟩ := rowQ_yes hQ.symm
                match ns, hl2, hl3 with
                | [p, q], _, _ =>
                  have x1 : w3.cell? ⟨bN, oN + 1, none⟩ = some (.int .i64 (q : Nat)) := hx 1 (by simp)
                  obtain ⟨⟨s0, s1, s2, s3⟩, _⟩ := box4 HG2.out.sz
                  have hmc := HMM.out
                  clear hx
                  go_upto_region 16 with (fail)
                  by_cases hm : q < M
                  · have q1 : ¬ (M : Int) ≤ (q : Int) := by omega
                    refine wp_region_z (fun w' => w'.cell? ⟨bN, oN + 1, none⟩ = some (.int .i64 (q : Nat)) ∧ w'.cell? ⟨b6, 0, none⟩ = some (.int .i64 (h.i : Int)) ∧ w'.cell? ⟨b6, 1, none⟩ = some (.int .i64 (h.l : Int)) ∧ w'.cell? ⟨b6, 2, none⟩ = some (.int .i64 (h.o : Int)) ∧ w'.cell? ⟨b6, 3, none⟩ = some (.int .i64 (h.a : Int))) [0, 1, 2, 3, 4, 5, 6] [] (by kernel_rfl) (by kernel_rfl) (by kernel_rfl) (by rfl) (fun _ _ _ _ e h => ⟨e.symm.trans h.1, h.2⟩) ⟨x1, s0, s1, s2, s3⟩ ?_
                    iterate 7
                      refine Heads.step (v := ?_) rfl (by first | (go_simp; done) | rfl) (fun W hW => ?_) ?_
                      rotate_left
                      · (obtain ⟨t0, t1, t2, t3, t4⟩ := hW; go_simp; try with_reducible rfl)
                    refine AnyZ.one (i := 7) (by kernel_rfl) rfl (fun K hK => ?_)
                    go_simp
                    refine (HMST.out w3.drew).mono ?_
                    rintro e w4 ⟨rfl, hb4⟩
                    have hb4' : Below w3.heap.size w3 w4 := ((Below.refl _ w3).drew).trans hb4
                    have kp := Keeps.of_below hb4'
                    replace x1 := kp _ _ x1
                    replace s0 := kp _ _ s0
                    replace s1 := kp _ _ s1
                    replace s2 := kp _ _ s2
                    replace s3 := kp _ _ s3
                    refine hK _ _ (fun _ => ⟨x1, s0, s1, s2, s3⟩) ?_
                    clear hK
                    have HG4 := Lib.hid (HG2.out.below hb4')
                    have HX4 : Hid (∀ b o x, w3.cell? ⟨b, o, none⟩ = some x → w4.cell? ⟨b, o, none⟩ = some x) := Lib.hid (fun b o x hx => kp _ _ hx)
                    clear kp hb4 hb4'
                    refine AnyZ.mid [8, 9, 10, 11, 12, 13, 14, 15, 16, 17, 18, 19, 20] [] 0 rfl (by kernel_rfl) (by kernel_rfl) (by kernel_rfl) (fun _ _ _ _ e h => ⟨e.symm.trans h.1, h.2⟩) ⟨x1, s0, s1, s2, s3⟩ ?_
                    iterate 3
                      refine Heads.step (v := ?_) rfl (by first | (go_simp; done) | rfl) (fun W hW => ?_) ?_
                      rotate_left
                      · (obtain ⟨t0, t1, t2, t3, t4⟩ := hW; go_simp; try with_reducible rfl)
                    iterate 4
                      refine Heads.step (v := ?_) rfl (by first | (go_simp; done) | rfl) (fun W hW => ?_) ?_
                      rotate_left
                      · (obtain ⟨t0, t1, t2, t3, t4⟩ := hW; go_simp; try with_reducible rfl)
                    iterate 4
                      refine Heads.skip rfl (by first | (go_simp; done) | rfl) ?_
                    iterate 1
                      refine Heads.step (v := ?_) rfl (by first | (go_simp; done) | rfl) (fun W hW => ?_) ?_
                      rotate_left
                      · (obtain ⟨t0, t1, t2, t3, t4⟩ := hW; go_simp; try with_reducible rfl)
                    iterate 1
                      refine Heads.step (v := ?_) rfl (by first | (go_simp; done) | rfl) (fun W hW => ?_) ?_
                      rotate_left
                      · (obtain ⟨t0, t1, t2, t3, t4⟩ := hW; go_simp; try with_reducible rfl)
                    refine AnyZ.done (by kernel_rfl) ?_
                    go_simp
                    have HVL : Hid ((h.graph (linA txt [])).L k = (q : Int) ∧ (h.graph (linA txt [])).I k = false) := Lib.hid (by
                      have e := (rowQ_yes hQ.symm).1
                      refine ⟨by show ((numR (linA txt []) (h.i + k) 1 : Nat) : Int) = _; unfold numR; rw [e]; rfl, ?_⟩
                      show decide (((rowN (linA txt []) (h.i + k)).getD []).length = 3 ∧ numR (linA txt []) (h.i + k) 2 = 1) = _
                      unfold numR
                      rw [e]
                      simp)
                    have HU2 := Lib.hid (HU.out.next (la_yes (t := h.i + k) (by omega) (by omega) hQ.symm (by rw [hmc]; exact hm) (by simp)))
                    obtain ⟨_, g1, _, _⟩ := (box4 HG4.out.g).1
                    clear s0 s1 s2 s3 hm hQ
                    go_upto_region 18 with (fail)
                    refine wp_region_z (fun w' => w'.cell? ⟨b8, 1, none⟩ = some (.slice A1 k c1) ∧ w'.cell? ⟨bN, oN + 1, none⟩ = some (.int .i64 (q : Nat))) [0, 1, 2, 3, 4, 5, 6, 7, 8, 9, 10, 11, 12, 13, 14] [18] (by kernel_rfl) (by kernel_rfl) (by kernel_rfl) (by rfl) (fun _ _ _ _ e h => ⟨e.symm.trans h.1, h.2⟩) ⟨g1, x1⟩ ?_
                    iterate 9
                      refine Heads.step (v := ?_) rfl (by first | (go_simp; done) | rfl) (fun W hW => ?_) ?_
                      rotate_left
                      · (obtain ⟨t0, t1⟩ := hW; go_simp; try with_reducible rfl)
                    iterate 4
                      refine Heads.skip rfl (by first | (go_simp; done) | rfl) ?_
                    iterate 2
                      refine Heads.step (v := ?_) rfl (by first | (go_simp; done) | rfl) (fun W hW => ?_) ?_
                      rotate_left
                      · (obtain ⟨t0, t1⟩ := hW; go_simp; try with_reducible rfl)
                    have hbl0 : Below w4.heap.size w4 w4.drew := (Below.refl _ w4).drew
                    have kp := Keeps.of_below hbl0
                    replace g1 := kp _ _ g1
                    replace x1 := kp _ _ x1
                    replace HG4 := Lib.hid (HG4.out.below hbl0)
                    clear hbl0 kp
                    generalize w4.drew = wd at *
                    refine AnyZ.one (i := 15) (by kernel_rfl) rfl (fun K hK => ?_)
                    go_simp
                    have hbl : Below wd.heap.size wd (wd.alloc (.cells #[.int .i64 (q : Nat), .bool false] 47)) := (Below.refl _ _).alloc (Nat.le_refl _) _
                    obtain ⟨_, _, hsc⟩ := src_news wd #[.int .i64 (q : Nat), .bool false] 47 2 1 rfl (by intro u hu; simp at hu; rcases hu with rfl | rfl <;> rfl)
                    obtain ⟨ad, hae, hsc⟩ := hsc (by omega)
                    injection hae with hae; subst hae
                    have kp := Keeps.of_below hbl
                    replace g1 := kp _ _ g1
                    replace x1 := kp _ _ x1
                    have HG5 := Lib.hid (HG4.out.below hbl)
                    clear hbl kp
                    generalize wd.alloc (.cells #[.int .i64 (q : Nat), .bool false] 47) = w5 at *
                    refine hK _ _ (fun _ => ⟨g1, x1⟩) ?_
                    clear hK
                    obtain ⟨A', c', w6, hap, hown, hon⟩ := run_append_s elLt 24 HG5.out.o1 ⟨wd.heap.size, 0, none⟩ 1 [.int .i64 (q : Nat), .bool false] rfl hsc (by intro u hu; simp at hu; rcases hu with rfl | rfl <;> rfl) (by omega) HG5.out.zz
                    have hap6 := HG5.out.lat hown (by show _ = [Value.int .i64 ((h.graph (linA txt [])).L k), Value.bool ((h.graph (linA txt [])).I k)]; rw [HVL.out.1, HVL.out.2]) hon
                    have HG6 := Lib.hid hap6.2
                    have hX6 := hap6.1
                    have hA3 : ∀ b, blockOf A1 b → b < wq.heap.size := fun b hb => own_lt HG.out.o1 b hb
                    replace g1 := (box4 hX6).1.2.1
                    replace x1 := hon.cell x1 (by show ¬ blockOf A1 bN; intro hb; have := hA3 _ hb; omega)
                    clear hon hsc hA3 hown hap6
                    refine AnyZ.one (i := 16) (by kernel_rfl) rfl (fun K hK => ?_)
                    rw [if_pos (by rfl)]
                    refine wpZ_append1 (.tmp 73) (.tmp 87) 24 rfl rfl rfl hap ?_
                    go_simp
                    refine hK _ _ (fun _ => ⟨g1, x1⟩) ?_
                    clear hK hap
                    refine AnyZ.mid [17] [18] 1 rfl (by kernel_rfl) (by kernel_rfl) (by kernel_rfl) (fun _ _ _ _ e h => ⟨e.symm.trans h.1, h.2⟩) ⟨g1, x1⟩ ?_
                    iterate 1
                      refine Heads.step (v := ?_) rfl (by first | (go_simp; done) | rfl) (fun W hW => ?_) ?_
                      rotate_left
                      · (obtain ⟨t0, t1⟩ := hW; go_simp; try with_reducible rfl)
                    have z6 : w6.frozen? ⟨b8, 1, none⟩ = false := by simp [World.frozen?, hX6]
                    refine AnyZ.one (i := 18) (by kernel_rfl) rfl (fun K hK => ?_)
                    go_simp
                    refine hK _ _ (fun h => by cases h) (AnyZ.done (by kernel_rfl) ?_)
                    clear hK
                    go_simp
                    clear z6 hX6 g1 x1
                    go_wp2_with fail
                    exact ⟨⟨k + 1, rest', A', c', by omega, by simp, HU2, HG6⟩, by simp [intOf]; omega⟩
                  · have q1 : (M : Int) ≤ (q : Int) := by omega
                    have HBD : Hid (GrBad txt (h.i + k + 2)) := Lib.hid (.inr ⟨h, HD0.out, h.i + k, by unfold Hd.rows; omega, HU.out, la_not (by omega) (by omega) hQ.symm (.inl (by rw [hmc]; exact Nat.not_lt.1 hm)), rfl⟩)
                    refine wp_region_z (fun w' => w'.cell? ⟨bN, oN + 1, none⟩ = some (.int .i64 (q : Nat)) ∧ w'.cell? ⟨b6, 0, none⟩ = some (.int .i64 (h.i : Int)) ∧ w'.cell? ⟨b6, 1, none⟩ = some (.int .i64 (h.l : Int)) ∧ w'.cell? ⟨b6, 2, none⟩ = some (.int .i64 (h.o : Int)) ∧ w'.cell? ⟨b6, 3, none⟩ = some (.int .i64 (h.a : Int))) [0, 1, 2, 3, 4, 5, 6] [] (by kernel_rfl) (by kernel_rfl) (by kernel_rfl) (by rfl) (fun _ _ _ _ e h => ⟨e.symm.trans h.1, h.2⟩) ⟨x1, s0, s1, s2, s3⟩ ?_
                    iterate 7
                      refine Heads.step (v := ?_) rfl (by first | (go_simp; done) | rfl) (fun W hW => ?_) ?_
                      rotate_left
                      · (obtain ⟨t0, t1, t2, t3, t4⟩ := hW; go_simp; try with_reducible rfl)
                    refine AnyZ.one (i := 7) (by kernel_rfl) rfl (fun K hK => ?_)
                    go_simp
                    refine (HMST.out w3.drew).mono ?_
                    rintro e w4 ⟨rfl, hb4⟩
                    have hb4' : Below w3.heap.size w3 w4 := ((Below.refl _ w3).drew).trans hb4
                    have kp := Keeps.of_below hb4'
                    replace x1 := kp _ _ x1
                    replace s0 := kp _ _ s0
                    replace s1 := kp _ _ s1
                    replace s2 := kp _ _ s2
                    replace s3 := kp _ _ s3
                    refine hK _ _ (fun _ => ⟨x1, s0, s1, s2, s3⟩) ?_
                    clear hK
                    have HG4 := Lib.hid (HG2.out.below hb4')
                    have HX4 : Hid (∀ b o x, w3.cell? ⟨b, o, none⟩ = some x → w4.cell? ⟨b, o, none⟩ = some x) := Lib.hid (fun b o x hx => kp _ _ hx)
                    clear kp hb4 hb4'
                    refine AnyZ.mid [8, 9, 10, 11, 12, 13, 14, 15, 16, 17, 18, 19, 20] [] 0 rfl (by kernel_rfl) (by kernel_rfl) (by kernel_rfl) (fun _ _ _ _ e h => ⟨e.symm.trans h.1, h.2⟩) ⟨x1, s0, s1, s2, s3⟩ ?_
                    iterate 3
                      refine Heads.step (v := ?_) rfl (by first | (go_simp; done) | rfl) (fun W hW => ?_) ?_
                      rotate_left
                      · (obtain ⟨t0, t1, t2, t3, t4⟩ := hW; go_simp; try with_reducible rfl)
                    iterate 4
                      refine Heads.skip rfl (by first | (go_simp; done) | rfl) ?_
                    refine Heads.skipU (j := 14) (want := true) rfl rfl (by go_simp) ?_
                    refine Heads.skipU (j := 14) (want := true) rfl rfl (by go_simp) ?_
                    refine Heads.skipU (j := 14) (want := true) rfl rfl (by go_simp) ?_
                    refine Heads.skipU (j := 14) (want := true) rfl rfl (by go_simp) ?_
                    iterate 1
                      refine Heads.skip rfl (by first | (go_simp; done) | rfl) ?_
                    iterate 1
                      refine Heads.step (v := ?_) rfl (by first | (go_simp; done) | rfl) (fun W hW => ?_) ?_
                      rotate_left
                      · (obtain ⟨t0, t1, t2, t3, t4⟩ := hW; go_simp; try with_reducible rfl)
                    refine AnyZ.done (by kernel_rfl) ?_
                    go_simp
                    clear x1 s0 s1 s2 s3 hQ
                    replace HG4 := Lib.hid HG4.out
                    have HX8 := Lib.hid HG4.out.g
                    have HX2 := Lib.hid HG4.out.r2
                    have HOV := Lib.hid HG4.out.only
                    have HCV : Hid (CurAt w4 bc rest' (h.i + k + 2)) := Lib.hid HG4.out.cur
                    obtain ⟨⟨x0, x1, x2, x3⟩, _⟩ := box4 HX8.out
                    obtain ⟨⟨y0, y1, y2, y3⟩, yz⟩ := box4 HX2.out
                    have yz0 := yz 0
                    have yz1 := yz 1
                    have yz2 := yz 2
                    have yz3 := yz 3
                    have hk := st4_only w4 b2 (.int .i64 (h.i : Int)) (.slice A1 k c1) (.slice none 0 0) (.slice none 0 0)
                    have hne : ¬ bc = b2 := by have := HE.out; have := HBC.out; omega
                    have HC5 := Lib.hid (hk.heap HCV.out hne)
                    have HOW5 := Lib.hid (HOV.out.then_ hk (fun i hi hs => by have := HE.out; omega))
                    clear yz hk hne
                    go_wp2_with fail
                    exact bodyPost_ret (v := .tuple #[.agg #[.int .i64 (h.i : Int), .slice A1 k c1, .slice none 0 0, .slice none 0 0], .bool false]) (outsA rfl rfl (st4_heap HX2.out _ _ _ _)) rfl ⟨.inl ⟨_, _, _, _, _, _, _, _, _, _, _, _, HBD.out, rfl, HC5.out⟩, HOW5.out⟩
                | [p, q, r], _, _ =>
                  have x1 : w3.cell? ⟨bN, oN + 1, none⟩ = some (.int .i64 (q : Nat)) := hx 1 (by simp)
                  have x2 : w3.cell? ⟨bN, oN + 2, none⟩ = some (.int .i64 (r : Nat)) := hx 2 (by simp)
                  obtain ⟨⟨s0, s1, s2, s3⟩, _⟩ := box4 HG2.out.sz
                  have hmc := HMM.out
                  clear hx
                  go_upto_region 16 with (fail)
                  by_cases hm : q < M
                  · by_cases hr : 1 < r
                    · have q1 : ¬ (M : Int) ≤ (q : Int) := by omega
                      have q2 : (1 : Int) < (r : Int) := by omega
                      have HBD : Hid (GrBad txt (h.i + k + 2)) := Lib.hid (.inr ⟨h, HD0.out, h.i + k, by unfold Hd.rows; omega, HU.out, la_not (by omega) (by omega) hQ.symm (.inr ⟨rfl, hr⟩), rfl⟩)
                      refine wp_region_z (fun w' => w'.cell? ⟨bN, oN + 1, none⟩ = some (.int .i64 (q : Nat)) ∧ w'.cell? ⟨bN, oN + 2, none⟩ = some (.int .i64 (r : Nat)) ∧ w'.cell? ⟨b6, 0, none⟩ = some (.int .i64 (h.i : Int)) ∧ w'.cell? ⟨b6, 1, none⟩ = some (.int .i64 (h.l : Int)) ∧ w'.cell? ⟨b6, 2, none⟩ = some (.int .i64 (h.o : Int)) ∧ w'.cell? ⟨b6, 3, none⟩ = some (.int .i64 (h.a : Int))) [0, 1, 2, 3, 4, 5, 6] [] (by kernel_rfl) (by kernel_rfl) (by kernel_rfl) (by rfl) (fun _ _ _ _ e h => ⟨e.symm.trans h.1, h.2⟩) ⟨x1, x2, s0, s1, s2, s3⟩ ?_
                      iterate 7
                        refine Heads.step (v := ?_) rfl (by first | (go_simp; done) | rfl) (fun W hW => ?_) ?_
                        rotate_left
                        · (obtain ⟨t0, t1, t2, t3, t4, t5⟩ := hW; go_simp; try with_reducible rfl)
                      refine AnyZ.one (i := 7) (by kernel_rfl) rfl (fun K hK => ?_)
                      go_simp
                      refine (HMST.out w3.drew).mono ?_
                      rintro e w4 ⟨rfl, hb4⟩
                      have hb4' : Below w3.heap.size w3 w4 := ((Below.refl _ w3).drew).trans hb4
                      have kp := Keeps.of_below hb4'
                      replace x1 := kp _ _ x1
                      replace x2 := kp _ _ x2
                      replace s0 := kp _ _ s0
                      replace s1 := kp _ _ s1
                      replace s2 := kp _ _ s2
                      replace s3 := kp _ _ s3
                      refine hK _ _ (fun _ => ⟨x1, x2, s0, s1, s2, s3⟩) ?_
                      clear hK
                      have HG4 := Lib.hid (HG2.out.below hb4')
                      have HX4 : Hid (∀ b o x, w3.cell? ⟨b, o, none⟩ = some x → w4.cell? ⟨b, o, none⟩ = some x) := Lib.hid (fun b o x hx => kp _ _ hx)
                      clear kp hb4 hb4'
                      refine AnyZ.mid [8, 9, 10, 11, 12, 13, 14, 15, 16, 17, 18, 19, 20] [] 0 rfl (by kernel_rfl) (by kernel_rfl) (by kernel_rfl) (fun _ _ _ _ e h => ⟨e.symm.trans h.1, h.2⟩) ⟨x1, x2, s0, s1, s2, s3⟩ ?_
                      iterate 3
                        refine Heads.step (v := ?_) rfl (by first | (go_simp; done) | rfl) (fun W hW => ?_) ?_
                        rotate_left
                        · (obtain ⟨t0, t1, t2, t3, t4, t5⟩ := hW; go_simp; try with_reducible rfl)
                      iterate 4
                        refine Heads.step (v := ?_) rfl (by first | (go_simp; done) | rfl) (fun W hW => ?_) ?_
                        rotate_left
                        · (obtain ⟨t0, t1, t2, t3, t4, t5⟩ := hW; go_simp; try with_reducible rfl)
                      iterate 4
                        refine Heads.step (v := ?_) rfl (by first | (go_simp; done) | rfl) (fun W hW => ?_) ?_
                        rotate_left
                        · (obtain ⟨t0, t1, t2, t3, t4, t5⟩ := hW; go_simp; try with_reducible rfl)
                      iterate 1
                        refine Heads.step (v := ?_) rfl (by first | (go_simp; done) | rfl) (fun W hW => ?_) ?_
                        rotate_left
                        · (obtain ⟨t0, t1, t2, t3, t4, t5⟩ := hW; go_simp; try with_reducible rfl)
                      iterate 1
                        refine Heads.step (v := ?_) rfl (by first | (go_simp; done) | rfl) (fun W hW => ?_) ?_
                        rotate_left
                        · (obtain ⟨t0, t1, t2, t3, t4, t5⟩ := hW; go_simp; try with_reducible rfl)
                      refine AnyZ.done (by kernel_rfl) ?_
                      go_simp
                      clear x1 x2 s0 s1 s2 s3 hQ
                      replace HG4 := Lib.hid HG4.out
                      have HX8 := Lib.hid HG4.out.g
                      have HX2 := Lib.hid HG4.out.r2
                      have HOV := Lib.hid HG4.out.only
                      have HCV : Hid (CurAt w4 bc rest' (h.i + k + 2)) := Lib.hid HG4.out.cur
                      obtain ⟨⟨x0, x1, x2, x3⟩, _⟩ := box4 HX8.out
                      obtain ⟨⟨y0, y1, y2, y3⟩, yz⟩ := box4 HX2.out
                      have yz0 := yz 0
                      have yz1 := yz 1
                      have yz2 := yz 2
                      have yz3 := yz 3
                      have hk := st4_only w4 b2 (.int .i64 (h.i : Int)) (.slice A1 k c1) (.slice none 0 0) (.slice none 0 0)
                      have hne : ¬ bc = b2 := by have := HE.out; have := HBC.out; omega
                      have HC5 := Lib.hid (hk.heap HCV.out hne)
                      have HOW5 := Lib.hid (HOV.out.then_ hk (fun i hi hs => by have := HE.out; omega))
                      clear yz hk hne
                      go_wp2_with fail
                      exact bodyPost_ret (v := .tuple #[.agg #[.int .i64 (h.i : Int), .slice A1 k c1, .slice none 0 0, .slice none 0 0], .bool false]) (outsA rfl rfl (st4_heap HX2.out _ _ _ _)) rfl ⟨.inl ⟨_, _, _, _, _, _, _, _, _, _, _, _, HBD.out, rfl, HC5.out⟩, HOW5.out⟩
                    · obtain ⟨bb, hbb⟩ : ∃ bb, bb = decide (r = 1) := ⟨_, rfl⟩
                      have HBB := Lib.hid hbb
                      have q3 : ((r : Int) == 1) = bb := by rw [hbb]; by_cases e : r = 1 <;> simp [e]; omega
                      clear hbb
                      have q1 : ¬ (M : Int) ≤ (q : Int) := by omega
                      have q2 : ¬ (1 : Int) < (r : Int) := by omega
                      refine wp_region_z (fun w' => w'.cell? ⟨bN, oN + 1, none⟩ = some (.int .i64 (q : Nat)) ∧ w'.cell? ⟨bN, oN + 2, none⟩ = some (.int .i64 (r : Nat)) ∧ w'.cell? ⟨b6, 0, none⟩ = some (.int .i64 (h.i : Int)) ∧ w'.cell? ⟨b6, 1, none⟩ = some (.int .i64 (h.l : Int)) ∧ w'.cell? ⟨b6, 2, none⟩ = some (.int .i64 (h.o : Int)) ∧ w'.cell? ⟨b6, 3, none⟩ = some (.int .i64 (h.a : Int))) [0, 1, 2, 3, 4, 5, 6] [] (by kernel_rfl) (by kernel_rfl) (by kernel_rfl) (by rfl) (fun _ _ _ _ e h => ⟨e.symm.trans h.1, h.2⟩) ⟨x1, x2, s0, s1, s2, s3⟩ ?_
                      iterate 7
                        refine Heads.step (v := ?_) rfl (by first | (go_simp; done) | rfl) (fun W hW => ?_) ?_
                        rotate_left
                        · (obtain ⟨t0, t1, t2, t3, t4, t5⟩ := hW; go_simp; try with_reducible rfl)
                      refine AnyZ.one (i := 7) (by kernel_rfl) rfl (fun K hK => ?_)
                      go_simp
                      refine (HMST.out w3.drew).mono ?_
                      rintro e w4 ⟨rfl, hb4⟩
                      have hb4' : Below w3.heap.size w3 w4 := ((Below.refl _ w3).drew).trans hb4
                      have kp := Keeps.of_below hb4'
                      replace x1 := kp _ _ x1
                      replace x2 := kp _ _ x2
                      replace s0 := kp _ _ s0
                      replace s1 := kp _ _ s1
                      replace s2 := kp _ _ s2
                      replace s3 := kp _ _ s3
                      refine hK _ _ (fun _ => ⟨x1, x2, s0, s1, s2, s3⟩) ?_
                      clear hK
                      have HG4 := Lib.hid (HG2.out.below hb4')
                      have HX4 : Hid (∀ b o x, w3.cell? ⟨b, o, none⟩ = some x → w4.cell? ⟨b, o, none⟩ = some x) := Lib.hid (fun b o x hx => kp _ _ hx)
                      clear kp hb4 hb4'
                      refine AnyZ.mid [8, 9, 10, 11, 12, 13, 14, 15, 16, 17, 18, 19, 20] [] 0 rfl (by kernel_rfl) (by kernel_rfl) (by kernel_rfl) (fun _ _ _ _ e h => ⟨e.symm.trans h.1, h.2⟩) ⟨x1, x2, s0, s1, s2, s3⟩ ?_
                      iterate 3
                        refine Heads.step (v := ?_) rfl (by first | (go_simp; done) | rfl) (fun W hW => ?_) ?_
                        rotate_left
                        · (obtain ⟨t0, t1, t2, t3, t4, t5⟩ := hW; go_simp; try with_reducible rfl)
                      iterate 4
                        refine Heads.step (v := ?_) rfl (by first | (go_simp; done) | rfl) (fun W hW => ?_) ?_
                        rotate_left
                        · (obtain ⟨t0, t1, t2, t3, t4, t5⟩ := hW; go_simp; try with_reducible rfl)
                      iterate 4
                        refine Heads.step (v := ?_) rfl (by first | (go_simp; done) | rfl) (fun W hW => ?_) ?_
                        rotate_left
                        · (obtain ⟨t0, t1, t2, t3, t4, t5⟩ := hW; go_simp; try with_reducible rfl)
                      iterate 1
                        refine Heads.step (v := ?_) rfl (by first | (go_simp; done) | rfl) (fun W hW => ?_) ?_
                        rotate_left
                        · (obtain ⟨t0, t1, t2, t3, t4, t5⟩ := hW; go_simp; try with_reducible rfl)
                      iterate 1
                        refine Heads.step (v := ?_) rfl (by first | (go_simp; done) | rfl) (fun W hW => ?_) ?_
                        rotate_left
                        · (obtain ⟨t0, t1, t2, t3, t4, t5⟩ := hW; go_simp; try with_reducible rfl)
                      refine AnyZ.done (by kernel_rfl) ?_
                      go_simp
                      have HVL : Hid ((h.graph (linA txt [])).L k = (q : Int) ∧ (h.graph (linA txt [])).I k = bb) := Lib.hid (by
                        have e := (rowQ_yes hQ.symm).1
                        refine ⟨by show ((numR (linA txt []) (h.i + k) 1 : Nat) : Int) = _; unfold numR; rw [e]; rfl, ?_⟩
                        show decide (((rowN (linA txt []) (h.i + k)).getD []).length = 3 ∧ numR (linA txt []) (h.i + k) 2 = 1) = _
                        unfold numR
                        rw [e]
                        simp [HBB.out])
                      have HU2 := Lib.hid (HU.out.next (la_yes (t := h.i + k) (by omega) (by omega) hQ.symm (by rw [hmc]; exact hm) (by simp; omega)))
                      obtain ⟨_, g1, _, _⟩ := (box4 HG4.out.g).1
                      clear s0 s1 s2 s3 hm hQ
                      go_upto_region 18 with (fail)
                      refine wp_region_z (fun w' => w'.cell? ⟨b8, 1, none⟩ = some (.slice A1 k c1) ∧ w'.cell? ⟨bN, oN + 1, none⟩ = some (.int .i64 (q : Nat)) ∧ w'.cell? ⟨bN, oN + 2, none⟩ = some (.int .i64 (r : Nat))) [0, 1, 2, 3, 4, 5, 6, 7, 8, 9, 10, 11, 12, 13, 14] [18] (by kernel_rfl) (by kernel_rfl) (by kernel_rfl) (by rfl) (fun _ _ _ _ e h => ⟨e.symm.trans h.1, h.2⟩) ⟨g1, x1, x2⟩ ?_
                      iterate 15
                        refine Heads.step (v := ?_) rfl (by first | (go_simp; done) | rfl) (fun W hW => ?_) ?_
                        rotate_left
                        · (obtain ⟨t0, t1, t2⟩ := hW; go_simp; try with_reducible rfl)
                      have hbl0 : Below w4.heap.size w4 w4.drew := (Below.refl _ w4).drew
                      have kp := Keeps.of_below hbl0
                      replace g1 := kp _ _ g1
                      replace x1 := kp _ _ x1
                      replace x2 := kp _ _ x2
                      replace HG4 := Lib.hid (HG4.out.below hbl0)
                      clear hbl0 kp
                      generalize w4.drew = wd at *
                      refine AnyZ.one (i := 15) (by kernel_rfl) rfl (fun K hK => ?_)
                      go_simp
                      have hbl : Below wd.heap.size wd (wd.alloc (.cells #[.int .i64 (q : Nat), .bool bb] 47)) := (Below.refl _ _).alloc (Nat.le_refl _) _
                      obtain ⟨_, _, hsc⟩ := src_news wd #[.int .i64 (q : Nat), .bool bb] 47 2 1 rfl (by intro u hu; simp at hu; rcases hu with rfl | rfl <;> rfl)
                      obtain ⟨ad, hae, hsc⟩ := hsc (by omega)
                      injection hae with hae; subst hae
                      have kp := Keeps.of_below hbl
                      replace g1 := kp _ _ g1
                      replace x1 := kp _ _ x1
                      replace x2 := kp _ _ x2
                      have HG5 := Lib.hid (HG4.out.below hbl)
                      clear hbl kp
                      generalize wd.alloc (.cells #[.int .i64 (q : Nat), .bool bb] 47) = w5 at *
                      refine hK _ _ (fun _ => ⟨g1, x1, x2⟩) ?_
                      clear hK
                      obtain ⟨A', c', w6, hap, hown, hon⟩ := run_append_s elLt 24 HG5.out.o1 ⟨wd.heap.size, 0, none⟩ 1 [.int .i64 (q : Nat), .bool bb] rfl hsc (by intro u hu; simp at hu; rcases hu with rfl | rfl <;> rfl) (by omega) HG5.out.zz
                      have hap6 := HG5.out.lat hown (by show _ = [Value.int .i64 ((h.graph (linA txt [])).L k), Value.bool ((h.graph (linA txt [])).I k)]; rw [HVL.out.1, HVL.out.2]) hon
                      have HG6 := Lib.hid hap6.2
                      have hX6 := hap6.1
                      have hA3 : ∀ b, blockOf A1 b → b < wq.heap.size := fun b hb => own_lt HG.out.o1 b hb
                      replace g1 := (box4 hX6).1.2.1
                      replace x1 := hon.cell x1 (by show ¬ blockOf A1 bN; intro hb; have := hA3 _ hb; omega)
                      replace x2 := hon.cell x2 (by show ¬ blockOf A1 bN; intro hb; have := hA3 _ hb; omega)
                      clear hon hsc hA3 hown hap6
                      refine AnyZ.one (i := 16) (by kernel_rfl) rfl (fun K hK => ?_)
                      rw [if_pos (by rfl)]
                      refine wpZ_append1 (.tmp 73) (.tmp 87) 24 rfl rfl rfl hap ?_
                      go_simp
                      refine hK _ _ (fun _ => ⟨g1, x1, x2⟩) ?_
                      clear hK hap
                      refine AnyZ.mid [17] [18] 1 rfl (by kernel_rfl) (by kernel_rfl) (by kernel_rfl) (fun _ _ _ _ e h => ⟨e.symm.trans h.1, h.2⟩) ⟨g1, x1, x2⟩ ?_
                      iterate 1
                        refine Heads.step (v := ?_) rfl (by first | (go_simp; done) | rfl) (fun W hW => ?_) ?_
                        rotate_left
                        · (obtain ⟨t0, t1, t2⟩ := hW; go_simp; try with_reducible rfl)
                      have z6 : w6.frozen? ⟨b8, 1, none⟩ = false := by simp [World.frozen?, hX6]
                      refine AnyZ.one (i := 18) (by kernel_rfl) rfl (fun K hK => ?_)
                      go_simp
                      refine hK _ _ (fun h => by cases h) (AnyZ.done (by kernel_rfl) ?_)
                      clear hK
                      go_simp
                      clear z6 hX6 g1 x1 x2
                      go_wp2_with fail
                      exact ⟨⟨k + 1, rest', A', c', by omega, by simp, HU2, HG6⟩, by simp [intOf]; omega⟩
                  · have q1 : (M : Int) ≤ (q : Int) := by omega
                    have HBD : Hid (GrBad txt (h.i + k + 2)) := Lib.hid (.inr ⟨h, HD0.out, h.i + k, by unfold Hd.rows; omega, HU.out, la_not (by omega) (by omega) hQ.symm (.inl (by rw [hmc]; exact Nat.not_lt.1 hm)), rfl⟩)
                    refine wp_region_z (fun w' => w'.cell? ⟨bN, oN + 1, none⟩ = some (.int .i64 (q : Nat)) ∧ w'.cell? ⟨bN, oN + 2, none⟩ = some (.int .i64 (r : Nat)) ∧ w'.cell? ⟨b6, 0, none⟩ = some (.int .i64 (h.i : Int)) ∧ w'.cell? ⟨b6, 1, none⟩ = some (.int .i64 (h.l : Int)) ∧ w'.cell? ⟨b6, 2, none⟩ = some (.int .i64 (h.o : Int)) ∧ w'.cell? ⟨b6, 3, none⟩ = some (.int .i64 (h.a : Int))) [0, 1, 2, 3, 4, 5, 6] [] (by kernel_rfl) (by kernel_rfl) (by kernel_rfl) (by rfl) (fun _ _ _ _ e h => ⟨e.symm.trans h.1, h.2⟩) ⟨x1, x2, s0, s1, s2, s3⟩ ?_
                    iterate 7
                      refine Heads.step (v := ?_) rfl (by first | (go_simp; done) | rfl) (fun W hW => ?_) ?_
                      rotate_left
                      · (obtain ⟨t0, t1, t2, t3, t4, t5⟩ := hW; go_simp; try with_reducible rfl)
                    refine AnyZ.one (i := 7) (by kernel_rfl) rfl (fun K hK => ?_)
                    go_simp
                    refine (HMST.out w3.drew).mono ?_
                    rintro e w4 ⟨rfl, hb4⟩
                    have hb4' : Below w3.heap.size w3 w4 := ((Below.refl _ w3).drew).trans hb4
                    have kp := Keeps.of_below hb4'
                    replace x1 := kp _ _ x1
                    replace x2 := kp _ _ x2
                    replace s0 := kp _ _ s0
                    replace s1 := kp _ _ s1
                    replace s2 := kp _ _ s2
                    replace s3 := kp _ _ s3
                    refine hK _ _ (fun _ => ⟨x1, x2, s0, s1, s2, s3⟩) ?_
                    clear hK
                    have HG4 := Lib.hid (HG2.out.below hb4')
                    have HX4 : Hid (∀ b o x, w3.cell? ⟨b, o, none⟩ = some x → w4.cell? ⟨b, o, none⟩ = some x) := Lib.hid (fun b o x hx => kp _ _ hx)
                    clear kp hb4 hb4'
                    refine AnyZ.mid [8, 9, 10, 11, 12, 13, 14, 15, 16, 17, 18, 19, 20] [] 0 rfl (by kernel_rfl) (by kernel_rfl) (by kernel_rfl) (fun _ _ _ _ e h => ⟨e.symm.trans h.1, h.2⟩) ⟨x1, x2, s0, s1, s2, s3⟩ ?_
                    iterate 3
                      refine Heads.step (v := ?_) rfl (by first | (go_simp; done) | rfl) (fun W hW => ?_) ?_
                      rotate_left
                      · (obtain ⟨t0, t1, t2, t3, t4, t5⟩ := hW; go_simp; try with_reducible rfl)
                    iterate 4
                      refine Heads.skip rfl (by first | (go_simp; done) | rfl) ?_
                    refine Heads.skipU (j := 14) (want := true) rfl rfl (by go_simp) ?_
                    refine Heads.skipU (j := 14) (want := true) rfl rfl (by go_simp) ?_
                    refine Heads.skipU (j := 14) (want := true) rfl rfl (by go_simp) ?_
                    refine Heads.skipU (j := 14) (want := true) rfl rfl (by go_simp) ?_
                    iterate 1
                      refine Heads.skip rfl (by first | (go_simp; done) | rfl) ?_
                    iterate 1
                      refine Heads.step (v := ?_) rfl (by first | (go_simp; done) | rfl) (fun W hW => ?_) ?_
                      rotate_left
                      · (obtain ⟨t0, t1, t2, t3, t4, t5⟩ := hW; go_simp; try with_reducible rfl)
                    refine AnyZ.done (by kernel_rfl) ?_
                    go_simp
                    clear x1 x2 s0 s1 s2 s3 hQ
                    replace HG4 := Lib.hid HG4.out
                    have HX8 := Lib.hid HG4.out.g
                    have HX2 := Lib.hid HG4.out.r2
                    have HOV := Lib.hid HG4.out.only
                    have HCV : Hid (CurAt w4 bc rest' (h.i + k + 2)) := Lib.hid HG4.out.cur
                    obtain ⟨⟨x0, x1, x2, x3⟩, _⟩ := box4 HX8.out
                    obtain ⟨⟨y0, y1, y2, y3⟩, yz⟩ := box4 HX2.out
                    have yz0 := yz 0
                    have yz1 := yz 1
                    have yz2 := yz 2
                    have yz3 := yz 3
                    have hk := st4_only w4 b2 (.int .i64 (h.i : Int)) (.slice A1 k c1) (.slice none 0 0) (.slice none 0 0)
                    have hne : ¬ bc = b2 := by have := HE.out; have := HBC.out; omega
                    have HC5 := Lib.hid (hk.heap HCV.out hne)
                    have HOW5 := Lib.hid (HOV.out.then_ hk (fun i hi hs => by have := HE.out; omega))
                    clear yz hk hne
                    go_wp2_with fail
                    exact bodyPost_ret (v := .tuple #[.agg #[.int .i64 (h.i : Int), .slice A1 k c1, .slice none 0 0, .slice none 0 0], .bool false]) (outsA rfl rfl (st4_heap HX2.out _ _ _ _)) rfl ⟨.inl ⟨_, _, _, _, _, _, _, _, _, _, _, _, HBD.out, rfl, HC5.out⟩, HOW5.out⟩
            · obtain rfl : h.l = k := by omega
              obtain ⟨⟨s0, s1, s2, s3⟩, _⟩ := box4 HG.out.sz
              go_wp2_with fail
              clear s0 s1 s2 s3
              go_loopw [93] (fun vk wr => ∃ (k : Nat) (rest : List UInt8) (A3 : Option Addr) (c3 : Nat), k ≤ h.o ∧ vk = .int .i64 k ∧ Hid (h.Upto (linA txt []) (h.i + h.l + k)) ∧ Hid (GrI w txt h bc b1 b2 b6 b8 b9 z (h.i + h.l + k) (2 * (h.i + h.l)) rest A1 none A3 c1 0 c3 h.l 0 k wr)) (fun vk _ => h.o - (intOf vk).toNat)
              case atStart => exact ⟨0, rest, none, 0, by omega, rfl, HU, HG⟩
              case round =>
                obtain ⟨k, rest, A3, c3, hkl, rfl, HU, HG⟩ := hrel
                obtain ⟨wq, hwq⟩ : ∃ wq, wq = wr := ⟨_, rfl⟩
                subst hwq
                by_cases hlt : k < h.o
                · have hrow := row_any 1 1 false b1 b9 bc ((h.i + h.l + k) + 1) (2 * (h.i + h.l)) rest wq HG.out.rb HG.out.cur HG.out.mx (by have := HG.out.len; have := HLEN.out; omega) (by omega) (by omega)
                  rw [show ((1 : Nat) : Int) = 1 from rfl] at hrow
                  go_wp2_with fail
                  refine hrow.mono ?_
                  rintro e w3 ⟨⟨v, rest', rfl, hv, hcv, hok⟩, hO3⟩
                  rw [HG.out.lin] at hv hok
                  obtain ⟨Q, hQ⟩ : ∃ Q, Q = rowQ ((linA txt []).drop ((h.i + h.l + k) + 1)) 1 1 false (2 * (h.i + h.l)) := ⟨_, rfl⟩
                  rw [← hQ] at hv hok
                  clear hrow
                  cases Q with
                  | none =>
                    obtain rfl : v = .slice none 0 0 := hv
                    have HBD : Hid (GrBad txt (h.i + h.l + k + 2)) := Lib.hid (.inr ⟨h, HD0.out, h.i + h.l + k, by unfold Hd.rows; omega, HU.out, ou_no (by omega) (by omega) hQ.symm, rfl⟩)
                    have HF := HG.out.fail hO3
                    have HX8 := Lib.hid HF.1
                    have HX2 := Lib.hid HF.2.1
                    have HOV := Lib.hid HF.2.2
                    have HCV : Hid (CurAt w3 bc rest' (h.i + h.l + k + 2)) := Lib.hid hcv
                    clear HF hQ hok hcv hO3
                    go_upto_region 23 with (fail)
                    refine wp_region_z (fun w' => True) [0, 1, 2, 3, 4, 5, 6, 7, 8, 9] [] (by kernel_rfl) (by kernel_rfl) (by kernel_rfl) (by rfl) (fun _ _ _ _ e h => ⟨e.symm.trans h.1, h.2⟩) trivial ?_
                    iterate 3
                      refine Heads.step (v := ?_) rfl (by first | (go_simp; done) | rfl) (fun W hW => ?_) ?_
                      rotate_left
                      · (go_simp; try with_reducible rfl)
                    iterate 6
                      refine Heads.skip rfl (by first | (go_simp; done) | rfl) ?_
                    iterate 1
                      refine Heads.step (v := ?_) rfl (by first | (go_simp; done) | rfl) (fun W hW => ?_) ?_
                      rotate_left
                      · (go_simp; try with_reducible rfl)
                    refine AnyZ.done (by kernel_rfl) ?_
                    go_simp
                    replace HX8 : Hid (w3.drew.heap[b8]? = _) := HX8
                    replace HX2 : Hid (w3.drew.heap[b2]? = _) := HX2
                    replace HOV := Lib.hid HOV.out.drew
                    replace HCV : Hid (CurAt w3.drew bc rest' _) := HCV
                    generalize w3.drew = wv at *
                    obtain ⟨⟨x0, x1, x2, x3⟩, _⟩ := box4 HX8.out
                    obtain ⟨⟨y0, y1, y2, y3⟩, yz⟩ := box4 HX2.out
                    have yz0 := yz 0
                    have yz1 := yz 1
                    have yz2 := yz 2
                    have yz3 := yz 3
                    have hk := st4_only wv b2 (.int .i64 (h.i : Int)) (.slice A1 h.l c1) (.slice none 0 0) (.slice A3 k c3)
                    have hne : ¬ bc = b2 := by have := HE.out; have := HBC.out; omega
                    have HC5 := Lib.hid (hk.heap HCV.out hne)
                    have HOW5 := Lib.hid (HOV.out.then_ hk (fun i hi hs => by have := HE.out; omega))
                    clear yz hk hne
                    go_wp2_with fail
                    exact bodyPost_ret (v := .tuple #[.agg #[.int .i64 (h.i : Int), .slice A1 h.l c1, .slice none 0 0, .slice A3 k c3], .bool false]) (outsA rfl rfl (st4_heap HX2.out _ _ _ _)) rfl ⟨.inl ⟨_, _, _, _, _, _, _, _, _, _, _, _, HBD.out, rfl, HC5.out⟩, HOW5.out⟩
                  | some ns =>
                    obtain ⟨bN, oN, cN, rfl, hbN, hx⟩ := hv
                    obtain ⟨hk1, hk2, hk3, hk4⟩ := hok ns rfl
                    have HG2 := Lib.hid (HG.out.row (own' := 2 * (h.i + h.l)) hO3 hcv (by rw [HG.out.lin]; exact hk1) hk2 hk3 (by simpa using hk4))
                    clear hk1 hk2 hk3 hk4 hok hcv hO3
                    obtain ⟨_, hl2, hl3, _⟩ := rowQ_yes hQ.symm
                    match ns, hl2, hl3 with
                    | [q], _, _ =>
                      have x1 : w3.cell? ⟨bN, oN, none⟩ = some (.int .i64 (q : Nat)) := hx 0 (by simp)
                      obtain ⟨⟨s0, s1, s2, s3⟩, _⟩ := box4 HG2.out.sz
                      have hmc := HMM.out
                      clear hx
                      go_upto_region 23 with (fail)
                      by_cases hm : q < M
                      · have q1 : ¬ (M : Int) ≤ (q : Int) := by omega
                        refine wp_region_z (fun w' => w'.cell? ⟨bN, oN, none⟩ = some (.int .i64 (q : Nat)) ∧ w'.cell? ⟨b6, 0, none⟩ = some (.int .i64 (h.i : Int)) ∧ w'.cell? ⟨b6, 1, none⟩ = some (.int .i64 (h.l : Int)) ∧ w'.cell? ⟨b6, 2, none⟩ = some (.int .i64 (h.o : Int)) ∧ w'.cell? ⟨b6, 3, none⟩ = some (.int .i64 (h.a : Int))) [0, 1, 2, 3, 4, 5, 6] [] (by kernel_rfl) (by kernel_rfl) (by kernel_rfl) (by rfl) (fun _ _ _ _ e h => ⟨e.symm.trans h.1, h.2⟩) ⟨x1, s0, s1, s2, s3⟩ ?_
                        iterate 7
                          refine Heads.step (v := ?_) rfl (by first | (go_simp; done) | rfl) (fun W hW => ?_) ?_
                          rotate_left
                          · (obtain ⟨t0, t1, t2, t3, t4⟩ := hW; go_simp; try with_reducible rfl)
                        refine AnyZ.one (i := 7) (by kernel_rfl) rfl (fun K hK => ?_)
                        go_simp
                        refine (HMST.out w3.drew).mono ?_
                        rintro e w4 ⟨rfl, hb4⟩
                        have hb4' : Below w3.heap.size w3 w4 := ((Below.refl _ w3).drew).trans hb4
                        have kp := Keeps.of_below hb4'
                        replace x1 := kp _ _ x1
                        replace s0 := kp _ _ s0
                        replace s1 := kp _ _ s1
                        replace s2 := kp _ _ s2
                        replace s3 := kp _ _ s3
                        refine hK _ _ (fun _ => ⟨x1, s0, s1, s2, s3⟩) ?_
                        clear hK
                        have HG4 := Lib.hid (HG2.out.below hb4')
                        have HX4 : Hid (∀ b o x, w3.cell? ⟨b, o, none⟩ = some x → w4.cell? ⟨b, o, none⟩ = some x) := Lib.hid (fun b o x hx => kp _ _ hx)
                        clear kp hb4 hb4'
                        refine AnyZ.mid [8, 9] [] 0 rfl (by kernel_rfl) (by kernel_rfl) (by kernel_rfl) (fun _ _ _ _ e h => ⟨e.symm.trans h.1, h.2⟩) ⟨x1, s0, s1, s2, s3⟩ ?_
                        iterate 2
                          refine Heads.step (v := ?_) rfl (by first | (go_simp; done) | rfl) (fun W hW => ?_) ?_
                          rotate_left
                          · (obtain ⟨t0, t1, t2, t3, t4⟩ := hW; go_simp; try with_reducible rfl)
                        refine AnyZ.done (by kernel_rfl) ?_
                        go_simp
                        have HVL : Hid ((h.graph (linA txt [])).O k = (q : Int)) := Lib.hid (by
                          have e := (rowQ_yes hQ.symm).1
                          show ((numR (linA txt []) (h.i + h.l + k) 0 : Nat) : Int) = _
                          unfold numR; rw [e]; rfl)
                        have HU2 := Lib.hid (HU.out.next (ou_yes (t := h.i + h.l + k) (by omega) (by omega) hQ.symm (by rw [hmc]; exact hm)))
                        obtain ⟨_, _, _, g1⟩ := (box4 HG4.out.g).1
                        clear s0 s1 s2 s3 hm hQ
                        go_upto_region 25 with (fail)
                        refine wp_region_z (fun w' => w'.cell? ⟨b8, 3, none⟩ = some (.slice A3 k c3) ∧ w'.cell? ⟨bN, oN, none⟩ = some (.int .i64 (q : Nat))) [0, 1, 2, 3, 4] [8] (by kernel_rfl) (by kernel_rfl) (by kernel_rfl) (by rfl) (fun _ _ _ _ e h => ⟨e.symm.trans h.1, h.2⟩) ⟨g1, x1⟩ ?_
                        iterate 5
                          refine Heads.step (v := ?_) rfl (by first | (go_simp; done) | rfl) (fun W hW => ?_) ?_
                          rotate_left
                          · (obtain ⟨t0, t1⟩ := hW; go_simp; try with_reducible rfl)
                        have hbl0 : Below w4.heap.size w4 w4.drew := (Below.refl _ w4).drew
                        have kp := Keeps.of_below hbl0
                        replace g1 := kp _ _ g1
                        replace x1 := kp _ _ x1
                        replace HG4 := Lib.hid (HG4.out.below hbl0)
                        clear hbl0 kp
                        generalize w4.drew = wd at *
                        refine AnyZ.one (i := 5) (by kernel_rfl) rfl (fun K hK => ?_)
                        go_simp
                        have hbl : Below wd.heap.size wd (wd.alloc (.cells #[.int .i64 (q : Nat)] 3)) := (Below.refl _ _).alloc (Nat.le_refl _) _
                        obtain ⟨_, _, hsc⟩ := src_news wd #[.int .i64 (q : Nat)] 3 1 1 rfl (by intro u hu; simp at hu; subst hu; rfl)
                        obtain ⟨ad, hae, hsc⟩ := hsc (by omega)
                        injection hae with hae; subst hae
                        have kp := Keeps.of_below hbl
                        replace g1 := kp _ _ g1
                        replace x1 := kp _ _ x1
                        have HG5 := Lib.hid (HG4.out.below hbl)
                        clear hbl kp
                        generalize wd.alloc (.cells #[.int .i64 (q : Nat)] 3) = w5 at *
                        refine hK _ _ (fun _ => ⟨g1, x1⟩) ?_
                        clear hK
                        obtain ⟨A', c', w6, hap, hown, hon⟩ := run_append_s elIn 26 HG5.out.o3 ⟨wd.heap.size, 0, none⟩ 1 [.int .i64 (q : Nat)] rfl hsc (by intro u hu; simp at hu; subst hu; rfl) (by omega) HG5.out.zz
                        have hap6 := HG5.out.out hown (by show _ = [Value.int .i64 ((h.graph (linA txt [])).O k)]; rw [HVL.out]) hon
                        have HG6 := Lib.hid hap6.2
                        have hX6 := hap6.1
                        have hA3 : ∀ b, blockOf A3 b → b < wq.heap.size := fun b hb => own_lt HG.out.o3 b hb
                        replace g1 := (box4 hX6).1.2.2.2
                        replace x1 := hon.cell x1 (by show ¬ blockOf A3 bN; intro hb; have := hA3 _ hb; omega)
                        clear hon hsc hA3 hown hap6
                        refine AnyZ.one (i := 6) (by kernel_rfl) rfl (fun K hK => ?_)
                        rw [if_pos (by rfl)]
                        refine wpZ_append1 (.tmp 109) (.tmp 113) 26 rfl rfl rfl hap ?_
                        go_simp
                        refine hK _ _ (fun _ => ⟨g1, x1⟩) ?_
                        clear hK hap
                        refine AnyZ.mid [7] [8] 1 rfl (by kernel_rfl) (by kernel_rfl) (by kernel_rfl) (fun _ _ _ _ e h => ⟨e.symm.trans h.1, h.2⟩) ⟨g1, x1⟩ ?_
                        iterate 1
                          refine Heads.step (v := ?_) rfl (by first | (go_simp; done) | rfl) (fun W hW => ?_) ?_
                          rotate_left
                          · (obtain ⟨t0, t1⟩ := hW; go_simp; try with_reducible rfl)
                        have z6 : w6.frozen? ⟨b8, 3, none⟩ = false := by simp [World.frozen?, hX6]
                        refine AnyZ.one (i := 8) (by kernel_rfl) rfl (fun K hK => ?_)
                        go_simp
                        refine hK _ _ (fun h => by cases h) (AnyZ.done (by kernel_rfl) ?_)
                        clear hK
                        go_simp
                        clear z6 hX6 g1 x1
                        go_wp2_with fail
                        exact ⟨⟨k + 1, rest', A', c', by omega, by simp, HU2, HG6⟩, by simp [intOf]; omega⟩
                      · have q1 : (M : Int) ≤ (q : Int) := by omega
                        have HBD : Hid (GrBad txt (h.i + h.l + k + 2)) := Lib.hid (.inr ⟨h, HD0.out, h.i + h.l + k, by unfold Hd.rows; omega, HU.out, ou_not (by omega) (by omega) hQ.symm (by rw [hmc]; exact Nat.not_lt.1 hm), rfl⟩)
                        refine wp_region_z (fun w' => w'.cell? ⟨bN, oN, none⟩ = some (.int .i64 (q : Nat)) ∧ w'.cell? ⟨b6, 0, none⟩ = some (.int .i64 (h.i : Int)) ∧ w'.cell? ⟨b6, 1, none⟩ = some (.int .i64 (h.l : Int)) ∧ w'.cell? ⟨b6, 2, none⟩ = some (.int .i64 (h.o : Int)) ∧ w'.cell? ⟨b6, 3, none⟩ = some (.int .i64 (h.a : Int))) [0, 1, 2, 3, 4, 5, 6] [] (by kernel_rfl) (by kernel_rfl) (by kernel_rfl) (by rfl) (fun _ _ _ _ e h => ⟨e.symm.trans h.1, h.2⟩) ⟨x1, s0, s1, s2, s3⟩ ?_
                        iterate 7
                          refine Heads.step (v := ?_) rfl (by first | (go_simp; done) | rfl) (fun W hW => ?_) ?_
                          rotate_left
                          · (obtain ⟨t0, t1, t2, t3, t4⟩ := hW; go_simp; try with_reducible rfl)
                        refine AnyZ.one (i := 7) (by kernel_rfl) rfl (fun K hK => ?_)
                        go_simp
                        refine (HMST.out w3.drew).mono ?_
                        rintro e w4 ⟨rfl, hb4⟩
                        have hb4' : Below w3.heap.size w3 w4 := ((Below.refl _ w3).drew).trans hb4
                        have kp := Keeps.of_below hb4'
                        replace x1 := kp _ _ x1
                        replace s0 := kp _ _ s0
                        replace s1 := kp _ _ s1
                        replace s2 := kp _ _ s2
                        replace s3 := kp _ _ s3
                        refine hK _ _ (fun _ => ⟨x1, s0, s1, s2, s3⟩) ?_
                        clear hK
                        have HG4 := Lib.hid (HG2.out.below hb4')
                        have HX4 : Hid (∀ b o x, w3.cell? ⟨b, o, none⟩ = some x → w4.cell? ⟨b, o, none⟩ = some x) := Lib.hid (fun b o x hx => kp _ _ hx)
                        clear kp hb4 hb4'
                        refine AnyZ.mid [8, 9] [] 0 rfl (by kernel_rfl) (by kernel_rfl) (by kernel_rfl) (fun _ _ _ _ e h => ⟨e.symm.trans h.1, h.2⟩) ⟨x1, s0, s1, s2, s3⟩ ?_
                        iterate 2
                          refine Heads.step (v := ?_) rfl (by first | (go_simp; done) | rfl) (fun W hW => ?_) ?_
                          rotate_left
                          · (obtain ⟨t0, t1, t2, t3, t4⟩ := hW; go_simp; try with_reducible rfl)
                        refine AnyZ.done (by kernel_rfl) ?_
                        go_simp
                        clear x1 s0 s1 s2 s3 hQ
                        have HX8 := Lib.hid HG4.out.g
                        have HX2 := Lib.hid HG4.out.r2
                        have HOV := Lib.hid HG4.out.only
                        have HCV : Hid (CurAt w4 bc rest' (h.i + h.l + k + 2)) := Lib.hid HG4.out.cur
                        obtain ⟨⟨x0, x1, x2, x3⟩, _⟩ := box4 HX8.out
                        obtain ⟨⟨y0, y1, y2, y3⟩, yz⟩ := box4 HX2.out
                        have yz0 := yz 0
                        have yz1 := yz 1
                        have yz2 := yz 2
                        have yz3 := yz 3
                        have hk := st4_only w4 b2 (.int .i64 (h.i : Int)) (.slice A1 h.l c1) (.slice none 0 0) (.slice A3 k c3)
                        have hne : ¬ bc = b2 := by have := HE.out; have := HBC.out; omega
                        have HC5 := Lib.hid (hk.heap HCV.out hne)
                        have HOW5 := Lib.hid (HOV.out.then_ hk (fun i hi hs => by have := HE.out; omega))
                        clear yz hk hne
                        go_wp2_with fail
                        exact bodyPost_ret (v := .tuple #[.agg #[.int .i64 (h.i : Int), .slice A1 h.l c1, .slice none 0 0, .slice A3 k c3], .bool false]) (outsA rfl rfl (st4_heap HX2.out _ _ _ _)) rfl ⟨.inl ⟨_, _, _, _, _, _, _, _, _, _, _, _, HBD.out, rfl, HC5.out⟩, HOW5.out⟩
                · obtain rfl : h.o = k := by omega
                  obtain ⟨⟨s0, s1, s2, s3⟩, _⟩ := box4 HG.out.sz
                  go_wp2_with fail
                  clear s0 s1 s2 s3
                  go_loopw [119] (fun vk wr => ∃ (k : Nat) (rest : List UInt8) (A2 : Option Addr) (c2 : Nat), k ≤ h.a ∧ vk = .int .i64 k ∧ Hid (h.Upto (linA txt []) (h.i + h.l + h.o + k)) ∧ Hid (GrI w txt h bc b1 b2 b6 b8 b9 z (h.i + h.l + h.o + k) (2 * (h.i + h.l + k)) rest A1 A2 A3 c1 c2 c3 h.l k h.o wr)) (fun vk _ => h.a - (intOf vk).toNat)
                  case atStart => exact ⟨0, rest, none, 0, by omega, rfl, HU, HG⟩
                  case round =>
                    obtain ⟨k, rest, A2, c2, hkl, rfl, HU, HG⟩ := hrel
                    obtain ⟨wq, hwq⟩ : ∃ wq, wq = wr := ⟨_, rfl⟩
                    subst hwq
                    by_cases hlt : k < h.a
                    · have hrow := row_any 3 3 true b1 b9 bc ((h.i + h.l + h.o + k) + 1) (2 * (h.i + h.l + k)) rest wq HG.out.rb HG.out.cur HG.out.mx (by have := HG.out.len; have := HLEN.out; omega) (by omega) (by omega)
                      rw [show ((3 : Nat) : Int) = 3 from rfl] at hrow
                      go_wp2_with fail
                      refine hrow.mono ?_
                      rintro e w3 ⟨⟨v, rest', rfl, hv, hcv, hok⟩, hO3⟩
                      rw [HG.out.lin] at hv hok
                      obtain ⟨Q, hQ⟩ : ∃ Q, Q = rowQ ((linA txt []).drop ((h.i + h.l + h.o + k) + 1)) 3 3 true (2 * (h.i + h.l + k)) := ⟨_, rfl⟩
                      rw [← hQ] at hv hok
                      clear hrow
                      cases Q with
                      | none =>
                        obtain rfl : v = .slice none 0 0 := hv
                        have HBD : Hid (GrBad txt (h.i + h.l + h.o + k + 2)) := Lib.hid (.inr ⟨h, HD0.out, h.i + h.l + h.o + k, by unfold Hd.rows; omega, HU.out, an_no (by omega) (by omega) hQ.symm, rfl⟩)
                        have HF := HG.out.fail hO3
                        have HX8 := Lib.hid HF.1
                        have HX2 := Lib.hid HF.2.1
                        have HOV := Lib.hid HF.2.2
                        have HCV : Hid (CurAt w3 bc rest' (h.i + h.l + h.o + k + 2)) := Lib.hid hcv
                        clear HF hQ hok hcv hO3
                        go_upto_region 30 with (fail)
                        refine wp_region_z (fun w' => True) [0, 1, 2, 3, 4, 5, 6, 7, 8, 9, 10, 11, 12, 13, 14] [] (by kernel_rfl) (by kernel_rfl) (by kernel_rfl) (by rfl) (fun _ _ _ _ e h => ⟨e.symm.trans h.1, h.2⟩) trivial ?_
                        iterate 3
                          refine Heads.step (v := ?_) rfl (by first | (go_simp; done) | rfl) (fun W hW => ?_) ?_
                          rotate_left
                          · (go_simp; try with_reducible rfl)
                        iterate 11
                          refine Heads.skip rfl (by first | (go_simp; done) | rfl) ?_
                        iterate 1
                          refine Heads.step (v := ?_) rfl (by first | (go_simp; done) | rfl) (fun W hW => ?_) ?_
                          rotate_left
                          · (go_simp; try with_reducible rfl)
                        refine AnyZ.done (by kernel_rfl) ?_
                        go_simp
                        replace HX8 : Hid (w3.drew.heap[b8]? = _) := HX8
                        replace HX2 : Hid (w3.drew.heap[b2]? = _) := HX2
                        replace HOV := Lib.hid HOV.out.drew
                        replace HCV : Hid (CurAt w3.drew bc rest' _) := HCV
                        generalize w3.drew = wv at *
                        obtain ⟨⟨x0, x1, x2, x3⟩, _⟩ := box4 HX8.out
                        obtain ⟨⟨y0, y1, y2, y3⟩, yz⟩ := box4 HX2.out
                        have yz0 := yz 0
                        have yz1 := yz 1
                        have yz2 := yz 2
                        have yz3 := yz 3
                        have hk := st4_only wv b2 (.int .i64 (h.i : Int)) (.slice A1 h.l c1) (.slice A2 k c2) (.slice A3 h.o c3)
                        have hne : ¬ bc = b2 := by have := HE.out; have := HBC.out; omega
                        have HC5 := Lib.hid (hk.heap HCV.out hne)
                        have HOW5 := Lib.hid (HOV.out.then_ hk (fun i hi hs => by have := HE.out; omega))
                        clear yz hk hne
                        go_wp2_with fail
                        exact bodyPost_ret (v := .tuple #[.agg #[.int .i64 (h.i : Int), .slice A1 h.l c1, .slice A2 k c2, .slice A3 h.o c3], .bool false]) (outsA rfl rfl (st4_heap HX2.out _ _ _ _)) rfl ⟨.inl ⟨_, _, _, _, _, _, _, _, _, _, _, _, HBD.out, rfl, HC5.out⟩, HOW5.out⟩
                      | some ns =>
                        obtain ⟨bN, oN, cN, rfl, hbN, hx⟩ := hv
                        obtain ⟨hk1, hk2, hk3, hk4⟩ := hok ns rfl
                        have HG2 := Lib.hid (HG.out.row (own' := 2 * (h.i + h.l + (k + 1))) hO3 hcv (by rw [HG.out.lin]; exact hk1) hk2 hk3 (by rw [show 2 * (h.i + h.l + (k + 1)) = 2 * (h.i + h.l + k) + 2 by omega]; simpa using hk4))
                        clear hk1 hk2 hk3 hk4 hok hcv hO3
                        obtain ⟨_, hl2, hl3, _⟩ := rowQ_yes hQ.symm
                        match ns, hl2, hl3 with
                        | [p, q, r], _, _ =>
                          have x0 : w3.cell? ⟨bN, oN, none⟩ = some (.int .i64 (p : Nat)) := hx 0 (by simp)
                          have x1 : w3.cell? ⟨bN, oN + 1, none⟩ = some (.int .i64 (q : Nat)) := hx 1 (by simp)
                          have x2 : w3.cell? ⟨bN, oN + 2, none⟩ = some (.int .i64 (r : Nat)) := hx 2 (by simp)
                          clear hx
                          go_upto_region 30 with (fail)
                          by_cases hm : q < p ∧ r < p
                          · have q1 : ¬ (p : Int) ≤ max (q : Int) (r : Int) := by omega
                            refine wp_region_z (fun w' => w'.cell? ⟨bN, oN, none⟩ = some (.int .i64 (p : Nat)) ∧ w'.cell? ⟨bN, oN + 1, none⟩ = some (.int .i64 (q : Nat)) ∧ w'.cell? ⟨bN, oN + 2, none⟩ = some (.int .i64 (r : Nat))) [0, 1, 2, 3, 4, 5, 6, 7, 8, 10, 11, 12] [] (by kernel_rfl) (by kernel_rfl) (by kernel_rfl) (by rfl) (fun _ _ _ _ e h => ⟨e.symm.trans h.1, h.2⟩) ⟨x0, x1, x2⟩ ?_
                            iterate 12
                              refine Heads.step (v := ?_) rfl (by first | (go_simp; done) | rfl) (fun W hW => ?_) ?_
                              rotate_left
                              · (obtain ⟨t0, t1, t2⟩ := hW; go_simp; try with_reducible rfl)
                            refine AnyZ.one (i := 9) (by kernel_rfl) rfl (fun K hK => ?_)
                            go_simp
                            refine hK _ _ (fun _ => ⟨x0, x1, x2⟩) ?_
                            clear hK
                            refine AnyZ.mid [13, 14] [] 0 rfl (by kernel_rfl) (by kernel_rfl) (by kernel_rfl) (fun _ _ _ _ e h => ⟨e.symm.trans h.1, h.2⟩) ⟨x0, x1, x2⟩ ?_
                            iterate 2
                              refine Heads.step (v := ?_) rfl (by first | (go_simp; done) | rfl) (fun W hW => ?_) ?_
                              rotate_left
                              · (obtain ⟨t0, t1, t2⟩ := hW; go_simp; try with_reducible rfl)
                            refine AnyZ.done (by kernel_rfl) ?_
                            go_simp
                            have HG4 := Lib.hid HG2.out.drew
                            replace x1 : w3.drew.cell? ⟨bN, oN + 1, none⟩ = some (.int .i64 (q : Nat)) := x1
                            replace x2 : w3.drew.cell? ⟨bN, oN + 2, none⟩ = some (.int .i64 (r : Nat)) := x2
                            clear x0
                            generalize w3.drew = w4 at *
                            have HVL : Hid ((h.graph (linA txt [])).X k = (q : Int) ∧ (h.graph (linA txt [])).Y k = (r : Int)) := Lib.hid (by
                              have e := (rowQ_yes hQ.symm).1
                              refine ⟨?_, ?_⟩
                              · show ((numR (linA txt []) (h.i + h.l + h.o + k) 1 : Nat) : Int) = _
                                unfold numR; rw [e]; rfl
                              · show ((numR (linA txt []) (h.i + h.l + h.o + k) 2 : Nat) : Int) = _
                                unfold numR; rw [e]; rfl)
                            have HU2 := Lib.hid (HU.out.next (an_yes (t := h.i + h.l + h.o + k) (by omega) (by omega) hQ.symm hm.1 hm.2))
                            obtain ⟨_, _, g1, _⟩ := (box4 HG4.out.g).1
                            clear hm hQ q1
                            go_upto_region 32 with (fail)
                            refine wp_region_z (fun w' => w'.cell? ⟨b8, 2, none⟩ = some (.slice A2 k c2) ∧ w'.cell? ⟨bN, oN + 1, none⟩ = some (.int .i64 (q : Nat)) ∧ w'.cell? ⟨bN, oN + 2, none⟩ = some (.int .i64 (r : Nat))) [0, 1, 2, 3, 4, 5, 6, 7, 8] [12] (by kernel_rfl) (by kernel_rfl) (by kernel_rfl) (by rfl) (fun _ _ _ _ e h => ⟨e.symm.trans h.1, h.2⟩) ⟨g1, x1, x2⟩ ?_
                            iterate 9
                              refine Heads.step (v := ?_) rfl (by first | (go_simp; done) | rfl) (fun W hW => ?_) ?_
                              rotate_left
                              · (obtain ⟨t0, t1, t2⟩ := hW; go_simp; try with_reducible rfl)
                            have hbl0 : Below w4.heap.size w4 w4.drew := (Below.refl _ w4).drew
                            have kp := Keeps.of_below hbl0
                            replace g1 := kp _ _ g1
                            replace x1 := kp _ _ x1
                            replace x2 := kp _ _ x2
                            replace HG4 := Lib.hid (HG4.out.below hbl0)
                            clear hbl0 kp
                            generalize w4.drew = wd at *
                            refine AnyZ.one (i := 9) (by kernel_rfl) rfl (fun K hK => ?_)
                            go_simp
                            have hbl : Below wd.heap.size wd (wd.alloc (.cells #[.int .i64 (q : Nat), .int .i64 (r : Nat)] 48)) := (Below.refl _ _).alloc (Nat.le_refl _) _
                            obtain ⟨_, _, hsc⟩ := src_news wd #[.int .i64 (q : Nat), .int .i64 (r : Nat)] 48 2 1 rfl (by intro u hu; simp at hu; rcases hu with rfl | rfl <;> rfl)
                            obtain ⟨ad, hae, hsc⟩ := hsc (by omega)
                            injection hae with hae; subst hae
                            have kp := Keeps.of_below hbl
                            replace g1 := kp _ _ g1
                            replace x1 := kp _ _ x1
                            replace x2 := kp _ _ x2
                            have HG5 := Lib.hid (HG4.out.below hbl)
                            clear hbl kp
                            generalize wd.alloc (.cells #[.int .i64 (q : Nat), .int .i64 (r : Nat)] 48) = w5 at *
                            refine hK _ _ (fun _ => ⟨g1, x1, x2⟩) ?_
                            clear hK
                            obtain ⟨A', c', w6, hap, hown, hon⟩ := run_append_s elPr 25 HG5.out.o2 ⟨wd.heap.size, 0, none⟩ 1 [.int .i64 (q : Nat), .int .i64 (r : Nat)] rfl hsc (by intro u hu; simp at hu; rcases hu with rfl | rfl <;> rfl) (by omega) HG5.out.zz
                            have hap6 := HG5.out.and_ hown (by show _ = [Value.int .i64 ((h.graph (linA txt [])).X k), Value.int .i64 ((h.graph (linA txt [])).Y k)]; rw [HVL.out.1, HVL.out.2]) hon
                            have HG6 := Lib.hid hap6.2
                            have hX6 := hap6.1
                            have hA3 : ∀ b, blockOf A2 b → b < wq.heap.size := fun b hb => own_lt HG.out.o2 b hb
                            replace g1 := (box4 hX6).1.2.2.1
                            replace x1 := hon.cell x1 (by show ¬ blockOf A2 bN; intro hb; have := hA3 _ hb; omega)
                            replace x2 := hon.cell x2 (by show ¬ blockOf A2 bN; intro hb; have := hA3 _ hb; omega)
                            clear hon hsc hA3 hown hap6
                            refine AnyZ.one (i := 10) (by kernel_rfl) rfl (fun K hK => ?_)
                            rw [if_pos (by rfl)]
                            refine wpZ_append1 (.tmp 140) (.tmp 148) 25 rfl rfl rfl hap ?_
                            go_simp
                            refine hK _ _ (fun _ => ⟨g1, x1, x2⟩) ?_
                            clear hK hap
                            refine AnyZ.mid [11] [12] 1 rfl (by kernel_rfl) (by kernel_rfl) (by kernel_rfl) (fun _ _ _ _ e h => ⟨e.symm.trans h.1, h.2⟩) ⟨g1, x1, x2⟩ ?_
                            iterate 1
                              refine Heads.step (v := ?_) rfl (by first | (go_simp; done) | rfl) (fun W hW => ?_) ?_
                              rotate_left
                              · (obtain ⟨t0, t1, t2⟩ := hW; go_simp; try with_reducible rfl)
                            have z6 : w6.frozen? ⟨b8, 2, none⟩ = false := by simp [World.frozen?, hX6]
                            refine AnyZ.one (i := 12) (by kernel_rfl) rfl (fun K hK => ?_)
                            go_simp
                            refine hK _ _ (fun h => by cases h) (AnyZ.done (by kernel_rfl) ?_)
                            clear hK
                            go_simp
                            clear z6 hX6 g1 x1 x2
                            go_wp2_with fail
                            exact ⟨⟨k + 1, rest', A', c', by omega, by simp, HU2, HG6⟩, by simp [intOf]; omega⟩
                          · have q1 : (p : Int) ≤ max (q : Int) (r : Int) := by omega
                            have HBD : Hid (GrBad txt (h.i + h.l + h.o + k + 2)) := Lib.hid (.inr ⟨h, HD0.out, h.i + h.l + h.o + k, by unfold Hd.rows; omega, HU.out, an_not (by omega) hQ.symm hm, rfl⟩)
                            refine wp_region_z (fun w' => w'.cell? ⟨bN, oN, none⟩ = some (.int .i64 (p : Nat)) ∧ w'.cell? ⟨bN, oN + 1, none⟩ = some (.int .i64 (q : Nat)) ∧ w'.cell? ⟨bN, oN + 2, none⟩ = some (.int .i64 (r : Nat))) [0, 1, 2, 3, 4, 5, 6, 7, 8, 10, 11, 12] [] (by kernel_rfl) (by kernel_rfl) (by kernel_rfl) (by rfl) (fun _ _ _ _ e h => ⟨e.symm.trans h.1, h.2⟩) ⟨x0, x1, x2⟩ ?_
                            iterate 12
                              refine Heads.step (v := ?_) rfl (by first | (go_simp; done) | rfl) (fun W hW => ?_) ?_
                              rotate_left
                              · (obtain ⟨t0, t1, t2⟩ := hW; go_simp; try with_reducible rfl)
                            refine AnyZ.one (i := 9) (by kernel_rfl) rfl (fun K hK => ?_)
                            go_simp
                            refine hK _ _ (fun _ => ⟨x0, x1, x2⟩) ?_
                            clear hK
                            refine AnyZ.mid [13, 14] [] 0 rfl (by kernel_rfl) (by kernel_rfl) (by kernel_rfl) (fun _ _ _ _ e h => ⟨e.symm.trans h.1, h.2⟩) ⟨x0, x1, x2⟩ ?_
                            iterate 2
                              refine Heads.step (v := ?_) rfl (by first | (go_simp; done) | rfl) (fun W hW => ?_) ?_
                              rotate_left
                              · (obtain ⟨t0, t1, t2⟩ := hW; go_simp; try with_reducible rfl)
                            refine AnyZ.done (by kernel_rfl) ?_
                            go_simp
                            have HG4 := Lib.hid HG2.out.drew
                            replace x1 : w3.drew.cell? ⟨bN, oN + 1, none⟩ = some (.int .i64 (q : Nat)) := x1
                            replace x2 : w3.drew.cell? ⟨bN, oN + 2, none⟩ = some (.int .i64 (r : Nat)) := x2
                            clear x0
                            generalize w3.drew = w4 at *
                            clear x1 x2 hQ
                            have HX8 := Lib.hid HG4.out.g
                            have HX2 := Lib.hid HG4.out.r2
                            have HOV := Lib.hid HG4.out.only
                            have HCV : Hid (CurAt w4 bc rest' (h.i + h.l + h.o + k + 2)) := Lib.hid HG4.out.cur
                            obtain ⟨⟨x0, x1, x2, x3⟩, _⟩ := box4 HX8.out
                            obtain ⟨⟨y0, y1, y2, y3⟩, yz⟩ := box4 HX2.out
                            have yz0 := yz 0
                            have yz1 := yz 1
                            have yz2 := yz 2
                            have yz3 := yz 3
                            have hk := st4_only w4 b2 (.int .i64 (h.i : Int)) (.slice A1 h.l c1) (.slice A2 k c2) (.slice A3 h.o c3)
                            have hne : ¬ bc = b2 := by have := HE.out; have := HBC.out; omega
                            have HC5 := Lib.hid (hk.heap HCV.out hne)
                            have HOW5 := Lib.hid (HOV.out.then_ hk (fun i hi hs => by have := HE.out; omega))
                            clear yz hk hne
                            go_wp2_with fail
                            exact bodyPost_ret (v := .tuple #[.agg #[.int .i64 (h.i : Int), .slice A1 h.l c1, .slice A2 k c2, .slice A3 h.o c3], .bool false]) (outsA rfl rfl (st4_heap HX2.out _ _ _ _)) rfl ⟨.inl ⟨_, _, _, _, _, _, _, _, _, _, _, _, HBD.out, rfl, HC5.out⟩, HOW5.out⟩
                    · obtain rfl : h.a = k := by omega
                      obtain ⟨⟨x0, x1, x2, x3⟩, _⟩ := box4 HG.out.g
                      obtain ⟨⟨y0, y1, y2, y3⟩, yz⟩ := box4 HG.out.r2
                      have yz0 := yz 0
                      have yz1 := yz 1
                      have yz2 := yz 2
                      have yz3 := yz 3
                      have HR := Lib.hid (HG.out.res (.int .i64 (h.i : Int)) (.slice A1 h.l c1) (.slice A2 h.a c2) (.slice A3 h.o c3))
                      have HAT := Lib.hid (HG.out.at_ (.int .i64 (h.i : Int)) (.slice A1 h.l c1) (.slice A2 h.a c2) (.slice A3 h.o c3))
                      clear yz
                      go_wp2_with fail
                      exact bodyPost_ret (v := .tuple #[.agg #[.int .i64 (h.i : Int), .slice A1 h.l c1, .slice A2 h.a c2, .slice A3 h.o c3], .bool true]) (outsA rfl rfl HR.out.1) rfl ⟨.inr ⟨h, rest, A1, A2, A3, c1, c2, c3, HD0.out, HU.out, rfl, HAT.out, HR.out.2.1, HG.out.lin, HG.out.tl, HG.out.len⟩, HR.out.2.2⟩
end Go.Proofs.YtngjbiipgbeemaaDoor
