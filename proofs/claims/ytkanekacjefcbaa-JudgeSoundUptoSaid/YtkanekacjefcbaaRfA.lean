/- refute's add, walked: a clause more. Conditions: the holder and the clause lie in memory; the clause's numbers are literals. -/
import Derived.Test.YtkanekacjefcbaaRfH
import Derived.Test.YtkanekacjefcbaaDrawn2
import Derived.Deep.DeepCutAuto
namespace Go.Proofs.Ytkanekacjefcbaa
open Go.RowKit Go.Maps Go.ChangeShapes

theorem elRowR : Elem Try.prog 22 26 1 24 := elem_mk Try.underlying22 (z := .slice none 0 0) (by kernel_rfl) rfl (by omega) (by omega)
def gAll (cs : List (List Int)) (i : Nat) (x : Int) : Prop := ∃ c, cs[i]? = some c ∧ x ∈ c
def gPart (cs : List (List Int)) (l : List Int) (k : Nat) (i : Nat) (x : Int) : Prop := gAll cs i x ∨ (i = cs.length ∧ x ∈ l.take k)
theorem gPart_step {cs : List (List Int)} {l : List Int} {k i : Nat} {x : Int} (hk : k < l.length) (h : gPart cs l (k + 1) i x) : gPart cs l k i x ∨ (i = cs.length ∧ x = l.getD k 0) := by
  rcases h with h | ⟨h1, h2⟩
  · exact .inl (.inl h)
  · rw [List.take_succ_eq_append_getElem hk] at h2
    rcases List.mem_append.1 h2 with h2 | h2
    · exact .inl (.inr ⟨h1, h2⟩)
    · refine .inr ⟨h1, ?_⟩
      simp at h2
      rw [h2, List.getD_eq_getElem?_getD, List.getElem?_eq_getElem hk]; rfl
theorem gPart_all {cs : List (List Int)} {l : List Int} {i : Nat} {x : Int} (h : gAll (cs ++ [l]) i x) : gPart cs l l.length i x := by
  obtain ⟨c, h1, h2⟩ := h
  by_cases hi : i < cs.length
  · rw [List.getElem?_append_left hi] at h1
    exact .inl ⟨c, h1, h2⟩
  · have hi' : i = cs.length := by
      have := (List.getElem?_eq_some_iff.1 h1).1
      simp at this; omega
    rw [List.getElem?_append_right (by omega), hi', Nat.sub_self] at h1
    simp at h1
    subst h1
    exact .inr ⟨hi', by simpa using h2⟩
section
variable {w0 w : World} {b bm base c m cu K : Nat} {vars : Int} {cs : List (List Int)} {vs : List Value} {A U : Option Addr} {D : DataW Unit} {us : List Int} {G G' : Nat → Int → Prop}
theorem Hold.mono (h : Hold w0 w b bm base vars cs vs A c m D U cu us G K) (hG : ∀ i x, G' i x → G i x) : Hold w0 w b bm base vars cs vs A c m D U cu us G' K := { h with grp := h.grp.mono (Nat.le_refl _) hG }
theorem Hold.noUnit (h : Hold w0 w b bm base vars cs vs A c m D U cu us G K) (hx : ∀ x, cs[K]? = some x → ∃ p q, p ∈ x ∧ q ∈ x ∧ p ≠ q) : Hold w0 w b bm base vars cs vs A c m D U cu us G (K + 1) :=
  ⟨h.box, h.vlen, h.rows, h.cls, h.grp, h.un, h.u1, fun i x hi hc => by
    by_cases e : i < K
    · exact h.u2 i x e hc
    · obtain rfl : i = K := by omega
      exact .inr (hx x hc), h.bel, h.lt⟩
end
theorem step_store_map {P : Program} {w : World} {ops : Array Oper} {o : Oper} {a : Act} {K : Act → World → Prop} {Q : Exit → Act → World → Prop} {E : Prop} (hgd : o.guard = none) (m x v : Operand) (t : TypeId)
    (hop : o.op = Op.mapUpdate t m x v) {mv key val : Value} (hm : a.eval m = mv) (hx : a.eval x = key) (hv : a.eval v = val) {w2 : World} (hrun : (Instr.mapUpdate t mv key val).run P w = .ok () w2) (h : K (a.put o.dst undef) w2) :
    if Region.wanted o (yielded ops a.tmps) = true then Oper.wp P o a w K Q else E := by
  have hw : Region.wanted o (yielded ops a.tmps) = true := by simp [Region.wanted, hgd]
  rw [if_pos hw]
  unfold Oper.wp
  simp [execOp, hop, hm, hx, hv, hrun, Result.andThen]
  exact h

set_option maxHeartbeats 8000000 in
set_option maxRecDepth 100000 in
theorem add_any (w0 : World) (b bm base : Nat) (vars : Int) (cs : List (List Int)) (vs : List Value) (A : Option Addr) (c m : Nat) (D : DataW Unit) (U : Option Addr) (cu : Nat) (us : List Int) (l : List Int) (B : Option Addr) (d : Nat) (w : World)
    (h : Hold w0 w b bm base vars cs vs A c m D U cu us (gAll cs) cs.length) (hl : ClRow w0 B l) (hlit : LitsOk 100000 l) (hcs : cs.length ≤ 100000000) (hus : us.length ≤ 100000000) (hm : m + l.length ≤ 100000000) :
    Calls Try.prog 13 #[.pointer (some ⟨b, 0, none⟩), .slice B l.length d] w fun e w' => (∃ v, e = .returned v) ∧ Only (fun k => k = b ∨ k = bm ∨ base ≤ k) w w' ∧ ∃ A' c' D' U' cu' us', us'.length ≤ us.length + 1 ∧ Hold w0 w' b bm base vars (cs ++ [l]) (vs ++ [.slice B l.length d]) A' c' (m + l.length) D' U' cu' us' (gAll (cs ++ [l])) (cs ++ [l]).length := by
  have hcs1 : (cs ++ [l]).length = cs.length + 1 := by simp
  have HC1 := Lib.hid hcs1; clear hcs1
  have HLT := Lib.hid h.lt
  obtain ⟨p0, p1, p2, p3⟩ := h.at_
  have hlen : l.length ≤ 100000000 := by omega
  go_enter Try.func13, Try.ntmps13
  go_wp2_with (at_builtin; refine wp_append rfl (.tmp 18) (.tmp 20) _ rfl elRowR base A cs.length c _ rfl (h.alloc _).rows _ 1 1 [.slice B l.length d] rfl (src_new _ _ _ rfl) (by omega) (sz_alloc (by have := HLT.out; omega)) ?_; intro A' c' w8 ho hk' hb'; have HH := Lib.hid ((h.alloc _).clause (Nat.le_refl _) hk' ho hl); have b8 := ((h.alloc _).box.only hk' (fun c => by have := own_base h.rows _ c; have := HLT.out; omega)); have c8 := b8.cell (k := 1) (by omega); have f8 := b8.thaw 1; have HO9 := Lib.hid ((((Only.refl (fun k => k = b ∨ k = bm ∨ base ≤ k) w).alloc (.cells #[.slice B l.length d] 26)).then_ hk' (fun k _ c => .inr (.inr (own_base h.rows k c)))).setCell (p := ⟨b, 1, none⟩) (fun _ => .inl rfl) (.slice A' (cs.length + 1) c')); clear b8 ho hk' hb')
  generalize w8.setCell ⟨b, 1, none⟩ (.slice A' (cs.length + 1) c') = w9 at *
  clear c8 f8 p0 p1 p2 p3
  go_loopw [26] (fun ix wi => ∃ (k : Nat), k ≤ l.length ∧ ix = .int .i64 k ∧ Hid (Only (fun k => k = b ∨ k = bm ∨ base ≤ k) w wi) ∧ Hid (∃ D', Hold w0 wi b bm base vars (cs ++ [l]) (vs ++ [.slice B l.length d]) A' c' (m + k) D' U cu us (gPart cs l k) cs.length)) (fun ix _ => l.length - (intOf ix).toNat)
  case atStart => exact ⟨0, by omega, rfl, HO9, Lib.hid ⟨D, HH.out.mono (fun i x hx => hx.elim id (fun h => by simp at h))⟩⟩
  case round =>
    obtain ⟨k, hk, rfl, HOR, HM⟩ := hrel
    obtain ⟨D', H⟩ := HM.out
    clear HM HH h HLT HO9
    obtain ⟨p0, p1, p2, p3⟩ := H.at_
    have HLT := Lib.hid H.lt
    by_cases hlt : k < l.length
    · have hki : (k : Int) < l.length := by omega
      obtain ⟨ba, oa, hA, x0⟩ := (hl.keeps (Keeps.of_below H.bel)).at_ hlt
      have hLx := hlit _ (getD_mem hlt)
      have HGP : Hid (∀ i x, gPart cs l (k + 1) i x → gPart cs l k i x ∨ (i = cs.length ∧ x = l.getD k 0)) := Lib.hid (fun i x => gPart_step hlt)
      generalize l.getD k 0 = y at *
      obtain ⟨hy0, hy1, hy2⟩ := hLx
      have hwf := wf_lit (l := y) (by omega) (by omega)
      subst hA
      obtain ⟨Az, cz, zs, hrun, hri, hzl, _, _, hoi, hno, hback⟩ := H.grp.look (by unfold maxLen; omega) hwf
      have HRUN := Lib.hid hrun
      have HX := Lib.hid (And.intro hri (And.intro hzl (And.intro hoi (And.intro hno hback))))
      clear hrun hri hoi hno hback
      have hzb := hzl
      clear hzl
      go_upto_region 5 with (fail)
      have HS0 := Lib.hid (H.grp.same hwf HRUN.out (w' := wr.drew) rfl)
      have HSA := Lib.hid (H.grp.same hwf HRUN.out (w' := (wr.alloc (.cells #[.int .i64 cs.length] 3)).drew) (Below.heap_alloc wr _ bm H.grp.lt.1))
      have HUN := Lib.hid (And.intro H.un H.grp.lt)
      refine wp_region_z (fun w' => w'.cell? ⟨b, 2, none⟩ = some (.map (some bm)) ∧ (Instr.lookup 39 (.map (some bm)) (.int .i64 y) false).run Try.prog w' = .ok (.slice Az zs.length cz) w') [0, 1, 2, 3, 4, 5, 6, 7, 8, 9, 10, 11] [14] (by kernel_rfl) (by kernel_rfl) (by kernel_rfl) (by rfl) (fun _ _ _ _ e h => ⟨e.symm.trans h.1, h.2⟩) ⟨p2, HS0.out⟩ ?_
      iterate 12
        refine Heads.step (v := ?_) rfl (by rfl) (fun W hW => ?_) ?_
        rotate_left
        · (obtain ⟨s0, s1⟩ := hW; go_simp; try with_reducible rfl)
      refine AnyZ.one (i := 12) (by kernel_rfl) rfl (fun K hK => ?_)
      go_simp
      refine hK _ _ (fun _ => ⟨Keeps.alloc _ _ _ _ p2, HSA.out⟩) ?_
      clear hK
      refine AnyZ.one (i := 13) (by kernel_rfl) rfl (fun K hK => ?_)
      refine step_append (by rfl) (.tmp 40) (.tmp 42) _ (by rfl) elIntT base Az zs.length cz _ (by rfl) ((World.ownsRow.alloc HX.out.2.2.1.1 _).drew) _ 1 1 [.int .i64 cs.length] (by rfl) (Src.drew (src_new wr _ _ rfl)) (by omega) (by have := HLT.out; simp; omega) ?_
      intro A2 c2 w8 ho hk' hb'
      have hkw : Only (blockOf Az) wr w8 := ((Only.refl (blockOf Az) wr).alloc (.cells #[.int .i64 cs.length] 3)).trans ⟨hk'.os, hk'.tape, hk'.output, hk'.size, hk'.block⟩
      obtain ⟨hri, hzl, hoi, hno, hback⟩ := HX.out
      have hbm : w8.heap[bm]? = wr.heap[bm]? := hkw.block bm HUN.out.2.1 (fun c => by have := own_base hoi.1 _ c; have := HUN.out.2.2; omega)
      have p8 : w8.cell? ⟨b, 2, none⟩ = some (.map (some bm)) := hkw.cell p2 (fun c => by have c2 : blockOf Az b := c; have := own_base hoi.1 _ c2; have := HLT.out; omega)
      obtain ⟨w2, hrun2, hg2, hm2⟩ := H.grp.store (i := cs.length) (by unfold maxLen; omega) hwf (by rw [HC1.out]; omega) (by rw [HC1.out]; omega) hri hzl hoi hback hkw ho (fun q hq => by
        rcases hb' q hq with hz | hz
        · exact ⟨.inl hz, hno q hz⟩
        · have hz2 : wr.heap.size ≤ q := by first | omega | (simp at hz; omega)
          exact ⟨.inr hz2, fun c => by have := own_lt HUN.out.1 q c; omega⟩)
      have HON : Hid (Only (fun k => k = b ∨ k = bm ∨ base ≤ k) w w2) := Lib.hid ((HOR.out.trans (hkw.mono (fun k _ c => .inr (.inr (own_base hoi.1 k c))))).trans (hm2.mono (fun k _ c => .inr (.inl c))))
      have HN : Hid (∃ D', Hold w0 w2 b bm base vars (cs ++ [l]) (vs ++ [.slice (some ⟨ba, oa, none⟩) l.length d]) A' c' (m + (k + 1)) D' U cu us (gPart cs l (k + 1)) cs.length) := Lib.hid ⟨_, (H.book hoi.1 hno hkw hg2 hm2).mono (fun i x hx => HGP.out i x hx)⟩
      refine hK _ _ (fun _ => ⟨p8, H.grp.same hwf HRUN.out hbm⟩) ?_
      clear hK ho hk' hb' hbm hkw hg2 hm2 hri hoi hno hback p8
      have HR2 := Lib.hid hrun2; clear hrun2
      refine AnyZ.one (i := 14) (by kernel_rfl) rfl (fun K hK => ?_)
      refine step_store_map (by rfl) (.tmp 33) (.tmp 34) (.tmp 43) 39 (by rfl) (by rfl) (by rfl) (by rfl) HR2.out ?_
      refine hK _ _ (fun h => by cases h) (AnyZ.done (by kernel_rfl) ?_)
      clear hK HR2
      go_wp2_with fail
      go_roundw
      case rel => exact ⟨k + 1, by omega, by go_num, HON, HN⟩
      case measure => simp [intOf]; omega
    · obtain rfl : k = l.length := by omega
      have hmm := @run_makeMap Try.prog
      clear p0 p1 p2 p3
      go_wp2_with fail
      clear hmm
      have H1 := H.alloc (.map #[] 0)
      have HO1 := Lib.hid (HOR.out.alloc (.map #[] 0))
      have hnz : ∀ x, x ∈ l → x ≠ 0 := fun x hx => (hlit x hx).1
      obtain ⟨hop, ⟨hn0, hn2⟩, _⟩ := openF_is (fun _ => false) l hnz
      refine (open_any _ B d l wr.heap.size 0 (fun _ => false) _ (hl.keeps (Keeps.of_below H1.bel)) (by omega) hlit (HeldM.made wr)).mono ?_
      rintro e w1 ⟨rfl, rfl⟩
      have HOP := Lib.hid hop; clear hop
      generalize (openF (fun _ => false) l 0).1 = ox at *
      generalize (openF (fun _ => false) l 0).2 = on at *
      obtain ⟨p0, p1, p2, p3⟩ := H1.at_
      have HLT := Lib.hid H1.lt
      generalize wr.alloc (.map #[] 0) = w1 at *
      by_cases hu : on < 2
      · go_wp2_with (at_builtin; refine wp_append rfl (.tmp 58) (.tmp 60) _ rfl elIntT base U us.length cu _ rfl (H1.alloc _).un _ 1 1 [.int .i64 cs.length] rfl (src_new _ _ _ rfl) (by omega) (sz_alloc (by have := HLT.out; omega)) ?_; intro U' cu' w8 ho hk' hb'; have HH := Lib.hid ((H1.alloc _).unit (by rw [HC1.out]; omega) hk' ho (fun q hq => (hb' q hq).imp id (fun e => by omega))); have b8 := ((H1.alloc _).box.only hk' (fun c => by have := own_base H1.un _ c; have := HLT.out; omega)); have c8 := b8.cell (k := 3) (by omega); have f8 := b8.thaw 3; have HO9 := Lib.hid (((HO1.out.alloc (.cells #[.int .i64 cs.length] 3)).then_ hk' (fun k _ c => .inr (.inr (own_base H1.un k c)))).setCell (p := ⟨b, 3, none⟩) (fun _ => .inl rfl) (.slice U' (us.length + 1) cu')); clear b8 ho hk' hb')
        go_end0
        refine ⟨⟨_, rfl⟩, HO9.out, A', c', D', U', cu', us ++ [(cs.length : Int)], by simp, ?_⟩
        have h9 := HH.out.mono (G' := gAll (cs ++ [l])) (fun i x hx => gPart_all hx)
        rw [HC1.out]
        exact h9
      · go_wp2_with fail
        go_end0
        refine ⟨⟨_, rfl⟩, HO1.out, A', c', D', U, cu, us, by omega, ?_⟩
        have h9 := (H1.noUnit (fun x hx => by
          have hx' : x = l := by simpa using hx.symm
          subst hx'
          rcases HOP.out with ⟨e, _⟩ | ⟨e, _⟩ | ⟨_, p, q, h1, h2, h3, _⟩
          · omega
          · omega
          · exact ⟨p, q, h1, h2, h3⟩)).mono (G' := gAll (cs ++ [l])) (fun i x hx => gPart_all hx)
        rw [HC1.out]
        exact h9
end Go.Proofs.Ytkanekacjefcbaa
