/- SatParses, its walk: whatever text comes in, the law returns true: sat.Parse and the reference's CnfParse tell the same. Conditions: the text is shorter than 100000000 bytes; errors.errorType is as the program lays it. -/
import Derived.Test.YtlfjchlkooemdaaDoorPaR
import Derived.Test.YtlfjchlkooemdaaDoorFlP
namespace Go.Proofs.YtlfjchlkooemdaaDoor
open Go.RowKit Go.Shelf Go.Deep

theorem scan_len : ∀ (l : List UInt8) (i : Nat) (w : List UInt8) (m : Nat), (scan l i w m).length ≤ l.length + 1
  | [], i, w, m => by unfold scan; split <;> simp
  | b :: r, i, w, m => by
    unfold scan
    split
    · split
      · have := scan_len r (i + 1) [] 0; simp only [List.length_cons]; omega
      · have := scan_len r (i + 1) [] 2; simp only [List.length_cons]; omega
    · split
      · have := scan_len r (i + 1) [] 2; simp only [List.length_cons]; omega
      · split
        · have := scan_len r (i + 1) (w ++ [b]) 1; simp only [List.length_cons]; omega
        · have := scan_len r (i + 1) [] (if b = 10 then 0 else m)
          simp only [List.length_append, List.length_cons]
          split <;> simp <;> omega
theorem scan_wlen : ∀ (l : List UInt8) (i : Nat) (w : List UInt8) (m : Nat), ∀ x ∈ scan l i w m, x.1.length ≤ w.length + l.length
  | [], i, w, m => by
    unfold scan
    split
    · intro x hx; cases hx
    · intro x hx
      simp only [List.mem_singleton] at hx
      subst hx
      simp
  | b :: r, i, w, m => by
    unfold scan
    intro x hx
    split at hx
    · split at hx
      · have := scan_wlen r (i + 1) [] 0 x hx; simp only [List.length_nil, List.length_cons] at *; omega
      · have := scan_wlen r (i + 1) [] 2 x hx; simp only [List.length_nil, List.length_cons] at *; omega
    · split at hx
      · have := scan_wlen r (i + 1) [] 2 x hx; simp only [List.length_nil, List.length_cons] at *; omega
      · split at hx
        · have := scan_wlen r (i + 1) (w ++ [b]) 1 x hx; simp only [List.length_append, List.length_nil, List.length_cons] at *; omega
        · rcases List.mem_append.1 hx with h | h
          · split at h
            · cases h
            · simp only [List.mem_singleton] at h
              subst h
              simp
          · have := scan_wlen r (i + 1) [] (if b = 10 then 0 else m) x h; simp only [List.length_nil, List.length_cons] at *; omega
theorem bodyW_len (v n T : Nat) : ∀ (W : List Wd0) (cs : List (List Int)) (c : List Int) (x : List (List Int)), bodyW v n T W cs c = .inl x → x.length ≤ cs.length + W.length ∧ ∀ y ∈ x, y ∈ cs ∨ y.length ≤ c.length + W.length
  | [], cs, c, x => by
    simp only [bodyW]
    split
    · intro h; cases h
    · intro h
      injection h with h
      subst h
      exact ⟨by simp, fun y hy => .inl hy⟩
  | w :: r, cs, c, x => by
    simp only [bodyW]
    intro h
    split at h
    · cases h
    · split at h
      · have h1 := bodyW_len v n T r (cs ++ [c]) [] x h
        refine ⟨by have := h1.1; simp only [List.length_append, List.length_cons, List.length_nil] at *; omega, fun y hy => ?_⟩
        rcases h1.2 y hy with h2 | h2
        · rcases List.mem_append.1 h2 with h3 | h3
          · exact .inl h3
          · simp only [List.mem_singleton] at h3; subst h3; exact .inr (by simp)
        · exact .inr (by simp only [List.length_nil, List.length_cons] at *; omega)
      · split at h
        · cases h
        · have h1 := bodyW_len v n T r cs (c ++ [litB v w.1]) x h
          refine ⟨by have := h1.1; simp only [List.length_cons] at *; omega, fun y hy => ?_⟩
          rcases h1.2 y hy with h2 | h2
          · exact .inl h2
          · exact .inr (by simp only [List.length_append, List.length_nil, List.length_cons] at *; omega)
theorem parseW_len {W : List Wd0} {T : Nat} {x : List (List Int)} (h : parseW W T = .inl x) : x.length ≤ W.length ∧ ∀ y ∈ x, y.length ≤ W.length := by
  unfold parseW at h
  split at h
  · cases h
  · have h1 := bodyW_len _ _ _ _ _ _ _ h
    have hd : (W.drop 4).length ≤ W.length := by simp
    refine ⟨by have := h1.1; simp only [List.length_nil] at this; omega, fun y hy => ?_⟩
    rcases h1.2 y hy with h2 | h2
    · cases h2
    · simp only [List.length_nil] at h2; omega
theorem row1_at {w : World} {A : Option Addr} {n : Nat} {f : Nat → Value} (h : Row1 w A n f) {k : Nat} (hk : k < n) : ∃ b off, A = some ⟨b, off, none⟩ ∧ w.cell? ⟨b, off + k, none⟩ = some (f k) := by
  obtain ⟨b, off, e, hc⟩ := h (by omega)
  exact ⟨b, off, e, hc k hk⟩

set_option maxHeartbeats 8000000 in
set_option maxRecDepth 100000 in
/-- SameClauses of a list with itself, wherever they lie -/
theorem sameClauses_any (cs : List (List Int)) (A B : Option Addr) (c d : Nat) (w : World) (hA : ClM w A cs) (hB : ClM w B cs) (hn : cs.length ≤ 1000000000) (hl : ∀ i, i < cs.length → (cs.getD i []).length ≤ 1000000000) :
    Calls Tryd.prog 8 #[.slice A cs.length c, .slice B cs.length d] w fun e w' => e = .returned (.bool true) ∧ Below w.heap.size w w' := by
  obtain ⟨RA, RC, hA0, hA1⟩ := hA
  obtain ⟨RB, RD, hB0, hB1⟩ := hB
  obtain ⟨n, hne⟩ : ∃ n, n = cs.length := ⟨_, rfl⟩
  have HA0 := Lib.hid hA0; have HA1 := Lib.hid hA1; have HB0 := Lib.hid hB0; have HB1 := Lib.hid hB1; have HL := Lib.hid hl
  rw [← hne] at hn HA0 HA1 HB0 HB1 HL ⊢
  clear hA0 hA1 hB0 hB1 hl hne
  go_enter Tryd.func8, Tryd.ntmps8
  go_wp2_with fail
  go_loopw [5] (fun vi wr => ∃ i : Nat, i ≤ n ∧ vi = .int .i64 i ∧ Hid (∃ k, wr = w.drewN k)) (fun vi _ => n - (intOf vi).toNat)
  case atStart => exact ⟨0, by omega, rfl, Lib.hid ⟨0, rfl⟩⟩
  case round =>
    obtain ⟨i, hi, rfl, HK⟩ := hrel
    by_cases hlt : i < n
    · obtain ⟨k, hk⟩ := HK.out
      subst hk
      obtain ⟨ba, oa, rfl, xa⟩ := row1_at HA0.out hlt
      obtain ⟨bb, ob, rfl, xb⟩ := row1_at HB0.out hlt
      obtain ⟨m, hm⟩ : ∃ m, m = (cs.getD i []).length := ⟨_, rfl⟩
      have hml : m ≤ 1000000000 := by rw [hm]; exact HL.out i hlt
      have ra := HA1.out i hlt
      have rb := HB1.out i hlt
      rw [← hm] at xa xb ra rb
      obtain ⟨RAi, hRA⟩ : ∃ x, x = RA i := ⟨_, rfl⟩
      obtain ⟨RBi, hRB⟩ : ∃ x, x = RB i := ⟨_, rfl⟩
      rw [← hRA] at xa ra
      rw [← hRB] at xb rb
      have RA1 := Lib.hid ra; have RB1 := Lib.hid rb
      clear hRA hRB ra rb hm HK
      obtain ⟨wo, hwo⟩ : ∃ wo, wo = w.drewN k := ⟨_, rfl⟩
      have HW := Lib.hid hwo
      replace xa : wo.cell? ⟨ba, oa + i, none⟩ = some (.slice RAi m (RC i)) := by rw [hwo]; exact xa
      replace xb : wo.cell? ⟨bb, ob + i, none⟩ = some (.slice RBi m (RD i)) := by rw [hwo]; exact xb
      rw [← hwo]
      clear hwo
      go_upto_region 6 with (fail)
      refine wp_region_z (fun w' => w'.cell? ⟨ba, oa + i, none⟩ = some (.slice RAi m (RC i)) ∧ w'.cell? ⟨bb, ob + i, none⟩ = some (.slice RBi m (RD i))) [0, 1, 2, 3, 4, 5, 6, 7, 8, 9, 10] [] (by kernel_rfl) (by kernel_rfl) (by kernel_rfl) (by rfl) (fun _ _ _ _ e h => ⟨e.symm.trans h.1, h.2⟩) ⟨xa, xb⟩ ?_
      iterate 11
        refine Heads.step (v := ?_) rfl (by first | (go_simp; done) | rfl) (fun W hW => ?_) ?_
        rotate_left
        · (obtain ⟨t0, t1⟩ := hW; go_simp; try with_reducible rfl)
      refine AnyZ.done (by kernel_rfl) ?_
      go_simp
      obtain ⟨wp, hwp⟩ : ∃ wp, wp = wo.drew := ⟨_, rfl⟩
      have HW2 : Hid (∃ k, wp = w.drewN k) := Lib.hid ⟨k + 1, by rw [hwp, HW.out]; rfl⟩
      replace xa : wp.cell? ⟨ba, oa + i, none⟩ = some (.slice RAi m (RC i)) := by rw [hwp]; exact xa
      replace xb : wp.cell? ⟨bb, ob + i, none⟩ = some (.slice RBi m (RD i)) := by rw [hwp]; exact xb
      rw [← hwp]
      clear hwp HW
      go_wp2_with fail
      go_loopw [6] (fun vj wr => ∃ j : Nat, j ≤ m ∧ vj = .int .i64 j ∧ Hid (∃ k, wr = w.drewN k)) (fun vj _ => m - (intOf vj).toNat)
      case atStart => exact ⟨0, by omega, rfl, HW2⟩
      case round =>
        obtain ⟨j, hj, rfl, HK⟩ := hrel
        obtain ⟨k', hk'⟩ := HK.out
        subst hk'
        obtain ⟨wo2, hwo2⟩ : ∃ wo2, wo2 = w.drewN k' := ⟨_, rfl⟩
        have HW3 := Lib.hid hwo2
        have ya : wo2.cell? ⟨ba, oa + i, none⟩ = some (.slice RAi m (RC i)) := by
          obtain ⟨k2, h2⟩ := HW2.out
          rw [hwo2]; rw [h2] at xa; exact xa
        have yb : wo2.cell? ⟨bb, ob + i, none⟩ = some (.slice RBi m (RD i)) := by
          obtain ⟨k2, h2⟩ := HW2.out
          rw [hwo2]; rw [h2] at xb; exact xb
        by_cases hjl : j < m
        · obtain ⟨b1, o1, rfl, za⟩ := row1_at RA1.out hjl
          obtain ⟨b2, o2, rfl, zb⟩ := row1_at RB1.out hjl
          obtain ⟨z, hz⟩ : ∃ z : Int, iv (cs.getD i []) j = .int .i64 z := ⟨_, rfl⟩
          rw [hz] at za zb
          replace za : wo2.cell? ⟨b1, o1 + j, none⟩ = some (.int .i64 z) := by rw [hwo2]; exact za
          replace zb : wo2.cell? ⟨b2, o2 + j, none⟩ = some (.int .i64 z) := by rw [hwo2]; exact zb
          rw [← hwo2]
          clear hwo2 hz xa xb HK
          go_upto_region 11 with (fail)
          refine wp_region_z (fun w' => w'.cell? ⟨ba, oa + i, none⟩ = some (.slice (some ⟨b1, o1, none⟩) m (RC i)) ∧ w'.cell? ⟨bb, ob + i, none⟩ = some (.slice (some ⟨b2, o2, none⟩) m (RD i)) ∧ w'.cell? ⟨b1, o1 + j, none⟩ = some (.int .i64 z) ∧ w'.cell? ⟨b2, o2 + j, none⟩ = some (.int .i64 z)) [0, 1, 2, 3, 4, 5, 6, 7, 8, 9, 10, 11, 12, 13, 14] [] (by kernel_rfl) (by kernel_rfl) (by kernel_rfl) (by rfl) (fun _ _ _ _ e h => ⟨e.symm.trans h.1, h.2⟩) ⟨ya, yb, za, zb⟩ ?_
          iterate 15
            refine Heads.step (v := ?_) rfl (by first | (go_simp; done) | rfl) (fun W hW => ?_) ?_
            rotate_left
            · (obtain ⟨t0, t1, t2, t3⟩ := hW; go_simp; try with_reducible rfl)
          refine AnyZ.done (by kernel_rfl) ?_
          go_simp
          have HW4 : Hid (∃ k, wo2.drew = w.drewN k) := Lib.hid ⟨k' + 1, by rw [HW3.out]; rfl⟩
          generalize wo2.drew = wo3 at *
          go_wp2_with fail
          exact ⟨⟨j + 1, by omega, by simp, HW4⟩, by simp [intOf]; omega⟩
        · obtain rfl : m = j := by omega
          rw [← hwo2]
          have HW5 : Hid (∃ k, wo2 = w.drewN k) := Lib.hid ⟨k', hwo2⟩
          clear hwo2 xa xb HK
          go_wp2_with fail
          exact ⟨⟨i + 1, by omega, by simp, HW5⟩, by simp [intOf]; omega⟩
    · obtain rfl : n = i := by omega
      obtain ⟨k, hk⟩ := HK.out
      have HB : Hid (Below w.heap.size w wr) := Lib.hid (by rw [hk]; have h := Below.refl w.heap.size w; exact ⟨h.os, h.tape, h.output, h.size, h.block⟩)
      clear hk HK
      go_wp2_with fail
      go_ret
      exact ⟨rfl, HB.out⟩

theorem nil_clm (w : World) : ClM w none [] := ⟨fun _ => none, fun _ => 0, fun h => absurd h (Nat.not_lt_zero _), fun _ hi => absurd hi (Nat.not_lt_zero _)⟩
set_option maxHeartbeats 8000000 in
set_option maxRecDepth 100000 in
theorem cnfParsed_any (txt : List UInt8) (w : World) (hs : txt.length ≤ 100000000) (hg : ErrT w) :
    Calls Tryd.prog 4 #[.string (bstr txt)] w fun e w' => e = .returned (.bool true) ∧ Below w.heap.size w w' := by
  have HG := Lib.hid hg
  clear hg
  have hw1 : ∀ x ∈ scan txt 0 [] 0, x.1.length ≤ 1000000000 := fun x hx => by have := scan_wlen txt 0 [] 0 x hx; simp only [List.length_nil] at this; omega
  have hwx := scan_len txt 0 [] 0
  have hw2 : (scan txt 0 [] 0).length ≤ 1000000000 := by omega
  obtain ⟨s, hse⟩ : ∃ s, s = bstr txt := ⟨_, rfl⟩
  have hpa := parse_any txt w (by omega) hw1 hw2
  have hpb : ∀ w2 : World, Calls Tryd.prog 6 #[.string (bstr txt)] w2 fun e w' => (RcBad txt e ∨ RcFine txt e w') ∧ Below w2.heap.size w2 w' := fun w2 => cnfParse_any txt w2 (by omega) hw1 hw2
  rw [← hse] at hpa hpb ⊢
  clear hse hw1
  have HPB := Lib.hid hpb
  clear hpb
  go_enter Tryd.func4, Tryd.ntmps4
  go_wp2_with fail
  refine hpa.mono ?_
  rintro e w1 ⟨h, hb1⟩
  have HB1 := Lib.hid hb1
  clear hb1 hpa
  rcases h with ⟨p, bf, hp, rfl, hbf, hff⟩ | ⟨cs, A1, c1, hp, rfl, hM⟩
  · have HF1 := Lib.hid hff; have HP := Lib.hid hp
    clear hff hp hbf hw2
    go_wp2_with fail
    have n1 := heap_alloc_new w1 (.cells #[.int .i64 0, .slice none 0 0] 25)
    have b1 : Below w1.heap.size w1 (w1.alloc (.cells #[.int .i64 0, .slice none 0 0] 25)) := (Below.refl _ _).alloc (Nat.le_refl _) _
    have z1 : (w1.alloc (.cells #[.int .i64 0, .slice none 0 0] 25)).heap.size = w1.heap.size + 1 := by simp
    have hF1 := heap_below b1 HF1.out
    have hB1 := HB1.out.trans (b1.mono HB1.out.size)
    generalize w1.alloc (.cells #[.int .i64 0, .slice none 0 0] 25) = w2 at *
    obtain ⟨bA, hbA⟩ : ∃ b, b = w1.heap.size := ⟨_, rfl⟩
    rw [← hbA] at n1 z1 ⊢
    have HB2 := Lib.hid hB1; have HN1 := Lib.hid n1
    have HF2 := Lib.hid hF1
    clear hF1
    clear n1 b1 hB1 hbA z1
    refine (HPB.out w2).mono ?_
    rintro e w3 ⟨h, hb3⟩
    have HB3 := Lib.hid (HB2.out.trans (hb3.mono HB2.out.size))
    have HN3 := Lib.hid (heap_below hb3 HN1.out)
    have HF3 := Lib.hid (heap_below hb3 HF2.out)
    rcases h with ⟨p', hp2, rfl⟩ | ⟨cs2, A2, c2, hp2, rfl, hM⟩
    rotate_left
    · rw [HP.out] at hp2; cases hp2
    rw [HP.out] at hp2
    injection hp2 with hp2
    subst hp2
    clear hb3 HF2 HN1 HB2
    go_wp2_with fail
    have n4 := heap_alloc_new w3 (.cells #[.int .i64 0, .slice none 0 0] 25)
    have b4 : Below w3.heap.size w3 (w3.alloc (.cells #[.int .i64 0, .slice none 0 0] 25)) := (Below.refl _ _).alloc (Nat.le_refl _) _
    have z4 : (w3.alloc (.cells #[.int .i64 0, .slice none 0 0] 25)).heap.size = w3.heap.size + 1 := by simp
    generalize w3.alloc (.cells #[.int .i64 0, .slice none 0 0] 25) = w4 at *
    have n5 := heap_alloc_new w4 (.cells #[.int .i64 1, .int .i64 (p : Nat)] 31)
    have b5 : Below w4.heap.size w4 (w4.alloc (.cells #[.int .i64 1, .int .i64 (p : Nat)] 31)) := (Below.refl _ _).alloc (Nat.le_refl _) _
    generalize w4.alloc (.cells #[.int .i64 1, .int .i64 (p : Nat)] 31) = w5 at *
    rw [z4] at n5
    have b45 : Below w3.heap.size w3 w5 := b4.trans (b5.mono (by omega))
    have HN5 := Lib.hid (heap_below b45 HN3.out)
    have HR5 := Lib.hid (heap_below b5 n4)
    have HB5 := Lib.hid (HB3.out.trans (b45.mono HB3.out.size))
    have HF5 := Lib.hid (heap_below b45 HF3.out)
    clear HF3
    clear n4 b4 b5 b45 HB3 HN3
    try clear n5
    obtain ⟨bB, hbB⟩ : ∃ b, b = w3.heap.size := ⟨_, rfl⟩
    rw [← hbB] at HR5 ⊢
    refine (faulty_at bf 1 (p : Nat) w5 (HG.out.below HB5.out) HF5.out).mono ?_
    rintro e w6 ⟨rfl, b6⟩
    have HN6 := Lib.hid (heap_below b6 HN5.out)
    have HR6 := Lib.hid (heap_below b6 HR5.out)
    have HB6 := Lib.hid (HB5.out.trans (b6.mono HB5.out.size))
    clear b6 HN5 HR5 HB5 hbB z4
    obtain ⟨⟨x0, x1⟩, _⟩ := box2 HN6.out
    obtain ⟨⟨y0, y1⟩, _⟩ := box2 HR6.out
    go_wp2_with fail
    refine (sameClauses_any [] none none 0 0 w6 (nil_clm _) (nil_clm _) (by simp) (fun _ hi => absurd hi (Nat.not_lt_zero _))).mono ?_
    rintro e w7 ⟨rfl, b7⟩
    have kp := Keeps.of_below b7
    replace x0 := kp _ _ x0
    replace y0 := kp _ _ y0
    have HB7 := Lib.hid (HB6.out.trans (b7.mono HB6.out.size))
    clear b7 kp x1 y1
    go_wp2_with fail
    go_ret
    exact ⟨rfl, HB7.out⟩
  · have HM1 := Lib.hid hM; have HP := Lib.hid hp
    have hpl := parseW_len hp
    have HCN : Hid (cs.length ≤ 1000000000) := Lib.hid (by omega)
    have HCL : Hid (∀ i, i < cs.length → (cs.getD i []).length ≤ 1000000000) := Lib.hid (fun i hi => by
      have h := hpl.2 (cs.getD i []) (by rw [List.getD_eq_getElem?_getD, List.getElem?_eq_getElem hi]; exact List.getElem_mem hi)
      omega)
    obtain ⟨vs, hvs⟩ : ∃ v, v = hdN (scan txt 0 [] 0) 2 := ⟨_, rfl⟩
    rw [← hvs]
    have HVS := Lib.hid hvs
    clear hM hp hpl hw2 hvs
    go_wp2_with fail
    have n1 := heap_alloc_new w1 (.cells #[.int .i64 (vs : Int), .slice A1 cs.length c1] 25)
    have b1 : Below w1.heap.size w1 (w1.alloc (.cells #[.int .i64 (vs : Int), .slice A1 cs.length c1] 25)) := (Below.refl _ _).alloc (Nat.le_refl _) _
    have z1 : (w1.alloc (.cells #[.int .i64 (vs : Int), .slice A1 cs.length c1] 25)).heap.size = w1.heap.size + 1 := by simp
    have hM1 := HM1.out.keeps (Keeps.of_below b1)
    have hB1 := HB1.out.trans (b1.mono HB1.out.size)
    generalize w1.alloc (.cells #[.int .i64 (vs : Int), .slice A1 cs.length c1] 25) = w2 at *
    obtain ⟨bA, hbA⟩ : ∃ b, b = w1.heap.size := ⟨_, rfl⟩
    rw [← hbA] at n1 z1 ⊢
    have HB2 := Lib.hid hB1; have HN1 := Lib.hid n1
    have HM2 := Lib.hid hM1
    clear hM1
    clear n1 b1 hB1 hbA z1
    refine (HPB.out w2).mono ?_
    rintro e w3 ⟨h, hb3⟩
    have HB3 := Lib.hid (HB2.out.trans (hb3.mono HB2.out.size))
    have HN3 := Lib.hid (heap_below hb3 HN1.out)
    have HM3 := Lib.hid (HM2.out.keeps (Keeps.of_below hb3))
    rcases h with ⟨p, hp2, rfl⟩ | ⟨cs2, A2, c2, hp2, rfl, hM⟩
    · rw [HP.out] at hp2; cases hp2
    rw [HP.out] at hp2
    injection hp2 with hp2
    subst hp2
    rw [← HVS.out]
    have HQ3 := Lib.hid hM
    clear hM hb3 HM2 HN1 HB2
    go_wp2_with fail
    have n4 := heap_alloc_new w3 (.cells #[.int .i64 (vs : Int), .slice A2 cs.length c2] 25)
    have b4 : Below w3.heap.size w3 (w3.alloc (.cells #[.int .i64 (vs : Int), .slice A2 cs.length c2] 25)) := (Below.refl _ _).alloc (Nat.le_refl _) _
    have z4 : (w3.alloc (.cells #[.int .i64 (vs : Int), .slice A2 cs.length c2] 25)).heap.size = w3.heap.size + 1 := by simp
    generalize w3.alloc (.cells #[.int .i64 (vs : Int), .slice A2 cs.length c2] 25) = w4 at *
    have n5 := heap_alloc_new w4 (.cells #[.int .i64 0, .int .i64 0] 31)
    have b5 : Below w4.heap.size w4 (w4.alloc (.cells #[.int .i64 0, .int .i64 0] 31)) := (Below.refl _ _).alloc (Nat.le_refl _) _
    generalize w4.alloc (.cells #[.int .i64 0, .int .i64 0] 31) = w5 at *
    rw [z4] at n5
    have b45 : Below w3.heap.size w3 w5 := b4.trans (b5.mono (by omega))
    have HN5 := Lib.hid (heap_below b45 HN3.out)
    have HR5 := Lib.hid (heap_below b5 n4)
    have HB5 := Lib.hid (HB3.out.trans (b45.mono HB3.out.size))
    have HM5 := Lib.hid (HM3.out.keeps (Keeps.of_below b45)); have HQ5 := Lib.hid (HQ3.out.keeps (Keeps.of_below b45))
    clear HM3 HQ3
    clear n4 b4 b5 b45 HB3 HN3
    try clear n5
    obtain ⟨bB, hbB⟩ : ∃ b, b = w3.heap.size := ⟨_, rfl⟩
    rw [← hbB] at HR5 ⊢
    refine (faulty_no w5).mono ?_
    rintro e w6 ⟨rfl, b6⟩
    have HN6 := Lib.hid (heap_below b6 HN5.out)
    have HR6 := Lib.hid (heap_below b6 HR5.out)
    have HB6 := Lib.hid (HB5.out.trans (b6.mono HB5.out.size))
    have HM6 := Lib.hid (HM5.out.keeps (Keeps.of_below b6)); have HQ6 := Lib.hid (HQ5.out.keeps (Keeps.of_below b6))
    clear HM5 HQ5
    clear b6 HN5 HR5 HB5 hbB z4
    obtain ⟨⟨x0, x1⟩, _⟩ := box2 HN6.out
    obtain ⟨⟨y0, y1⟩, _⟩ := box2 HR6.out
    go_wp2_with fail
    refine (sameClauses_any cs A1 A2 c1 c2 w6 HM6.out HQ6.out HCN.out HCL.out).mono ?_
    rintro e w7 ⟨rfl, b7⟩
    have kp := Keeps.of_below b7
    replace x0 := kp _ _ x0
    replace y0 := kp _ _ y0
    have HB7 := Lib.hid (HB6.out.trans (b7.mono HB6.out.size))
    clear b7 kp x1 y1
    go_wp2_with fail
    go_ret
    exact ⟨rfl, HB7.out⟩

set_option maxHeartbeats 8000000 in
set_option maxRecDepth 100000 in
theorem satParses_walk (s : ByteArray) (w : World) (hs : s.size ≤ 100000000) (hg : ErrT w) :
    Calls Tryd.prog 3 #[.string s] w fun e w' => e = .returned (.bool true) ∧ Below w.heap.size w w' := by
  have HG := Lib.hid hg
  clear hg
  have hc := fun w1 h => cnfParsed_any s.data.toList w1 (by rw [show s.data.toList.length = s.size from rfl]; exact hs) h
  rw [bstr_of] at hc
  have HC := Lib.hid hc
  clear hc
  go_enter Tryd.func3, Tryd.ntmps3
  go_upto_region 1 with (fail)
  have h0 : ∀ t : ByteArray, t.size ≤ 100000000 → Calls Tryd.prog 4 #[.string t] w fun e w' => e = .returned (.bool true) ∧ Below w.heap.size w w' := fun t ht => by
    have h := cnfParsed_any t.data.toList w (by rw [show t.data.toList.length = t.size from rfl]; exact ht) HG.out
    rw [bstr_of] at h; exact h
  go_wp2_with fail
  refine (h0 _ (by decide)).mono ?_
  rintro e w1 ⟨rfl, b1⟩
  have HB1 := Lib.hid b1
  clear b1 h0
  go_wp2_with fail
  refine (HC.out w1 (HG.out.below HB1.out)).mono ?_
  rintro e w2 ⟨rfl, b2⟩
  have HB2 := Lib.hid (HB1.out.trans (b2.mono HB1.out.size))
  clear b2
  go_wp2_with fail
  go_ret
  exact ⟨rfl, HB2.out⟩
end Go.Proofs.YtlfjchlkooemdaaDoor
