/- The reference's seven, most and AigPack, walked: the graph's bytes. Conditions: the graph is valid and lies in memory. -/
import Derived.Test.YtngjbiipgbeemaaDoorSvP
import Derived.Test.YtngjbiipgbeemaaDoorMrk
import Derived.Test.YtngjbiipgbeemaaDoorRt2
import Derived.Lib.MinMax
namespace Go.Proofs.YtngjbiipgbeemaaDoor
open Go.RowKit

/-- a slice of bytes of the call's own -/
def Byt (base : Nat) (w : World) (A : Option Addr) (c : Nat) (l : List UInt8) : Prop := OwnB base w A l.length c (Lib.byteCells l)
theorem Byt.nil (base : Nat) (w : World) : Byt base w none 0 [] := OwnB.nil _ _
theorem Byt.alloc {base : Nat} {w : World} {A : Option Addr} {c : Nat} {l : List UInt8} (h : Byt base w A c l) (o : Obj) : Byt base (w.alloc o) A c l := OwnB.alloc h o
theorem Byt.below {base : Nat} {w w1 : World} {A : Option Addr} {c : Nat} {l : List UInt8} (h : Byt base w A c l) (k : Below w.heap.size w w1) : Byt base w1 A c l := OwnB.below h k

theorem Byt.snoc {base : Nat} {w : World} {A : Option Addr} {c : Nat} {l : List UInt8} {x : UInt8} (h : OwnB base w A (l.length + 1) c (Lib.byteCells l ++ [.int .u8 (x.toNat : Int)])) : Byt base w A c (l ++ [x]) := by
  unfold Byt
  rw [Lib.byteCells_append, List.length_append]; exact h
theorem Byt.far {A A1 A' : Option Addr} {w wr : World} {o : Obj} (h : ∀ k, blockOf A1 k → blockOf A k ∨ w.heap.size ≤ k) (h' : ∀ k, blockOf A' k → blockOf A1 k ∨ k = (wr.alloc o).heap.size) (hs : w.heap.size ≤ wr.heap.size) : ∀ k, blockOf A' k → blockOf A k ∨ w.heap.size ≤ k := fun k hk => by
  rcases h' k hk with h1 | h1
  · exact h k h1
  · right; rw [h1]; simp; omega

/-- what a writer of bytes leaves: these bytes; but for the slice's own block, what was there stands -/
def Bytes (base : Nat) (A : Option Addr) (w : World) (l : List UInt8) (e : Ending) (w' : World) : Prop :=
  ∃ A' c', e = .returned (.slice A' l.length c') ∧ Byt base w' A' c' l ∧ Only (blockOf A) w w' ∧ ∀ k, blockOf A' k → blockOf A k ∨ w.heap.size ≤ k

theorem Bytes.below {base : Nat} {A : Option Addr} {w w' : World} {n c : Nat} {xs : List Value} (h : OwnB base w A n c xs) (k : Only (blockOf A) w w') (hb : base ≤ w.heap.size) : Below base w w' := k.below (fun j _ hs => (h.base j hs).1) hb

set_option maxHeartbeats 1000000 in
theorem refSeven_any (n : Nat) (w : World) (hn : n < 1000000000) :
    Calls Tryd.prog 20 #[.int .i64 n] w (Bytes w.heap.size none w (sevenB n)) := by
  go_enter Tryd.func20, Tryd.ntmps20
  go_wp2_with fail
  go_loopw [0, 3] (fun v b wr => ∃ (m : Nat) (A1 : Option Addr) (c1 : Nat) (l1 : List UInt8), v = .int .i64 m ∧ b = .slice A1 l1.length c1 ∧ m ≤ n ∧ Hid (Byt w.heap.size wr A1 c1 l1 ∧ l1 ++ sevenB m = sevenB n ∧ Only (blockOf none) w wr ∧ ∀ k, blockOf A1 k → blockOf none k ∨ w.heap.size ≤ k)) (fun v _ _ => (intOf v).toNat)
  case atStart => exact ⟨n, none, 0, [], rfl, rfl, Nat.le_refl _, Lib.hid ⟨Byt.nil _ _, rfl, Only.refl _ _, fun k hk => .inl hk⟩⟩
  case round =>
    obtain ⟨m, A1, c1, l1, rfl, rfl, hm, HR⟩ := hrel
    have HW := Lib.hid HR.out.1
    have hsz : w.heap.size ≤ wr.heap.size := HR.out.2.2.1.size
    have hll : l1.length ≤ 10 := by
      have h1 := congrArg List.length HR.out.2.1
      have h2 := seven_len5 (n := n) (by omega)
      simp only [List.length_append] at h1; omega
    by_cases h127 : 127 < m
    · have hbits : ((m : Int) % 128 + 128) = ((UInt8.ofNat (m % 128 + 128)).toNat : Int) := by rw [u8_of (by omega)]; omega
      have HB := Lib.hid hbits; clear hbits
      have HE := Lib.hid (seven_more h127)
      generalize UInt8.ofNat (m % 128 + 128) = x at *
      go_wp2_with (at_builtin; refine wp_append_b rfl (.tmp 6) (.tmp 11) rfl w.heap.size A1 l1.length c1 _ rfl (OwnB.alloc HW.out _) _ 1 1 _ rfl (src_new _ _ _ rfl) (by omega) (sz_alloc hsz) ?_; intro A' c' w' ho hk hb2)
      rw [HB.out] at ho hk
      have HN : Hid (Byt w.heap.size w' A' c' (l1 ++ [x]) ∧ (l1 ++ [x]) ++ sevenB (m / 128) = sevenB n ∧ Only (blockOf none) w w' ∧ ∀ k, blockOf A' k → blockOf none k ∨ w.heap.size ≤ k) := by
        refine Lib.hid ⟨Byt.snoc ho, ?_, (HR.out.2.2.1.alloc _).then_ hk (fun i hi c => (HR.out.2.2.2 i c).resolve_right (by omega)), Byt.far HR.out.2.2.2 hb2 HR.out.2.2.1.size⟩
        rw [← HR.out.2.1, HE.out, List.append_assoc]; rfl
      clear ho hk hb2
      go_wp2_with fail
      go_roundw
      case rel => exact ⟨m / 128, A', c', l1 ++ [x], by simp, by simp, by omega, HN⟩
      case measure => simp [intOf]; omega
    · have HE := Lib.hid (seven_last h127)
      have hm8 : ((m : Int)) = ((UInt8.ofNat m).toNat : Int) := (u8_of (by omega)).symm
      have HM8 := Lib.hid hm8; clear hm8
      go_wp2_with (at_builtin; refine wp_append_b rfl (.tmp 15) (.tmp 18) rfl w.heap.size A1 l1.length c1 _ rfl (OwnB.alloc HW.out _) _ 1 1 _ rfl (src_new _ _ _ rfl) (by omega) (sz_alloc hsz) ?_; intro A' c' w' ho hk hb2)
      rw [HM8.out] at ho hk
      have HN : Hid (Byt w.heap.size w' A' c' (sevenB n) ∧ Only (blockOf none) w w' ∧ ∀ k, blockOf A' k → blockOf none k ∨ w.heap.size ≤ k) := by
        have he : sevenB n = l1 ++ [UInt8.ofNat m] := by rw [← HR.out.2.1, HE.out]
        rw [he]
        exact Lib.hid ⟨Byt.snoc ho, (HR.out.2.2.1.alloc _).then_ hk (fun i hi c => (HR.out.2.2.2 i c).resolve_right (by omega)), Byt.far HR.out.2.2.2 hb2 HR.out.2.2.1.size⟩
      have hle : l1.length + 1 = (sevenB n).length := by rw [← HR.out.2.1, HE.out]; simp
      have HLE := Lib.hid hle; clear hle
      clear ho hk hb2
      go_wp2_with fail
      go_ret
      exact ⟨A', c', by rw [← HLE.out]; rfl, HN.out⟩

theorem refSeven_int (n : Int) (w : World) (h0 : 0 ≤ n) (hn : n < 1000000000) :
    Calls Tryd.prog 20 #[.int .i64 n] w (Bytes w.heap.size none w (sevenB n.toNat)) := by
  obtain ⟨m, rfl⟩ := Int.eq_ofNat_of_zero_le h0
  exact refSeven_any m w (by omega)
theorem Bytes.call {w w' : World} (k : Only (blockOf none) w w') : Below w.heap.size w w' := k.all (fun k _ h => by obtain ⟨a, e, _⟩ := h; cases e)
theorem Byt.join {base : Nat} {w : World} {A : Option Addr} {c : Nat} {l s L : List UInt8} (h : OwnB base w A (l.length + s.length) c (Lib.byteCells l ++ Lib.byteCells s)) (e : L = l ++ s) : OwnB base w A L.length c (Lib.byteCells L) := by
  subst e
  rw [Lib.byteCells_append, List.length_append]; exact h

theorem refMost_any (a b : Int) (w : World) : Calls Tryd.prog 19 #[.int .i64 a, .int .i64 b] w fun e w' => e = .returned (.int .i64 (max a b)) ∧ w' = w := by
  by_cases h : a < b
  · go_enter Tryd.func19, Tryd.ntmps19
    go_wp2
    go_ret
    exact ⟨ret_int (by omega), rfl⟩
  · go_enter Tryd.func19, Tryd.ntmps19
    go_wp2
    go_ret
    exact ⟨ret_int (by omega), rfl⟩
/-- bytes handed back in new memory -/
def MadeB (l : List UInt8) (w : World) (e : Ending) (w' : World) : Prop := ∃ A c Z, e = .returned (.slice A l.length c) ∧ OwnB Z w' A l.length c (Lib.byteCells l) ∧ Below w.heap.size w w'

theorem lat_line2 (g : G) (i : Nat) : lineOf (g.latL2 i) = latS (g.L i) (g.I i) := by
  have h1 : Lib.itoa 1 = [49] := by
    rw [show (1 : Int) = ((1 : Nat) : Int) from rfl, Lib.itoa_nonneg, dec_last (by omega)]; rfl
  unfold G.latL2 latS
  cases g.I i
  · simp [line1]
  · simp [line2, h1]
theorem OwnB.src {base : Nat} {w : World} {A : Option Addr} {c : Nat} {l : List UInt8} (h : OwnB base w A l.length c (Lib.byteCells l)) : Src w 1 A l.length (Lib.byteCells l) := by
  refine ⟨by simp [Lib.byteCells], fun u hu => ?_, fun hn => ?_⟩
  · obtain ⟨x, _, rfl⟩ := List.mem_map.1 hu; rfl
  · obtain ⟨b, off, rfl, hc⟩ := h.row hn
    refine ⟨_, rfl, fun j u hj => ?_⟩
    have hjl : j < l.length := by have := (List.getElem?_eq_some_iff.1 hj).1; simpa [Lib.byteCells] using this
    rw [add_eq, hc j hjl]
    show some ((Lib.byteCells l).getD j undef) = some u
    rw [List.getD_eq_getElem?_getD, hj]; rfl

set_option maxHeartbeats 8000000 in
set_option maxRecDepth 100000 in
theorem aigPack_any (g : G) (A1 A2 A3 : Option Addr) (c1 c2 c3 : Nat) (w : World) (hs : g.Small) (hg : g.At w A1 A2 A3) :
    Calls Tryd.prog 9 #[.agg #[.int .i64 g.ins, .slice A1 g.n1 c1, .slice A2 g.n2 c2, .slice A3 g.n3 c3]] w (MadeB (g.pack g.n2) w) := by
  have i0 := hs.v.i0; have i1 := hs.v.i1; have i2 := hs.v.n; have i3 := hs.v.n1; have i4 := hs.v.n3
  have HSM := Lib.hid hs; have HG := Lib.hid hg
  clear hs hg
  go_enter Tryd.func9, Tryd.ntmps9
  have hq := BoxAt.new w [.int .i64 g.ins, .slice A1 g.n1 c1, .slice A2 g.n2 c2, .slice A3 g.n3 c3] 28
  have HV := Lib.hid ((Below.refl w.heap.size w).alloc (Nat.le_refl _) (.cells #[.int .i64 g.ins, .slice A1 g.n1 c1, .slice A2 g.n2 c2, .slice A3 g.n3 c3] 28))
  have hvz : w.heap.size < (w.alloc (.cells #[.int .i64 g.ins, .slice A1 g.n1 c1, .slice A2 g.n2 c2, .slice A3 g.n3 c3] 28)).heap.size := by simp
  go_wp2_with fail
  generalize w.alloc (.cells #[.int .i64 g.ins, .slice A1 g.n1 c1, .slice A2 g.n2 c2, .slice A3 g.n3 c3] 28) = v at *
  refine (refHead_any [97, 105, 103] g A1 A2 A3 c1 c2 c3 v HSM.out (by simp)).mono ?_
  rintro e w1 ⟨rfl, k1⟩
  have HQ := Lib.hid hq
  have hx : str (g.headT [97, 105, 103]) = str (g.plat 0) := by simp [G.plat, cat]
  rw [hx]; clear hx
  have HB1 := Lib.hid k1
  replace hq := hq.keeps (Keeps.of_below k1)
  clear k1
  obtain ⟨g0, g1, g2, g3⟩ := hq.four
  go_wp2_with fail
  go_loopw [3, 4] (fun s i wr => ∃ k : Nat, k ≤ g.n1 ∧ i = .int .i64 k ∧ s = .string (str (g.plat k)) ∧ Hid (Below v.heap.size v wr)) (fun _ i _ => g.n1 - (intOf i).toNat)
  case atStart => exact ⟨0, by omega, rfl, rfl, HB1⟩
  case round =>
    obtain ⟨k, hk, rfl, rfl, HB⟩ := hrel
    have hq := HQ.out.keeps (Keeps.of_below HB.out)
    obtain ⟨g0, g1, g2, g3⟩ := hq.four
    have HK : Hid (Below w.heap.size w wr) := Lib.hid (HV.out.trans (HB.out.mono (by omega)))
    by_cases hlt : k < g.n1
    · obtain ⟨b1, o1, rfl, x0, x1⟩ := (HG.out.keeps (Keeps.of_below HK.out)).lat.at2 hlt
      simp only [two] at x0 x1
      have hlk := HSM.out.lat k hlt
      have hl := G.plat_len HSM.out hk
      have ls := latS_len (g.L k) (g.I k) hlk.1 hlk.2
      have db : ∀ W, (Op.stringOp .add (str (g.plat k)) (str (latS (g.L k) (g.I k)))).run Tryd.prog W = .ok (.string (str (g.plat (k + 1)))) W := by
        rw [show g.plat (k + 1) = (g.plat k) ++ (latS (g.L k) (g.I k)) by rw [← lat_line2]; exact (List.append_assoc ..).symm]
        exact run_cat (g.plat k) (latS (g.L k) (g.I k)) (by omega)
      go_wp2_with fail
      refine (refFirst_any (g.L k) (g.I k) _ hlk.1 hlk.2).mono ?_
      rintro e w2 ⟨rfl, k2⟩
      have HB2 := Lib.hid (Below.then_call HB.out k2 HB.out.size)
      clear k2
      go_wp2_with fail
      go_roundw
      case rel => exact ⟨k + 1, by omega, by go_num, rfl, HB2⟩
      case measure => simp [intOf]; omega
    · obtain rfl : k = g.n1 := by omega
      have hx : str (g.plat g.n1) = str (g.pout 0) := by simp [G.pout, cat]
      rw [hx]; clear hx hk
      go_wp2_with fail
      clear hlt
      go_loopw [3, 5] (fun s i wr => ∃ k : Nat, k ≤ g.n3 ∧ i = .int .i64 k ∧ s = .string (str (g.pout k)) ∧ Hid (Below v.heap.size v wr)) (fun _ i _ => g.n3 - (intOf i).toNat)
      case atStart => exact ⟨0, by omega, rfl, rfl, HB⟩
      case round =>
        obtain ⟨k, hk, rfl, rfl, HB⟩ := hrel
        have hq := HQ.out.keeps (Keeps.of_below HB.out)
        obtain ⟨g0, g1, g2, g3⟩ := hq.four
        have HK : Hid (Below w.heap.size w wr) := Lib.hid (HV.out.trans (HB.out.mono (by omega)))
        by_cases hlt : k < g.n3
        · obtain ⟨b3, o3, rfl, x0⟩ := (HG.out.keeps (Keeps.of_below HK.out)).outs.at_ hlt
          have hlk := HSM.out.outs k hlt
          have hl := G.pout_len HSM.out hk
          have li := itoa_len (g.O k) (by omega) (by omega)
          have dm := run_cat (P := Tryd.prog) (g.pout k) (Lib.itoa (g.O k)) (by omega)
          obtain ⟨p1, hp⟩ : ∃ p, p = (g.pout k) ++ (Lib.itoa (g.O k)) := ⟨_, rfl⟩
          rw [← hp] at dm
          have lp1 : p1.length ≤ 5000100 := by rw [hp]; simp; omega
          have Hp1 := Lib.hid hp; clear hp
          have da : ∀ W, (Op.stringOp .add (str p1) ⟨List.toArray [10]⟩).run Tryd.prog W = .ok (.string (str (g.pout (k + 1)))) W := by
            rw [show g.pout (k + 1) = p1 ++ [10] by rw [Hp1.out]; simp [G.pout, cat, line1]]
            exact run_catc p1 [10] (by simp; omega)
          go_wp2_with fail
          refine (whole_any (g.O k) _ (by omega) (by omega)).mono ?_
          rintro e w2 ⟨rfl, k2⟩
          have HB2 := Lib.hid (Below.then_call HB.out k2 HB.out.size)
          clear k2
          go_wp2_with fail
          go_roundw
          case rel => exact ⟨k + 1, by omega, by go_num, rfl, HB2⟩
          case measure => simp [intOf]; omega
        · obtain rfl : k = g.n3 := by omega
          have hl := G.pout_len HSM.out hk
          obtain ⟨cc, w6, hcv, hown, hb6⟩ := conv_bytes wr (g.pout g.n3) (by omega)
          have hwz : w.heap.size < wr.heap.size := by have := HB.out.size; omega
          obtain ⟨Z, hZ⟩ : ∃ Z, Z = wr.heap.size := ⟨_, rfl⟩
          rw [← hZ] at hown hcv
          have HZ := Lib.hid hZ
          have HZV : Hid (v.heap.size ≤ Z) := Lib.hid (by have := HB.out.size; omega)
          have hzw : w.heap.size < Z := by omega
          have HB6 := Lib.hid (Below.then_call HB.out hb6 HB.out.size)
          have hz6 : Z ≤ w6.heap.size := by have := hb6.size; omega
          have hq6 := HQ.out.keeps (Keeps.of_below HB6.out)
          have hpl : (g.pack 0).length = (g.pout g.n3).length := by simp [G.pack, cat]
          have HPL := Lib.hid hpl; clear hpl
          have HO7 : Hid (OwnB Z w6 (some ⟨Z, 0, none⟩) (g.pack 0).length cc (Lib.byteCells (g.pack 0))) := by
            have e : g.pack 0 = g.pout g.n3 := by simp [G.pack, cat]
            rw [e]; exact hown
          clear hk hwz hown hb6 hZ
          obtain ⟨j0, j1, j2, j3⟩ := hq6.four
          go_wp2_with fail
          clear hlt g0 g1 g2 g3 hq
          rw [← HPL.out]
          go_loopw [6, 8] (fun b i wr => ∃ (k : Nat) (A : Option Addr) (c : Nat), k ≤ g.n2 ∧ i = .int .i64 k ∧ b = .slice A (g.pack k).length c ∧ Hid (OwnB Z wr A (g.pack k).length c (Lib.byteCells (g.pack k))) ∧ Hid (Below v.heap.size v wr) ∧ Hid (Z ≤ wr.heap.size)) (fun _ i _ => g.n2 - (intOf i).toNat)
          case atStart => exact ⟨0, some ⟨Z, 0, none⟩, cc, by omega, rfl, rfl, HO7, HB6, Lib.hid hz6⟩
          case round =>
            obtain ⟨k, A, c, hk, rfl, rfl, HO, HB, HZR⟩ := hrel
            have hzr := HZR.out
            have hq := HQ.out.keeps (Keeps.of_below HB.out)
            obtain ⟨g0, g1, g2, g3⟩ := hq.four
            have HK : Hid (Below w.heap.size w wr) := Lib.hid (HV.out.trans (HB.out.mono (by omega)))
            have hl := G.pack_len HSM.out hk
            by_cases hlt : k < g.n2
            · obtain ⟨b2, o2, rfl, x0, x1⟩ := (HG.out.keeps (Keeps.of_below HK.out)).ands.at2 hlt
              simp only [two] at x0 x1
              have hhl := G.hi_b HSM.out hlt
              have HAN := Lib.hid (show g.pack (k + 1) = g.pack k ++ (sevenB (2 * (1 + g.ins + g.n1 + k) - g.hi k).toNat ++ sevenB (g.hi k - g.lo k).toNat) from (List.append_assoc ..).symm)
              have hlk := HSM.out.ands k hlt
              go_upto_region 15 with (fail)
              refine wp_region_z (fun w' => w'.cell? ⟨w.heap.size, 2, none⟩ = some (.slice (some ⟨b2, o2, none⟩) g.n2 c2) ∧ w'.cell? ⟨b2, o2 + k * 2, none⟩ = some (.int .i64 (g.X k)) ∧ w'.cell? ⟨b2, o2 + k * 2 + 1, none⟩ = some (.int .i64 (g.Y k))) [0, 1, 2, 3, 4, 5, 6, 7, 8, 9, 10, 11] [] (by kernel_rfl) (by kernel_rfl) (by kernel_rfl) (by rfl) (fun _ _ _ _ e h => ⟨e.symm.trans h.1, h.2⟩) ⟨g2, x0, x1⟩ ?_
              iterate 12
                refine Heads.step (v := ?_) rfl (by rfl) (fun W hW => ?_) ?_
                rotate_left
                · (obtain ⟨s0, s1, s2⟩ := hW; go_simp; try with_reducible rfl)
              refine AnyZ.one (i := 12) (by kernel_rfl) rfl (fun K hK => ?_)
              go_simp
              refine (refMost_any (g.X k) (g.Y k) _).mono ?_
              rintro e w2 ⟨rfl, rfl⟩
              refine hK _ _ (fun _ => ⟨g2, x0, x1⟩) ?_
              clear hK
              refine AnyZ.mid [13] [] 0 rfl (by kernel_rfl) (by kernel_rfl) (by kernel_rfl) (fun _ _ _ _ e h => ⟨e.symm.trans h.1, h.2⟩) ⟨g2, x0, x1⟩ ?_
              iterate 1
                refine Heads.step (v := ?_) rfl (by rfl) (fun W hW => ?_) ?_
                rotate_left
                · (obtain ⟨s0, s1, s2⟩ := hW; go_simp; try with_reducible rfl)
              refine AnyZ.done (by kernel_rfl) ?_
              have HOd : Hid (OwnB Z wr.drew A (g.pack k).length c (Lib.byteCells (g.pack k))) := HO
              have HBd : Hid (Below v.heap.size v wr.drew) := Lib.hid HB.out.drew
              have hzd : Z ≤ wr.drew.heap.size := hzr
              have x0d : wr.drew.cell? ⟨b2, o2 + k * 2, none⟩ = some (.int .i64 (g.X k)) := x0
              have x1d : wr.drew.cell? ⟨b2, o2 + k * 2 + 1, none⟩ = some (.int .i64 (g.Y k)) := x1
              have g2d : wr.drew.cell? ⟨w.heap.size, 2, none⟩ = some (.slice (some ⟨b2, o2, none⟩) g.n2 c2) := g2
              have h_hi : max (g.X k) (g.Y k) = g.hi k := rfl
              rw [h_hi]
              have HSUM := Lib.hid hhl.2.2.2.2
              clear x0 x1 g0 g1 g2 g3 hq HK HO HB hzr HZR h_hi
              generalize wr.drew = wd at *
              generalize g.hi k = hi at *
              go_upto_region 16 with (fail)
              have e1 : IntKind.i64.wrap (g.X k + g.Y k) = g.X k + g.Y k := IntWalk.i64_in _ (by omega)
              have e2 : IntKind.i64.wrap (g.X k + g.Y k - hi) = g.X k + g.Y k - hi := IntWalk.i64_in _ (by omega)
              refine wp_region_z (fun w' => w'.cell? ⟨w.heap.size, 2, none⟩ = some (.slice (some ⟨b2, o2, none⟩) g.n2 c2) ∧ w'.cell? ⟨b2, o2 + k * 2, none⟩ = some (.int .i64 (g.X k)) ∧ w'.cell? ⟨b2, o2 + k * 2 + 1, none⟩ = some (.int .i64 (g.Y k))) [0, 1, 2, 3, 4, 5, 6, 7, 8, 9, 10, 11, 12, 13, 14, 15] [] (by kernel_rfl) (by kernel_rfl) (by kernel_rfl) (by rfl) (fun _ _ _ _ e h => ⟨e.symm.trans h.1, h.2⟩) ⟨g2d, x0d, x1d⟩ ?_
              iterate 16
                refine Heads.step (v := ?_) rfl (by rfl) (fun W hW => ?_) ?_
                rotate_left
                · (obtain ⟨s0, s1, s2⟩ := hW; go_simp; try with_reducible rfl)
              refine AnyZ.done (by kernel_rfl) ?_
              rw [show g.X k + g.Y k - hi = g.lo k by have := HSUM.out; omega]
              clear e1 e2 x0d x1d g2d
              generalize g.lo k = lo at *
              have HO := Lib.hid (show OwnB Z wd.drew A (g.pack k).length c (Lib.byteCells (g.pack k)) from HOd.out)
              have HB := Lib.hid (HBd.out.drew)
              have hzr : Z ≤ wd.drew.heap.size := hzd
              clear HOd HBd hzd
              generalize wd.drew = we at *
              go_wp2_with fail
              refine (refSeven_int (2 * (1 + g.ins + g.n1 + k) - hi) we (by omega) (by omega)).mono ?_
              rintro e x1 ⟨B1, d1, he, hoS, hk1, _⟩
              obtain ⟨s1, hs1⟩ : ∃ s, s = sevenB (2 * (1 + g.ins + g.n1 + k) - hi).toNat := ⟨_, rfl⟩
              rw [← hs1] at he hoS
              subst he
              have ls1 : s1.length ≤ 5 := by rw [hs1]; exact seven_len5 (by omega)
              have kx := Bytes.call hk1
              have HOx1 := Lib.hid (OwnB.below HO.out kx)
              have HBx1 := Lib.hid (Below.then_call HB.out kx HB.out.size)
              have hzx1 : Z ≤ x1.heap.size := by have := kx.size; omega
              have HSx1 := Lib.hid (OwnB.src hoS)
              have HSS1 := Lib.hid hs1
              clear hs1 hoS hk1 kx
              go_wp2_with (at_builtin; refine wp_append_b rfl (.tmp 88) (.tmp 95) rfl Z A (g.pack k).length c _ rfl HOx1.out B1 s1.length d1 _ rfl HSx1.out (by omega) hzx1 ?_; intro A1' c1' y1 ho hk hf)
              obtain ⟨L1, hL⟩ : ∃ L, L = (g.pack k) ++ s1 := ⟨_, rfl⟩
              have HLL1 := Lib.hid hL
              have hll1 : L1.length ≤ 4000010 := by rw [hL]; simp only [List.length_append]; omega
              have HO1 := Lib.hid (Byt.join ho hL)
              have hln : (g.pack k).length + s1.length = L1.length := by rw [hL, List.length_append]
              rw [hln]
              have kb := Bytes.below HOx1.out hk hzx1
              have HB1b : Hid (Below v.heap.size v y1) := Lib.hid (HBx1.out.trans (kb.mono (by have := HZV.out; omega)))
              have hzy1 : Z ≤ y1.heap.size := by have := kb.size; omega
              clear ho hk hf hL hln kb HOx1 HSx1 HBx1 hzx1
              go_wp2_with fail
              refine (refSeven_int (hi - lo) y1 (by omega) (by omega)).mono ?_
              rintro e x2 ⟨B2, d2, he, hoS, hk2, _⟩
              obtain ⟨s2, hs2⟩ : ∃ s, s = sevenB (hi - lo).toNat := ⟨_, rfl⟩
              rw [← hs2] at he hoS
              subst he
              have ls2 : s2.length ≤ 5 := by rw [hs2]; exact seven_len5 (by omega)
              have kx := Bytes.call hk2
              have HOx2 := Lib.hid (OwnB.below HO1.out kx)
              have HBx2 := Lib.hid (Below.then_call HB1b.out kx HB1b.out.size)
              have hzx2 : Z ≤ x2.heap.size := by have := kx.size; omega
              have HSx2 := Lib.hid (OwnB.src hoS)
              have HSS2 := Lib.hid hs2
              clear hs2 hoS hk2 kx
              go_wp2_with (at_builtin; refine wp_append_b rfl (.tmp 97) (.tmp 101) rfl Z A1' L1.length c1' _ rfl HOx2.out B2 s2.length d2 _ rfl HSx2.out (by omega) hzx2 ?_; intro A2' c2' y2 ho hk hf)
              obtain ⟨L2, hL⟩ : ∃ L, L = L1 ++ s2 := ⟨_, rfl⟩
              have HLL2 := Lib.hid hL
              have hll2 : L2.length ≤ 4000020 := by rw [hL]; simp only [List.length_append]; omega
              have HO2 := Lib.hid (Byt.join ho hL)
              have hln : L1.length + s2.length = L2.length := by rw [hL, List.length_append]
              rw [hln]
              have kb := Bytes.below HOx2.out hk hzx2
              have HB2 : Hid (Below v.heap.size v y2) := Lib.hid (HBx2.out.trans (kb.mono (by have := HZV.out; omega)))
              have hzy2 : Z ≤ y2.heap.size := by have := kb.size; omega
              clear ho hk hf hL hln kb HOx2 HSx2 HBx2 hzx2
              go_wp2_with fail
              have hL2 : L2 = g.pack (k + 1) := by rw [HLL2.out, HLL1.out, HSS1.out, HSS2.out, HAN.out, List.append_assoc]
              subst hL2
              go_roundw
              case rel => exact ⟨k + 1, A2', c2', by omega, by go_num, rfl, HO2, HB2, Lib.hid hzy2⟩
              case measure => simp [intOf]; omega
            · obtain rfl : k = g.n2 := by omega
              go_wp2_with fail
              go_ret
              exact ⟨A, c, Z, rfl, HO.out, HK.out⟩
end Go.Proofs.YtngjbiipgbeemaaDoor
