/- lut.Run, walked: the outputs, cycle by cycle, as a new slice of new rows: the same that the reference's TablesRun gives. Conditions: the net is valid and lies in memory, the trace lies in memory. -/
import Derived.Test.YtdhgbikmaglgpaaTRunRef
import Derived.Test.YtdhgbikmaglgpaaAigRun
namespace Go.Proofs.Ytdhgbikmaglgpaa
open Go.RowKit

/-- where lut.Run stands at the head of a cycle: the values in block bv -/
structure LRun (g : Tb) (T : Nat → Nat → Bool) (base : Nat) (w4 wr : World) (bv nv : Nat) (As : Option Addr) (k : Nat) (A : Option Addr) (c : Nat) (RA : Nat → Option Addr) (RC : Nat → Nat) : Prop where
  only : Only (fun j => j = bv ∨ blockOf As j) w4 wr
  st : St wr base As g.n1 (g.state T k)
  v : ∃ V : Nat → Bool, Arr wr bv 4 nv (fun j => .bool (V j)) ∧ V 0 = false ∧ V 1 = true
  mat : OwnMat wr w4.heap.size A k c g.n4 (g.row T) RA RC

theorem or_i64 {a b : Nat} (ha : a < 2 ^ 62) (hb : b < 2 ^ 62) : bits .or .i64 (a : Int) (b : Int) = ((a ||| b : Nat) : Int) := by
  have hx : (BitVec.ofInt 64 (a : Int)).toNat = a := by rw [BitVec.ofInt_natCast, BitVec.toNat_ofNat]; exact Nat.mod_eq_of_lt (by omega)
  have hy : (BitVec.ofInt 64 (b : Int)).toNat = b := by rw [BitVec.ofInt_natCast, BitVec.toNat_ofNat]; exact Nat.mod_eq_of_lt (by omega)
  have hz := Nat.or_lt_two_pow ha hb
  show IntKind.i64.wrap ((BitVec.ofInt 64 (a : Int) ||| BitVec.ofInt 64 (b : Int)).toNat : Int) = _
  rw [BitVec.toNat_or, hx, hy, IntKind.wrap_i64]
  omega

theorem or_bit {r q : Nat} (hr : r < 2 ^ q) (hq : q ≤ 3) : bits .or .i64 (r : Int) (wrap64 ((2 : Int) ^ q)) = ((r + 2 ^ q : Nat) : Int) := by
  have h8 : 2 ^ q ≤ 8 := Nat.pow_le_pow_right (n := 2) (by omega) hq
  have e := or_two r q hr
  rw [show (2 : Int) ^ q = ((2 ^ q : Nat) : Int) by simp]
  generalize 2 ^ q = z at *
  have h62 : (8 : Nat) < 2 ^ 62 := by decide
  rw [IntWalk.wrap64_in (z : Int) (by omega), or_i64 (Nat.lt_trans (Nat.lt_of_lt_of_le hr h8) h62) (Nat.lt_of_le_of_lt h8 h62), e]

set_option maxHeartbeats 20000000 in
set_option maxRecDepth 100000 in
theorem tabRunLut_any (g : Tb) (A1 A2 A3 A4 : Option Addr) (c1 c2 c3 c4 : Nat) (At : Option Addr) (nt ct : Nat) (TL : Nat → Nat) (T : Nat → Nat → Bool) (w : World) (hg : g.At w A1 A2 A3 A4) (hfit : g.Fits) (hv : g.Valid)
    (ht : Mat w At nt TL T) (hnt : nt * 24 ≤ 140737488351232) (htl : ∀ i, i < nt → TL i ≤ 140737488351232) :
    Calls Try.prog 52 #[.agg #[.int .i64 g.ins, .slice A1 g.n1 c1, .slice A2 g.n2 c2, .slice A3 g.n3 c3, .slice A4 g.n4 c4], .slice At nt ct] w (RetMat w nt g.n4 (g.row (cut TL T))) := by
  have f1 := hfit.b1; have f2 := hfit.b2; have f3 := hfit.b3; have f4 := hfit.b4
  have v1 := hv.i0; have v2 := hv.i1; have v3 := hv.n4
  obtain ⟨nv, hnv, hnvi, hpre, hnvb, hn2⟩ := hv.nums hfit
  have HNV := Lib.hid hnv; have HNVI := Lib.hid hnvi; have HPRE := Lib.hid hpre; clear hnv hnvi hpre
  have HTL := Lib.hid htl; clear htl
  obtain ⟨TA, TC, ht1, ht2⟩ := ht
  have HT2 := Lib.hid ht2; clear ht2
  obtain ⟨UA, UC, t1, t2⟩ := hg.tabs
  have HU2 := Lib.hid t2; clear t2
  go_enter Try.func52, Try.ntmps52
  go_wp2_with fail
  refine (signals_any g.ins _ _ _ _ g.n1 g.n2 g.n3 g.n4 c1 c2 c3 c4 _ v1 v2 (by omega) (by omega)).mono ?_
  rw [← HNVI.out]
  rintro e w1 ⟨rfl, hb1⟩
  have HB1 := Lib.hid (Below.alloc_then hb1)
  have hbox := (BoxAt.new w [.int .i64 g.ins, .slice A1 g.n1 c1, .slice A2 g.n2 c2, .slice A3 g.n3 c3, .slice A4 g.n4 c4] 34).keeps (Keeps.of_below hb1)
  have hs1 := hb1.size
  simp at hs1
  clear hb1
  have hnv2 : 2 ≤ nv := by have := HNV.out; unfold Tb.pre at this; omega
  have hmk := fun W => run_mk Try.underlying31 zeroB .i64 .i64 (nv : Int) nv (by omega) (by omega) (by omega) (by omega) W
  simp only [Int.toNat_natCast, Value.cells, Nat.mul_one] at hmk
  obtain ⟨g0, g1, g2, g3, g4⟩ := hbox.five
  go_upto_region 2 with (fail)
  clear hmk g0 g1 g2 g3 g4
  have hbA : Below w1.heap.size w1 (w1.alloc (.cells (madeCells #[.bool false] nv) 4)) := (Below.refl _ _).alloc (Nat.le_refl _) _
  have harr : Arr (w1.alloc (.cells (madeCells #[.bool false] nv) 4)) w1.heap.size 4 nv (fun _ => .bool false) := Arr.made w1 (.bool false) nv 4
  have hsA : (w1.alloc (.cells (madeCells #[.bool false] nv) 4)).heap.size = w1.heap.size + 1 := by simp
  generalize w1.alloc (.cells (madeCells #[.bool false] nv) 4) = w2 at *
  have HBA := Lib.hid (Below.then_call HB1.out hbA (by omega))
  have hboxA := hbox.keeps (Keeps.of_below hbA)
  clear hbA hbox HB1
  generalize w1.heap.size = bv at *
  have hca := harr.cell (k := 1) (by omega)
  have hfa := harr.thaw 1
  go_upto_region 3 with (fail)
  have hO3 : Only (fun j => j = bv) w2 (w2.setCell ⟨bv, 1, none⟩ (.bool true)) := (Only.refl (fun j => j = bv) w2).setCell (p := ⟨bv, 1, none⟩) (fun _ => rfl) _
  have harr3 : Arr (w2.setCell ⟨bv, 1, none⟩ (.bool true)) bv 4 nv (fun j => .bool (decide (j = 1))) := harr.set (fun j _ hj => by simp [hj]) (by simp)
  have hs3 : (w2.setCell ⟨bv, 1, none⟩ (.bool true)).heap.size = bv + 1 := by simp [World.setCell, hsA]
  generalize w2.setCell ⟨bv, 1, none⟩ (.bool true) = w3 at *
  have HB3 := Lib.hid (HBA.out.trans (hO3.below (B := w.heap.size) (fun j _ c => by omega) (by omega)))
  have hbox3 := hO3.box hboxA (by omega)
  clear hO3 hboxA HBA harr hca hfa hsA
  obtain ⟨g0, g1, g2, g3, g4⟩ := hbox3.five
  have hsrc := src_row1 (hg.init.keeps (Keeps.of_below HB3.out)) (fun _ _ => rfl)
  go_upto_region 4 with (at_builtin; refine wp_append rfl (.const (.slice none 0 0)) (.tmp 28) _ rfl elBool (bv + 1) none 0 0 _ rfl (World.ownsRow_nil _ _ _ _) A1 g.n1 c1 _ rfl hsrc (by omega) (by omega) ?_; intro As cs w4 ho hk' hb')
  have hown : OwnBits w4 (bv + 1) As g.n1 cs g.I := by simpa [OwnBits] using ho
  have hbq := hk'.all (fun k _ c => by obtain ⟨a, h, _⟩ := c; cases h)
  have HB4 := Lib.hid (Below.then_call HB3.out hbq (by omega))
  have hbox4 := hbox3.keeps (Keeps.of_below hbq)
  have hs4 := hbq.size
  have HLT := Lib.hid (own_lt hown)
  have HGE := Lib.hid (own_base hown)
  have hst4 := St.of_own hown
  have harr4 := harr3.below hbq
  clear ho hk' hb' hbq hown hsrc g0 g1 g2 g3 g4 HB3 hbox3 harr3
  go_wp2_with fail
  go_loopw [7, 32] (fun out i wr => ∃ (k : Nat) (A : Option Addr) (c : Nat) (RA : Nat → Option Addr) (RC : Nat → Nat), k ≤ nt ∧ i = .int .i64 k ∧ out = .slice A k c ∧
    LRun g (cut TL T) (bv + 1) w4 wr bv nv As k A c RA RC) (fun _ i _ => nt - (intOf i).toNat)
  case atStart => exact ⟨0, none, 0, fun _ => none, fun _ => 0, by omega, rfl, rfl, ⟨Only.refl _ _, hst4.congr (fun _ _ => rfl), ⟨_, harr4, rfl, rfl⟩, ⟨World.ownsRow_nil _ _ _ _, fun i hi => by omega⟩⟩⟩
  case round =>
    clear hst4 harr4
    obtain ⟨k, A, c, RA, RC, hk, rfl, rfl, H⟩ := hrel
    have HSB := Lib.hid (fun j (c : j = bv ∨ blockOf As j) => show bv ≤ j from c.elim (fun c => by omega) (fun c => by have := HGE.out j c; omega))
    have HSL := Lib.hid (fun j (c : j = bv ∨ blockOf As j) => show j < w4.heap.size from c.elim (fun c => by omega) (fun c => HLT.out j c))
    have HBw := Lib.hid (HB4.out.trans (H.only.below (B := w.heap.size) (fun j _ c => by have := HSB.out j c; omega) (by omega)))
    have hboxw := H.only.box hbox4 (fun c => by have := HSB.out _ c; omega)
    obtain ⟨g0, g1, g2, g3, g4⟩ := hboxw.five
    have hszw := H.only.size
    by_cases hlt : k < nt
    · obtain ⟨bt, ot, rfl, x0⟩ := (ht1.keeps (Keeps.of_below HBw.out)).at_ hlt
      have hbk := HT2.out k hlt
      have htlk := HTL.out k hlt
      go_wp2_with fail
      generalize TA k = Ak at hbk x0
      clear g0 g1 g2 g3 g4 x0
      obtain ⟨wo, rfl⟩ : ∃ wo : World, wo = wr := ⟨_, rfl⟩
      obtain ⟨V0, hA0, hV0, hV1⟩ := H.v
      go_loopw [38] (fun i wi => ∃ m : Nat, m ≤ g.ins.toNat ∧ i = .int .i64 m ∧ Only (fun j => j = bv) wo wi ∧ Hid (∃ V : Nat → Bool, Arr wi bv 4 nv (fun j => .bool (V j)) ∧ ∀ j, j < m + 2 → V j = g.head (cut TL T k) (g.state (cut TL T) k) j)) (fun i _ => g.ins.toNat - (intOf i).toNat)
      case atStart => exact ⟨0, by omega, rfl, Only.refl _ _, V0, hA0, fun j hj => by obtain rfl | rfl : j = 0 ∨ j = 1 := (by omega); exact hV0.trans rfl; exact hV1.trans rfl⟩
      case round =>
        clear hA0
        obtain ⟨m, hm, rfl, HO, HS⟩ := hrel
        obtain ⟨V, hA, hV⟩ := HS.out
        have HV := Lib.hid hV; clear hV
        have HBi := Lib.hid (HBw.out.trans (HO.below (B := w.heap.size) (fun j _ c => by omega) (by omega)))
        have hpn : g.ins.toNat + 2 + g.n1 + g.n2 = nv := by have := HNV.out; unfold Tb.pre at this; omega
        have HPN := Lib.hid hpn; clear hpn
        have hboxr := HO.box hboxw (by omega)
        by_cases hlt2 : m < g.ins.toNat
        · -- [[in
          have hca := hA.cell (k := m + 2) (by have := HPN.out; omega)
          have hfa := hA.thaw (m + 2)
          have e4 : 2 + (m : Int) < nv := by have := HPN.out; omega
          have e2 : 0 ≤ 2 + (m : Int) := by omega
          have e3 : (2 + (m : Int)).toNat = m + 2 := by omega
          have e1 : IntKind.i64.wrap (2 + (m : Int)) = 2 + m := IntWalk.i64_in _ (by omega)
          by_cases hin : m < TL k
          · obtain ⟨bi, oi, rfl, y0⟩ := (hbk.keeps (Keeps.of_below HBi.out)).at_ hin
            have hd : decide ((m : Int) < (TL k : Int)) = true := by simp; omega
            go_wp2_with fail
            refine ⟨⟨m + 1, by omega, by go_num, HO.setCell (p := ⟨bv, m + 2, none⟩) (fun _ => rfl) _, fun j => if j = m + 2 then T k m else V j, hA.set (fun j _ hj => by simp [hj]) (by simp), fun j hj => ?_⟩, by simp [intOf]; omega⟩
            by_cases e : j = m + 2
            · simp only [if_pos e]; rw [e, Tb.head_in _ _ _ hlt2]; simp [cut, hin]
            · simp only [if_neg e]; exact HV.out j (by omega)
          · have hd : decide ((m : Int) < (TL k : Int)) = false := by simp; omega
            go_wp2_with fail
            refine ⟨⟨m + 1, by omega, by go_num, HO.setCell (p := ⟨bv, m + 2, none⟩) (fun _ => rfl) _, fun j => if j = m + 2 then false else V j, hA.set (fun j _ hj => by simp [hj]) (by simp), fun j hj => ?_⟩, by simp [intOf]; omega⟩
            by_cases e : j = m + 2
            · simp only [if_pos e]; rw [e, Tb.head_in _ _ _ hlt2]; simp [cut, hin]
            · simp only [if_neg e]; exact HV.out j (by omega)
          -- ]]in
        · have hme : m = g.ins.toNat := by omega
          have HME := Lib.hid hme; clear hme
          have hA' : Arr wr bv 4 nv (fun j => .bool (V j)) := hA
          have hst := H.st.only HO (fun b _ h c => by have := HGE.out b h; omega)
          obtain ⟨g0, g1, g2, g3, g4⟩ := hboxr.five
          have HOO := Lib.hid HO
          clear HO hA HS hbk
          go_upto_region 13 with (fail)
          go_cut [] (fun wx => Arr wx bv 4 nv (over (fun j => .bool (V j)) (fun j => .bool (g.state (cut TL T) k j)) (g.ins.toNat + 2) g.n1) ∧ Only (fun k => k = bv) wr wx)
          case first =>
            have hsr : Row1 wr As g.n1 (fun j => .bool (g.state (cut TL T) k j)) := hst.bits
            have hsl : 2 + g.ins ≤ (nv : Int) := by have := HPN.out; omega
            have e1 : IntKind.i64.wrap (2 + g.ins) = 2 + g.ins := IntWalk.i64_in _ (by omega)
            have e2 : 0 ≤ 2 + g.ins := by omega
            by_cases hz : (nv : Int) = 2 + g.ins
            · have hz' : g.n1 = 0 ∧ g.n2 = 0 := by have := HPN.out; omega
              have HZ' := Lib.hid hz'; clear hz'
              go_wp2_with (with_reducible refine wp_copy rfl (.tmp 60) (.tmp 61) _ _ rfl _ Try.underlying31 szB _ _ _ _ _ _ rfl rfl bv (g.ins.toNat + 2) nv _ _ hA' g.n1 _ ?_ ?_ hsr ?_ ?_ ?_; rotate_left 4; intro w' hAc hOc)
              · go_meet; exact ⟨hAc, hOc⟩
              · show g.n1 = min g.n1 0
                have := HZ'.out; omega
              · intro h0; have := HZ'.out; omega
              · have := HPN.out; omega
              · intro j _; rfl
            · have hlo : 2 + g.ins < (nv : Int) := by omega
              -- [[cp
              go_wp2_with (with_reducible refine wp_copy rfl (.tmp 60) (.tmp 61) _ _ rfl _ Try.underlying31 szB _ _ _ _ _ _ rfl rfl bv (g.ins.toNat + 2) nv _ _ hA' g.n1 _ ?_ ?_ hsr ?_ ?_ ?_; rotate_left 4; intro w' hAc hOc)
              · go_meet; exact ⟨hAc, hOc⟩
              · show g.n1 = min g.n1 (nv - (2 + g.ins).toNat)
                have := HPN.out; omega
              · intro _; rw [show (2 + g.ins).toNat = g.ins.toNat + 2 by omega]
              · have := HPN.out; omega
              · intro j _; rfl
              -- ]]cp
          case rest =>
            obtain ⟨hAx, hOx⟩ := hcut
            have hboxx := hOx.box hboxr (by omega)
            have hstx := hst.only hOx (fun b _ h c => by have := HGE.out b h; omega)
            have hszx := hOx.size
            have hszr := HOO.out.size
            have HOW := Lib.hid (HOO.out.trans hOx)
            have hV0 : Arr wc bv 4 nv (fun j => .bool (over' V (g.state (cut TL T) k) (g.ins.toNat + 2) g.n1 j)) := hAx.congr (fun j _ => by unfold over over'; split <;> rfl)
            have HV1 : Hid (∀ j, j < g.pre → over' V (g.state (cut TL T) k) (g.ins.toNat + 2) g.n1 j = g.cyc (cut TL T k) (g.state (cut TL T) k) 0 j) := fun j hj => by
              unfold over'
              have hf : g.pre = g.ins.toNat + 2 + g.n1 := by unfold Tb.pre; omega
              by_cases h : g.ins.toNat + 2 ≤ j ∧ j < g.ins.toNat + 2 + g.n1
              · rw [if_pos h]
                have := Tb.head_st g (cut TL T k) (g.state (cut TL T) k) (k := j - (g.ins.toNat + 2)) (by omega)
                rw [show g.ins.toNat + 2 + (j - (g.ins.toNat + 2)) = j by omega] at this
                exact this.symm
              · rw [if_neg h]; exact HV.out j (by have := HME.out; omega)
            clear hAx hOx hst hboxr HOO hA' HV HME g0 g1 g2 g3 g4
            generalize over' V (g.state (cut TL T) k) (g.ins.toNat + 2) g.n1 = V1 at hV0 HV1
            obtain ⟨g0, g1, g2, g3, g4⟩ := hboxx.five
            have e1 : IntKind.i64.wrap ((nv : Int) - (g.n2 : Int)) = (g.pre : Int) := by rw [IntWalk.i64_in _ (by omega)]; have := HNV.out; omega
            go_upto_region 14 with (fail)
            go_region_held3 (fun w' => w'.cell? ⟨w.heap.size, 0, none⟩ = some (.int .i64 g.ins) ∧ w'.cell? ⟨w.heap.size, 1, none⟩ = some (.slice A1 g.n1 c1) ∧ w'.cell? ⟨w.heap.size, 2, none⟩ = some (.slice A2 g.n2 c2) ∧ w'.cell? ⟨w.heap.size, 3, none⟩ = some (.slice A3 g.n3 c3) ∧ w'.cell? ⟨w.heap.size, 4, none⟩ = some (.slice A4 g.n4 c4)) (first | exact ⟨g0, g1, g2, g3, g4⟩ | assumption)
              (first | (go_at_call 48; refine (signals_any g.ins _ _ _ _ g.n1 g.n2 g.n3 g.n4 c1 c2 c3 c4 _ v1 v2 (by omega) (by omega)).mono ?_; rw [← HNVI.out]; rintro e ww ⟨rfl, hb3⟩; have hs6 : ww.cell? ⟨w.heap.size, 0, none⟩ = some (.int .i64 g.ins) ∧ ww.cell? ⟨w.heap.size, 1, none⟩ = some (.slice A1 g.n1 c1) ∧ ww.cell? ⟨w.heap.size, 2, none⟩ = some (.slice A2 g.n2 c2) ∧ ww.cell? ⟨w.heap.size, 3, none⟩ = some (.slice A3 g.n3 c3) ∧ ww.cell? ⟨w.heap.size, 4, none⟩ = some (.slice A4 g.n4 c4) := ⟨Keeps.of_below hb3 _ _ g0, Keeps.of_below hb3 _ _ g1, Keeps.of_below hb3 _ _ g2, Keeps.of_below hb3 _ _ g3, Keeps.of_below hb3 _ _ g4⟩))
            have HBS := Lib.hid (show Below wc.heap.size wc ww from ⟨hb3.os, hb3.tape, hb3.output, hb3.size, hb3.block⟩)
            have hboxs := hboxx.keeps (Keeps.of_below HBS.out)
            have hsts := hstx.below HBS.out
            have hVs := hV0.below HBS.out
            have HOS := Lib.hid (HOW.out.call HBS.out)
            clear hs6 hb3 g0 g1 g2 g3 g4 e1 hboxx hstx hV0 HOW
            have hszs := HOS.out.size
            obtain ⟨g0, g1, g2, g3, g4⟩ := hboxs.five
            go_wp2_with fail
            clear g0 g1 g2 g3 g4
            go_loopw [72] (fun i wi => ∃ m : Nat, m ≤ g.n2 ∧ i = .int .i64 m ∧ Only (fun j => j = bv) ww wi ∧ Hid (∃ V : Nat → Bool, Arr wi bv 4 nv (fun j => .bool (V j)) ∧ ∀ j, j < g.pre + m → V j = g.cyc (cut TL T k) (g.state (cut TL T) k) m j)) (fun i _ => g.n2 - (intOf i).toNat)
            case atStart => exact ⟨0, by omega, rfl, Only.refl _ _, V1, hVs, HV1.out⟩
            case round =>
              clear hVs
              obtain ⟨m, hm, rfl, HO, HS⟩ := hrel
              obtain ⟨V2, hA2, hV2⟩ := HS.out
              have HV2 := Lib.hid hV2; clear hV2
              have HBg := Lib.hid (HBw.out.trans ((HOS.out.then_ HO (fun i _ h => h)).below (B := w.heap.size) (fun j _ c => by omega) (by omega)))
              by_cases hlt3 : m < g.n2
              · -- [[gate
                obtain ⟨b2, o2, rfl, x0, y0⟩ := (t1.keeps (Keeps.of_below HBg.out)).at2 hlt3
                have huk := ((HU2.out m hlt3).keeps (Keeps.of_below HBg.out)).keeps (Keeps.alloc wr (.cells #[.slice (UA m) (g.tl m) (UC m), .int .i64 (g.tb m)] 76))
                simp only [two] at x0 y0
                clear t1
                generalize UA m = Um at *
                have hok := hv.tabs m hlt3
                have hl := hok.len
                have hlo := hok.lo
                have hin := hok.ins
                have hfb := hfit.tb m hlt3
                have HIN := Lib.hid hin; clear hin hok
                have hpm : g.pre + m < nv := by have := HNV.out; omega
                have q0 : (wr.alloc (.cells #[.slice Um (g.tl m) (UC m), .int .i64 (g.tb m)] 76)).cell? ⟨wr.heap.size, 0, none⟩ = some (.slice Um (g.tl m) (UC m)) := BoxAt.new wr [.slice Um (g.tl m) (UC m), .int .i64 (g.tb m)] 76 0 _ rfl
                have q1 : (wr.alloc (.cells #[.slice Um (g.tl m) (UC m), .int .i64 (g.tb m)] 76)).cell? ⟨wr.heap.size, 1, none⟩ = some (.int .i64 (g.tb m)) := BoxAt.new wr [.slice Um (g.tl m) (UC m), .int .i64 (g.tb m)] 76 1 _ rfl
                have hOq := HO.alloc (.cells #[.slice Um (g.tl m) (UC m), .int .i64 (g.tb m)] 76)
                have hAq := hA2.alloc (.cells #[.slice Um (g.tl m) (UC m), .int .i64 (g.tb m)] 76)
                go_upto_region 18 with (fail)
                generalize wr.alloc (.cells #[.slice Um (g.tl m) (UC m), .int .i64 (g.tb m)] 76) = wq at *
                clear HO hA2 HS x0 y0
                generalize wr.heap.size = bq at *
                obtain ⟨X, hX⟩ : ∃ X : Nat → Bool, X = fun j => g.cyc (cut TL T k) (g.state (cut TL T) k) m (g.tw m j).toNat := ⟨_, rfl⟩
                have HX := Lib.hid hX; clear hX
                go_wp2_with fail
                go_loop [14, 80] (fun r i => ∃ q : Nat, q ≤ g.tl m ∧ i = .int .i64 q ∧ r = .int .i64 (rowB X q)) (fun _ i => g.tl m - (intOf i).toNat)
                case atStart => exact ⟨0, by omega, rfl, rfl⟩
                case round =>
                  obtain ⟨q, hq, rfl, rfl⟩ := hrel
                  by_cases hlt4 : q < g.tl m
                  · -- [[bit
                    obtain ⟨b3, o3, rfl, z0⟩ := huk.at_ hlt4
                    have hwn := HIN.out q hlt4
                    have hwp : (g.tw m q).toNat < g.pre + m := by have := HPRE.out; omega
                    have hcs := hAq.cell (k := (g.tw m q).toNat) (by omega)
                    have hxq : X q = V2 (g.tw m q).toNat := by rw [HX.out, HV2.out _ hwp]
                    rw [← hxq] at hcs
                    have HXQ := Lib.hid hxq; clear hxq
                    generalize hY : g.tw m q = y at *
                    have HY := Lib.hid hY; clear hY
                    have e5 : 0 ≤ y := by omega
                    have e6 : y < nv := by omega
                    cases hx : X q
                    · rw [hx] at hcs
                      have hE : rowB X (q + 1) = rowB X q := by simp [rowB, hx]
                      have HE := Lib.hid hE; clear hE hx
                      go_wp2_with fail
                      go_round
                      case rel => exact ⟨q + 1, by omega, by go_num, by rw [HE.out]⟩
                      case measure => simp [intOf]; omega
                    · rw [hx] at hcs
                      have hr := rowB_lt X q
                      have HQ3 : Hid (q ≤ 3) := Lib.hid (show q ≤ 3 by omega)
                      have hE : rowB X (q + 1) = rowB X q + 2 ^ q := by simp [rowB, hx]
                      have HE := Lib.hid hE; clear hE hx
                      have HR := Lib.hid hr; clear hr
                      go_wp2_with fail
                      have e8 := or_bit HR.out HQ3.out
                      rw [← HE.out] at e8
                      exact ⟨⟨q + 1, by omega, by go_num, by rw [e8]⟩, by simp [intOf]; omega⟩
                    -- ]]bit
                  · obtain rfl : q = g.tl m := by omega
                    have hca := hAq.cell hpm
                    have hfa := hAq.thaw (g.pre + m)
                    have e2 : 0 ≤ (g.pre : Int) + m := by omega
                    have e3 : ((g.pre : Int) + m).toNat = g.pre + m := by omega
                    have e4 : (g.pre : Int) + m < nv := by omega
                    have e1 : IntKind.i64.wrap ((g.pre : Int) + m) = (g.pre : Int) + m := IntWalk.i64_in _ (by omega)
                    have hq0 : 0 ≤ g.tb m / 2 ^ rowB X (g.tl m) := Int.ediv_nonneg hlo (Int.le_of_lt (Int.pow_pos (by omega)))
                    have hq1 : g.tb m / 2 ^ rowB X (g.tl m) ≤ g.tb m := Int.ediv_le_self _ hlo
                    have hbit := and_one_i64 hq0 (by omega)
                    go_wp2_with fail
                    have hmin : min (rowB X (g.tl m)) 64 = rowB X (g.tl m) := Nat.min_eq_left (by
                      have := rowB_lt X (g.tl m)
                      have : 2 ^ g.tl m ≤ 2 ^ 4 := Nat.pow_le_pow_right (by omega) hl
                      omega)
                    have HB2 := Lib.hid (show (bits .and .i64 (g.tb m / 2 ^ min (rowB X (g.tl m)) 64) 1 == 1) = g.cyc (cut TL T k) (g.state (cut TL T) k) (m + 1) (g.pre + m) from by
                      rw [hmin, hbit]; exact ((Tb.cyc_at g (cut TL T k) (g.state (cut TL T) k) m).trans (by unfold bitAt; rw [HX.out])).symm)
                    refine ⟨⟨m + 1, by omega, by go_num, hOq.setCell (p := ⟨bv, g.pre + m, none⟩) (fun _ => rfl) _, fun j => if j = g.pre + m then (bits .and .i64 (g.tb m / 2 ^ min (rowB X (g.tl m)) 64) 1 == 1) else V2 j, hAq.set (fun j _ hj => by simp [hj]) (by simp only [if_true]), fun j hj => ?_⟩, by simp [intOf]; omega⟩
                    by_cases e : j = g.pre + m
                    · simp only [if_pos e]; rw [e, HB2.out]
                    · simp only [if_neg e]; rw [Tb.cyc_lo _ _ _ _ _ (by omega)]; exact HV2.out j (by omega)
                -- ]]gate
              · have hA3 : Arr wr bv 4 nv (fun j => .bool (V2 j)) := hA2
                have hmn : m = g.n2 := by omega
                have HV3 : Hid (∀ j, j < nv → V2 j = g.vals (cut TL T k) (g.state (cut TL T) k) j) := fun j hj => by
                  have := HV2.out j (by have := HNV.out; omega)
                  rw [this, hmn]; rfl
                have HOG := Lib.hid (HOS.out.trans HO)
                have hboxg := HO.box hboxs (by omega)
                have hstg := hsts.only HO (fun b _ h c => by have := HGE.out b h; omega)
                have hsg := HO.size
                have hmat := H.mat.only HOG.out (fun k hk c => by omega)
                clear HO HS hA2 HV2 hmn
                obtain ⟨wg, rfl⟩ : ∃ wg : World, wg = wr := ⟨_, rfl⟩
                obtain ⟨g0, g1, g2, g3, g4⟩ := hboxg.five
                have hmk3 := fun W => run_mk Try.underlying31 zeroB .i64 .i64 (0 : Int) (g.n4 : Int) (by omega) (by omega) (by omega) (by omega) W
                simp only [Int.toNat_natCast, Value.cells, Nat.mul_one, Int.toNat_zero] at hmk3
                go_upto_region 28 with (fail)
                clear hmk3 g0 g1 g2 g3 g4
                have hrow0 : GrowB wg (some ⟨wg.heap.size, 0, none⟩) 0 g.n4 (g.row (cut TL T) k) (wg.alloc (.cells (madeCells #[.bool false] g.n4) 4)) :=
                  ⟨World.ownsRow_made wg _ _ (Nat.le_refl _) (by simp [maxLen]; omega) (by simp [madeCells]), (Below.refl _ _).alloc (Nat.le_refl _) _⟩
                generalize wg.alloc (.cells (madeCells #[.bool false] g.n4) 4) = wh at *
                obtain ⟨g0, g1, g2, g3, g4⟩ := (hboxg.keeps (Grow.keeps hrow0)).five
                go_wp2_with fail
                clear g0 g1 g2 g3 g4
                go_loopw [17, 113] (fun v i wi => ∃ (m : Nat) (A : Option Addr) (c : Nat), m ≤ g.n4 ∧ i = .int .i64 m ∧ v = .slice A m c ∧ GrowB wg A m c (g.row (cut TL T) k) wi) (fun _ i _ => g.n4 - (intOf i).toNat)
                case atStart => exact ⟨0, _, _, by omega, rfl, rfl, hrow0⟩
                case round =>
                  clear hrow0
                  obtain ⟨m, Am, cm, hm, rfl, rfl, HG⟩ := hrel
                  have HBg := Lib.hid ((HBw.out.trans (HOG.out.below (B := w.heap.size) (fun j _ c => by omega) (by omega))).trans (HG.bel.mono (by omega)))
                  have hAg := hA3.below HG.bel
                  have hszg := HG.size
                  by_cases hlt4 : m < g.n4
                  · obtain ⟨b3, o3, rfl, x0⟩ := (hg.outs.keeps (Keeps.of_below HBg.out)).at_ hlt4
                    have hwn := hv.outs m hlt4
                    unfold Tb.sigs at hwn
                    have hwp : (g.O m).toNat < nv := by have := HNVI.out; omega
                    have hcs := hAg.cell (k := (g.O m).toNat) hwp
                    rw [HV3.out _ hwp] at hcs
                    have e5 : 0 ≤ g.O m := by omega
                    have e6 : g.O m < nv := by have := HNVI.out; omega
                    go_wp2_with (at_builtin; refine wp_append rfl (.tmp 117) (.tmp 122) _ rfl elBool wg.heap.size Am m cm _ rfl (Grow.alloc HG _).own _ 1 1 [.bool (g.row (cut TL T) k m)] rfl (src_new _ _ _ rfl) (by omega) (sz_alloc HG.size) ?_; intro A' c' w1 ho hk' hb')
                    go_roundw
                    case rel => exact ⟨m + 1, A', c', by omega, by go_num, rfl, GrowB.push (Grow.alloc HG _) ho hk' (fun _ _ => rfl) rfl⟩
                    case measure => simp [intOf]; omega
                  · obtain rfl : m = g.n4 := by omega
                    have hrow := (rowT_of_bits HG.own).mono (p' := fun b => w4.heap.size ≤ b) (fun b _ hb => by have := HOG.out.size; omega)
                    have hmat2 := hmat.below HG.bel
                    have hst2 := hstg.below HG.bel
                    have hbox2 := hboxg.keeps (Grow.keeps HG)
                    have HO2 := Lib.hid (HOG.out.call HG.bel)
                    have hA4 := hA3.below HG.bel
                    have hszr : w4.heap.size ≤ wr.heap.size := by have := HOG.out.size; omega
                    clear HG hmat hstg hboxg hA3 hAg HBg
                    go_upto_region 34 with (at_builtin; refine wp_append rfl (.tmp 125) (.tmp 127) _ rfl elBoolRow w4.heap.size A k c _ rfl (hmat2.alloc _).own _ 1 1 [.slice Am g.n4 cm] rfl (src_new _ _ _ rfl) (by omega) (sz_alloc hszr) ?_; intro A' c' w6 ho hk' hb')
                    have hbA := own_base hmat2.own
                    have hal := (Below.refl wr.heap.size wr).alloc (Nat.le_refl _) (.cells #[.slice Am g.n4 cm] 31)
                    have hbox6 := hk'.box (hbox2.keeps (Keeps.of_below hal)) (fun c => by have := hbA _ c; omega)
                    have hst6 := (hst2.below hal).only hk' (fun b _ h c => by have := hbA _ c; have := HLT.out _ h; omega)
                    have hA6 := (hA4.alloc (.cells #[.slice Am g.n4 cm] 31)).only hk' (fun c => by have := hbA _ c; omega)
                    have hmat6 : OwnMat w6 w4.heap.size A' (k + 1) c' g.n4 (g.row (cut TL T)) (lastly k Am RA) (lastly k cm RC) := (hmat2.alloc _).push ho hk' (hrow.below hal)
                    have HO6 : Hid (Only (fun j => j = bv ∨ blockOf As j) w4 w6) := ((H.only.then_ HO2.out (fun i _ c => .inl c)).alloc _).then_ hk' (fun i hi c => absurd (hbA _ c) (by omega))
                    clear hk' ho hb' hmat2 hst2 hbox2 hrow HO2 hA4 hal
                    have hsz6 := HO6.out.size
                    have HB6 := Lib.hid (HB4.out.trans (HO6.out.below (B := w.heap.size) (fun j _ c => by have := HSB.out j c; omega) (by omega)))
                    obtain ⟨g0, g1, g2, g3, g4⟩ := hbox6.five
                    go_wp2_with fail
                    clear g0 g1 g2 g3 g4
                    go_loopw [132] (fun i wi => ∃ q : Nat, q ≤ g.n3 ∧ i = .int .i64 q ∧ Only (blockOf As) w6 wi ∧ Hid (∃ V : Nat → Bool, St wi (bv + 1) As g.n1 V ∧ ∀ j, j < q → V j = g.state (cut TL T) (k + 1) j)) (fun i _ => g.n3 - (intOf i).toNat)
                    case atStart => exact ⟨0, by omega, rfl, Only.refl _ _, _, hst6, fun j hj => by omega⟩
                    case round =>
                      obtain ⟨q, hq, rfl, HOl, HSl⟩ := hrel
                      obtain ⟨V5, hS, hV5⟩ := HSl.out
                      have HV5 := Lib.hid hV5; clear hV5
                      have HBl := Lib.hid (HB6.out.trans (HOl.below (B := w.heap.size) (fun j _ c => by have := HGE.out j c; omega) (by omega)))
                      have hAl := hA6.only HOl (fun c => by have := HGE.out _ c; omega)
                      by_cases hlt4 : q < g.n3
                      · obtain ⟨b3, o3, rfl, z0⟩ := (hg.next.keeps (Keeps.of_below HBl.out)).at_ hlt4
                        have hwn := hv.next q hlt4
                        unfold Tb.sigs at hwn
                        have hwp : (g.N q).toNat < nv := by have := HNVI.out; omega
                        have hcs := hAl.cell (k := (g.N q).toNat) hwp
                        rw [HV3.out _ hwp] at hcs
                        have e5 : 0 ≤ g.N q := by omega
                        have e6 : g.N q < nv := by have := HNVI.out; omega
                        have hq1 : q < g.n1 := by have := hv.n3; omega
                        obtain ⟨bs, rfl, hbs, s0, s1, hset⟩ := hS.at_ hq1
                        go_wp2_with fail
                        refine ⟨⟨q + 1, by omega, by go_num, HOl.setCell (p := ⟨bs, q, none⟩) (fun _ => ⟨_, rfl, rfl⟩) _, fun j => if j = q then g.state (cut TL T) (k + 1) q else V5 j, hset _ _ (fun j _ hj => by simp [hj]) (by simp only [if_true]; rfl), fun j hj => ?_⟩, by simp [intOf]; omega⟩
                        by_cases e : j = q
                        · simp only [if_pos e]; rw [e]
                        · simp only [if_neg e]; exact HV5.out j (by omega)
                      · obtain rfl : q = g.n3 := by omega
                        have hst7 := hS.congr (V' := g.state (cut TL T) (k + 1)) (fun j hj => (HV5.out j (by have := hv.n3; omega)).symm)
                        have hmat7 := hmat6.only HOl (fun j hj c => by have := HLT.out _ c; omega)
                        have hO7 := HO6.out.then_ HOl (fun i _ c => .inr c)
                        have hv0 : V2 0 = false := (HV3.out 0 (by omega)).trans (Tb.vals_lo _ _ _ 0 (by unfold Tb.pre; omega))
                        have hv1 : V2 1 = true := (HV3.out 1 (by omega)).trans (Tb.vals_lo _ _ _ 1 (by unfold Tb.pre; omega))
                        go_wp2_with fail
                        go_roundw
                        case rel => exact ⟨k + 1, A', c', _, _, by omega, by go_num, rfl, ⟨hO7, hst7, ⟨V2, hAl, hv0, hv1⟩, hmat7⟩⟩
                        case measure => simp [intOf]; omega
    · obtain rfl : k = nt := by omega
      have hsz := H.only.size
      go_wp2_with fail
      go_ret
      exact ⟨A, c, RA, RC, rfl, ⟨own_mono H.mat.own (by omega), fun i hi => (H.mat.rows i hi).mono (fun b _ hb => by omega)⟩, HBw.out⟩
end Go.Proofs.Ytdhgbikmaglgpaa
