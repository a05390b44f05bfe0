/- The reference's TablesRun, walked in a Door seat: the outputs, cycle by cycle, as a new slice of new rows (out of St, TRunRef). Conditions: the net is valid and lies in memory, the trace lies in memory. -/
import Derived.Test.YtlmcbhmaccncbaaDoorDepD
import Derived.Test.YtlmcbhmaccncbaaDoorCrR
namespace Go.Proofs.YtlmcbhmaccncbaaDoor
open Go.RowKit

def RetMat (w : World) (n len : Nat) (R : Nat → Nat → Bool) (e : Ending) (w' : World) : Prop :=
  ∃ A c RA RC, e = .returned (.slice A n c) ∧ OwnMat w' w.heap.size A n c len R RA RC ∧ Below w.heap.size w w'

/-- a row of inputs, cut off behind its length -/
def cut (TL : Nat → Nat) (T : Nat → Nat → Bool) (c i : Nat) : Bool := decide (i < TL c) && T c i

/-- a slice of bools in a block of the call's own from base on, as the head of an array -/
def St (w : World) (base : Nat) (A : Option Addr) (n : Nat) (V : Nat → Bool) : Prop :=
  0 < n → ∃ (b m : Nat) (U : Nat → Value), A = some ⟨b, 0, none⟩ ∧ base ≤ b ∧ n ≤ m ∧ Arr w b 4 m U ∧ ∀ k, k < n → U k = .bool (V k)
section
variable {w w1 : World} {base n : Nat} {A : Option Addr} {V V' : Nat → Bool}
theorem St.of_own {c : Nat} (h : OwnBits w base A n c V) : St w base A n V := fun hn => by
  obtain ⟨b, off, cur, rfl, hp, hh, hc⟩ := own_rowT h hn
  obtain ⟨hb, e⟩ := hp
  injection e with e; injection e with _ e _; subst e
  have hsz : n ≤ cur.size := by
    have h1 := hc (n - 1) (by omega) 0 (by omega)
    have := (Array.getElem?_eq_some_iff.1 h1).1
    omega
  refine ⟨b, cur.size, fun k => cur.getD k undef, rfl, hb, hsz, ⟨cur, hh, rfl, fun k hk => by simp [hk]⟩, fun k hk => ?_⟩
  have h1 := hc k hk 0 (by omega)
  simp only [Nat.zero_add, Nat.mul_one, Nat.add_zero] at h1
  simp only [Array.getD_eq_getD_getElem?, h1]
  simp [hk]
theorem St.bits (h : St w base A n V) : Bits w A n V := fun hn => by
  obtain ⟨b, m, U, rfl, _, hm, hA, hU⟩ := h hn
  exact ⟨b, 0, rfl, fun k hk => by rw [Nat.zero_add, hA.cell (by omega), hU k hk]⟩
theorem St.below (h : St w base A n V) (k : Below w.heap.size w w1) : St w1 base A n V := fun hn => by
  obtain ⟨b, m, U, e, hb, hm, hA, hU⟩ := h hn
  exact ⟨b, m, U, e, hb, hm, hA.below k, hU⟩
theorem St.only {S : Nat → Prop} (h : St w base A n V) (k : Only S w w1) (hs : ∀ b, b < w.heap.size → blockOf A b → ¬ S b) : St w1 base A n V := fun hn => by
  obtain ⟨b, m, U, e, hb, hm, hA, hU⟩ := h hn
  exact ⟨b, m, U, e, hb, hm, hA.only k (hs b hA.lt ⟨_, e, rfl⟩), hU⟩
theorem St.alloc (h : St w base A n V) (o : Obj) : St (w.alloc o) base A n V := h.below ((Below.refl _ _).alloc (Nat.le_refl _) o)
theorem St.congr (h : St w base A n V) (hV : ∀ j, j < n → V' j = V j) : St w base A n V' := fun hn => by
  obtain ⟨b, m, U, e, hb, hm, hA, hU⟩ := h hn
  exact ⟨b, m, U, e, hb, hm, hA, fun k hk => by rw [hU k hk, hV k hk]⟩
theorem St.at_ (h : St w base A n V) {k : Nat} (hk : k < n) : ∃ b, A = some ⟨b, 0, none⟩ ∧ base ≤ b ∧ w.cell? ⟨b, k, none⟩ = some (.bool (V k)) ∧ w.frozen? ⟨b, k, none⟩ = false ∧
    ∀ (x : Bool) (V' : Nat → Bool), (∀ j, j < n → j ≠ k → V' j = V j) → V' k = x → St (w.setCell ⟨b, k, none⟩ (.bool x)) base A n V' := by
  obtain ⟨b, m, U, e, hb, hm, hA, hU⟩ := h (by omega)
  refine ⟨b, e, hb, by rw [hA.cell (by omega), hU k hk], hA.thaw k, fun x V' h1 h2 _ => ⟨b, m, fun j => if j = k then .bool x else U j, e, hb, hm, hA.set (fun j _ hj => by simp [hj]) (by simp), fun j hj => ?_⟩⟩
  by_cases e : j = k
  · simp only [if_pos e]; rw [e, h2]
  · simp only [if_neg e]; rw [hU j hj, h1 j hj e]
theorem GrowB.congr {wb wr : World} {c : Nat} (h : GrowB wb A n c V wr) (hV : ∀ k, k < n → V' k = V k) : GrowB wb A n c V' wr := by
  unfold GrowB at *
  rw [List.map_congr_left (g := fun k => .bool (V k)) (fun k hk => by rw [hV k (by simpa using hk)])]
  exact h
end
/-- where TablesRun stands at the head of a cycle -/
structure TRun (g : Tb) (T : Nat → Nat → Bool) (base : Nat) (w1 wr : World) (As : Option Addr) (k : Nat) (A : Option Addr) (c : Nat) (RA : Nat → Option Addr) (RC : Nat → Nat) : Prop where
  only : Only (blockOf As) w1 wr
  st : St wr base As g.n1 (g.state T k)
  mat : OwnMat wr w1.heap.size A k c g.n4 (g.row T) RA RC

set_option maxHeartbeats 8000000 in
set_option maxRecDepth 100000 in
theorem tabRunRef_any (g : Tb) (A1 A2 A3 A4 : Option Addr) (c1 c2 c3 c4 : Nat) (At : Option Addr) (nt ct : Nat) (TL : Nat → Nat) (T : Nat → Nat → Bool) (w : World) (hg : g.At w A1 A2 A3 A4) (hfit : g.Fits) (hv : g.Valid)
    (ht : Mat w At nt TL T) (hnt : nt * 24 ≤ 140737488351232) (htl : ∀ i, i < nt → TL i ≤ 140737488351232) :
    Calls Tryd.prog 14 #[.agg #[.int .i64 g.ins, .slice A1 g.n1 c1, .slice A2 g.n2 c2, .slice A3 g.n3 c3, .slice A4 g.n4 c4], .slice At nt ct] w (RetMat w nt g.n4 (g.row (cut TL T))) := by
  have f1 := hfit.b1; have f2 := hfit.b2; have f3 := hfit.b3; have f4 := hfit.b4
  have v1 := hv.i0; have v2 := hv.i1; have v3 := hv.n4
  obtain ⟨nv, hnv, hnvi, hpre, hnvb, hn2⟩ := hv.nums hfit
  have HNV := Lib.hid hnv; have HNVI := Lib.hid hnvi; have HPRE := Lib.hid hpre; clear hnv hnvi hpre
  have HTL := Lib.hid htl; clear htl
  obtain ⟨TA, TC, ht1, ht2⟩ := ht
  have HT2 := Lib.hid ht2; clear ht2
  obtain ⟨UA, UC, t1, t2⟩ := hg.tabs
  have HU2 := Lib.hid t2; clear t2
  have hsrc := src_row1 (hg.init.keeps (Keeps.alloc w (.cells #[.int .i64 g.ins, .slice A1 g.n1 c1, .slice A2 g.n2 c2, .slice A3 g.n3 c3, .slice A4 g.n4 c4] 26))) (fun _ _ => rfl)
  go_enter Tryd.func14, Tryd.ntmps14
  go_upto_region 3 with (at_builtin; refine wp_append rfl (.tmp 16) (.tmp 18) _ rfl elBool (w.heap.size + 1) none 0 0 _ rfl (World.ownsRow_nil _ _ _ _) A1 g.n1 c1 _ rfl hsrc (by omega) (by simp) ?_; intro As cs w1 ho hk' hb')
  have hown : OwnBits w1 (w.heap.size + 1) As g.n1 cs g.I := by simpa [OwnBits] using ho
  have hbq := hk'.all (fun k _ c => by obtain ⟨a, h, _⟩ := c; cases h)
  have HB1 := Lib.hid (Below.alloc_then hbq)
  have hbox := (BoxAt.new w [.int .i64 g.ins, .slice A1 g.n1 c1, .slice A2 g.n2 c2, .slice A3 g.n3 c3, .slice A4 g.n4 c4] 26).keeps (Keeps.of_below hbq)
  have hs1 := hbq.size
  simp at hs1
  have HLT := Lib.hid (own_lt hown)
  have HGE := Lib.hid (own_base hown)
  have hst1 := St.of_own hown
  clear ho hk' hb' hbq hown hsrc
  go_wp2_with fail
  go_loopw [6, 7] (fun out i wr => ∃ (k : Nat) (A : Option Addr) (c : Nat) (RA : Nat → Option Addr) (RC : Nat → Nat), k ≤ nt ∧ i = .int .i64 k ∧ out = .slice A k c ∧
    TRun g (cut TL T) (w.heap.size + 1) w1 wr As k A c RA RC) (fun _ i _ => nt - (intOf i).toNat)
  case atStart => exact ⟨0, none, 0, fun _ => none, fun _ => 0, by omega, rfl, rfl, ⟨Only.refl _ _, hst1.congr (fun _ _ => rfl), ⟨World.ownsRow_nil _ _ _ _, fun i hi => by omega⟩⟩⟩
  case round =>
    clear hst1
    obtain ⟨k, A, c, RA, RC, hk, rfl, rfl, H⟩ := hrel
    have HBw := Lib.hid (HB1.out.trans (H.only.below (B := w.heap.size) (fun j _ c => by have := HGE.out j c; omega) (by omega)))
    have hboxw := H.only.box hbox (fun c => by have := HGE.out _ c; omega)
    obtain ⟨g0, g1, g2, g3, g4⟩ := hboxw.five
    have hszw := H.only.size
    by_cases hlt : k < nt
    · obtain ⟨bt, ot, rfl, x0⟩ := (ht1.keeps (Keeps.of_below HBw.out)).at_ hlt
      have hbk := HT2.out k hlt
      have htlk := HTL.out k hlt
      go_wp2_with fail
      generalize TA k = Ak at hbk x0
      clear g0 g1 g2 g3 g4
      obtain ⟨wo, rfl⟩ : ∃ wo : World, wo = wr := ⟨_, rfl⟩
      have hG0 := GrowB.two wo (g.head (cut TL T k) (g.state (cut TL T) k)) rfl rfl
      go_loopw [8, 9] (fun v i wi => ∃ (m : Nat) (A : Option Addr) (c : Nat), m ≤ g.ins.toNat ∧ i = .int .i64 m ∧ v = .slice A (m + 2) c ∧ GrowB wo A (m + 2) c (g.head (cut TL T k) (g.state (cut TL T) k)) wi) (fun _ i _ => g.ins.toNat - (intOf i).toNat)
      case atStart => exact ⟨0, _, _, by omega, rfl, rfl, hG0⟩
      case round =>
        clear hG0
        obtain ⟨m, Av, cv, hm, rfl, rfl, HG⟩ := hrel
        have hkp := Lib.hid (Grow.keeps HG)
        have HBi := Lib.hid (HBw.out.trans (HG.bel.mono (by omega)))
        obtain ⟨g0, g1, g2, g3, g4⟩ := (hboxw.keeps hkp.out).five
        have y0 := hkp.out _ _ x0
        have hszg := HG.size
        by_cases hlt2 : m < g.ins.toNat
        · have hmm : 2 + m ≤ 60002 := by omega
          by_cases hin : m < TL k
          · obtain ⟨bi, oi, rfl, z0⟩ := (hbk.keeps (Keeps.of_below HBi.out)).at_ hin
            have hd : decide ((m : Int) < (TL k : Int)) = true := by simp; omega
            go_wp2_with (at_builtin; refine wp_append rfl (.tmp 33) (.tmp 50) _ rfl elBool wo.heap.size Av (m + 2) cv _ rfl (Grow.alloc HG _).own _ 1 1 [.bool (T k m)] rfl (src_new _ _ _ rfl) (by omega) (sz_alloc HG.size) ?_; intro A' c' w1 ho hk' hb')
            go_roundw
            case rel => exact ⟨m + 1, A', c', by omega, by go_num, rfl, GrowB.push (Grow.alloc HG _) ho hk' (fun _ _ => rfl) (by rw [Tb.head_in _ _ _ hlt2]; simp [cut, hin])⟩
            case measure => simp [intOf]; omega
          · have hd : decide ((m : Int) < (TL k : Int)) = false := by simp; omega
            go_wp2_with (at_builtin; refine wp_append rfl (.tmp 33) (.tmp 50) _ rfl elBool wo.heap.size Av (m + 2) cv _ rfl (Grow.alloc HG _).own _ 1 1 [.bool false] rfl (src_new _ _ _ rfl) (by omega) (sz_alloc HG.size) ?_; intro A' c' w1 ho hk' hb')
            go_roundw
            case rel => exact ⟨m + 1, A', c', by omega, by go_num, rfl, GrowB.push (Grow.alloc HG _) ho hk' (fun _ _ => rfl) (by rw [Tb.head_in _ _ _ hlt2]; simp [cut, hin])⟩
            case measure => simp [intOf]; omega
        · obtain rfl : m = g.ins.toNat := by omega
          have hsrc := src_row1 (H.st.below HG.bel).bits (fun _ _ => rfl)
          have hn1b : g.ins.toNat + 2 + g.n1 ≤ 35000000000000 := by have := HNV.out; unfold Tb.pre at this; omega
          go_wp2_with (at_builtin; refine wp_append rfl (.tmp 52) (.tmp 53) _ rfl elBool wo.heap.size Av (g.ins.toNat + 2) cv _ rfl (Grow.own HG) _ g.n1 cs _ rfl hsrc (by omega) HG.size ?_; intro A' c' w2 ho hk' hb')
          have H1 := GrowB.app (V' := g.head (cut TL T k) (g.state (cut TL T) k)) HG ho hk' (fun _ _ => rfl) (fun j hj => Tb.head_st _ _ _ hj)
          have hp : g.ins.toNat + 2 + g.n1 = g.pre := by unfold Tb.pre; omega
          rw [hp] at H1 ⊢
          clear ho hk' hb' hsrc HG hkp HBi g0 g1 g2 g3 g4 y0 hszg hp hn1b
          go_loopw [8, 10] (fun v i wi => ∃ (m : Nat) (A : Option Addr) (c : Nat), m ≤ g.n2 ∧ i = .int .i64 m ∧ v = .slice A (g.pre + m) c ∧ GrowB wo A (g.pre + m) c (g.cyc (cut TL T k) (g.state (cut TL T) k) m) wi) (fun _ i _ => g.n2 - (intOf i).toNat)
          case atStart => exact ⟨0, A', c', by omega, rfl, rfl, H1⟩
          case round =>
            clear H1
            obtain ⟨m, Av, cv, hm, rfl, rfl, HG⟩ := hrel
            have hkp := Lib.hid (Grow.keeps HG)
            have HBi := Lib.hid (HBw.out.trans (HG.bel.mono (by omega)))
            obtain ⟨g0, g1, g2, g3, g4⟩ := (hboxw.keeps hkp.out).five
            have hszg := HG.size
            have hpm : g.pre + m ≤ nv := by have := HNV.out; omega
            by_cases hlt2 : m < g.n2
            · obtain ⟨b2, o2, rfl, p0, p1⟩ := (t1.keeps (Keeps.of_below HBi.out)).at2 hlt2
              have huk := (HU2.out m hlt2).keeps (Keeps.of_below HBi.out)
              simp only [two] at p0 p1
              generalize hUm : UA m = Um at *
              clear hUm
              have hok := hv.tabs m hlt2
              have hl := hok.len
              have hlo := hok.lo
              have hin := hok.ins
              have HIN := Lib.hid hin; clear hin hok
              go_wp2_with fail
              have hvb := HG.own.bits
              obtain ⟨wm, rfl⟩ : ∃ wm : World, wm = wr := ⟨_, rfl⟩
              clear g0 g1 g2 g3 g4
              go_loopw [11, 12] (fun r i wi => ∃ (q : Nat) (A : Option Addr) (c : Nat), q ≤ g.tl m ∧ i = .int .i64 q ∧ r = .slice A q c ∧ GrowB wm A q c (fun j => g.cyc (cut TL T k) (g.state (cut TL T) k) m (g.tw m j).toNat) wi) (fun _ i _ => g.tl m - (intOf i).toNat)
              case atStart => exact ⟨0, _, _, by omega, rfl, rfl, GrowB.start _ _⟩
              case round =>
                obtain ⟨q, Aq, cq, hq, rfl, rfl, HQ⟩ := hrel
                have hkq := Lib.hid (Grow.keeps HQ)
                obtain ⟨g0, g1, g2, g3, g4⟩ := (hboxw.keeps (hkp.out.trans hkq.out)).five
                have q0 := hkq.out _ _ p0
                have q1 := hkq.out _ _ p1
                have hszq := HQ.size
                by_cases hlt3 : q < g.tl m
                · obtain ⟨b3, o3, rfl, z0⟩ := (huk.keeps hkq.out).at_ hlt3
                  have hwn := HIN.out q hlt3
                  have hwp : (g.tw m q).toNat < g.pre + m := by have := HPRE.out; omega
                  obtain ⟨bv, ov, rfl, z1⟩ := (hvb.keeps hkq.out).at_ hwp
                  have e5 : 0 ≤ g.tw m q := by omega
                  have e6 : g.tw m q < (g.pre : Int) + m := by omega
                  go_wp2_with (at_builtin; refine wp_append rfl (.tmp 73) (.tmp 86) _ rfl elBool wm.heap.size Aq q cq _ rfl (Grow.alloc HQ _).own _ 1 1 [.bool (g.cyc (cut TL T k) (g.state (cut TL T) k) m (g.tw m q).toNat)] rfl (src_new _ _ _ rfl) (by omega) (sz_alloc HQ.size) ?_; intro A' c' w1 ho hk' hb')
                  go_roundw
                  case rel => exact ⟨q + 1, A', c', by omega, by go_num, rfl, GrowB.push (Grow.alloc HQ _) ho hk' (fun _ _ => rfl) rfl⟩
                  case measure => simp [intOf]; omega
                · obtain rfl : q = g.tl m := by omega
                  go_wp2_with fail
                  refine (told_any (g.tb m) Aq (g.tl m) cq _ _ (GrowB.own HQ).bits hl hlo).mono ?_
                  rintro e w' ⟨rfl, rfl⟩
                  have H3 : GrowB wo Av (g.pre + m) cv (g.cyc (cut TL T k) (g.state (cut TL T) k) m) wr := Grow.call HG HQ.bel
                  clear g0 g1 g2 g3 g4 q0 q1
                  go_wp2_with (at_builtin; refine wp_append rfl (.tmp 88) (.tmp 97) _ rfl elBool wo.heap.size Av (g.pre + m) cv _ rfl (Grow.alloc H3 _).own _ 1 1 [.bool (bitAt (g.tb m) (rowB (fun j => g.cyc (cut TL T k) (g.state (cut TL T) k) m (g.tw m j).toNat) (g.tl m)))] rfl (src_new _ _ _ rfl) (by omega) (sz_alloc (Grow.size H3)) ?_; intro A' c' w1 ho hk' hb')
                  go_roundw
                  case rel => exact ⟨m + 1, A', c', by omega, by go_num, rfl, GrowB.push (Grow.alloc H3 _) ho hk' (fun j hj => Tb.cyc_lo _ _ _ _ _ hj) (Tb.cyc_at _ _ _ _)⟩
                  case measure => simp [intOf]; omega
            · obtain rfl : m = g.n2 := by omega
              have hvals : GrowB wo Av (g.pre + g.n2) cv (g.vals (cut TL T k) (g.state (cut TL T) k)) wr := HG
              have hst := H.st.below HG.bel
              have hmat := H.mat.below HG.bel
              clear HG hkp
              have hkv := Lib.hid (Grow.keeps hvals)
              have hvb := (GrowB.own hvals).bits
              go_wp2_with fail
              clear g0 g1 g2 g3 g4
              obtain ⟨wv, rfl⟩ : ∃ wv : World, wv = wr := ⟨_, rfl⟩
              go_loopw [13, 14] (fun v i wi => ∃ (q : Nat) (A : Option Addr) (c : Nat), q ≤ g.n4 ∧ i = .int .i64 q ∧ v = .slice A q c ∧ GrowB wv A q c (g.row (cut TL T) k) wi) (fun _ i _ => g.n4 - (intOf i).toNat)
              case atStart => exact ⟨0, _, _, by omega, rfl, rfl, GrowB.start _ _⟩
              case round =>
                obtain ⟨q, Aq, cq, hq, rfl, rfl, HQ⟩ := hrel
                have hkq := Lib.hid (Grow.keeps HQ)
                have HBq := Lib.hid (HBi.out.trans (HQ.bel.mono (by have := HBi.out.size; omega)))
                have hboxq := hboxw.keeps (hkv.out.trans hkq.out)
                obtain ⟨g0, g1, g2, g3, g4⟩ := hboxq.five
                have hszq := HQ.size
                by_cases hlt3 : q < g.n4
                · obtain ⟨b3, o3, rfl, z0⟩ := (hg.outs.keeps (Keeps.of_below HBq.out)).at_ hlt3
                  have hwn := hv.outs q hlt3
                  unfold Tb.sigs at hwn
                  have hwp : (g.O q).toNat < g.pre + g.n2 := by have := HPRE.out; omega
                  obtain ⟨bv, ov, rfl, z1⟩ := (hvb.keeps hkq.out).at_ hwp
                  have e5 : 0 ≤ g.O q := by omega
                  have e6 : g.O q < (g.pre : Int) + g.n2 := by have := HPRE.out; omega
                  go_wp2_with (at_builtin; refine wp_append rfl (.tmp 106) (.tmp 115) _ rfl elBool wv.heap.size Aq q cq _ rfl (Grow.alloc HQ _).own _ 1 1 [.bool (g.row (cut TL T) k q)] rfl (src_new _ _ _ rfl) (by omega) (sz_alloc HQ.size) ?_; intro A' c' w1 ho hk' hb')
                  go_roundw
                  case rel => exact ⟨q + 1, A', c', by omega, by go_num, rfl, GrowB.push (Grow.alloc HQ _) ho hk' (fun _ _ => rfl) rfl⟩
                  case measure => simp [intOf]; omega
                · obtain rfl : q = g.n4 := by omega
                  have hrow := (rowT_of_bits (GrowB.own HQ)).mono (p' := fun b => w1.heap.size ≤ b) (fun b _ hb => by omega)
                  have hmat2 := hmat.below HQ.bel
                  have hst2 := hst.below HQ.bel
                  have hv2 := rowT_of_bits (GrowB.own (Grow.call hvals HQ.bel))
                  have HO2 := Lib.hid ((H.only.call hvals.bel).call HQ.bel)
                  have hszr : w1.heap.size ≤ wr.heap.size := by omega
                  clear hmat hst hvals hkv hkq HQ hvb HBq
                  go_upto_region 28 with (at_builtin; refine wp_append rfl (.tmp 117) (.tmp 119) _ rfl elBoolRow w1.heap.size A k c _ rfl (hmat2.alloc _).own _ 1 1 [.slice Aq g.n4 cq] rfl (src_new _ _ _ rfl) (by omega) (sz_alloc hszr) ?_; intro A' c' w6 ho hk' hb')
                  have hty := own_type (e' := 4) (hmat2.alloc (.cells #[.slice Aq g.n4 cq] 22)).own (by decide)
                  have hal := (Below.refl wr.heap.size wr).alloc (Nat.le_refl _) (.cells #[.slice Aq g.n4 cq] 22)
                  have hbA := own_base hmat2.own
                  have hbox6 := hk'.box (hboxq.keeps (Keeps.of_below hal)) (fun c => by have := hbA _ c; omega)
                  have hst6 := (hst2.below hal).only hk' (fun b _ h c => by have := hbA _ c; have := HLT.out _ h; omega)
                  have hv6 := (hv2.below hal).only hk' (fun b cur _ hb => hty b cur hb)
                  have hmat6 : OwnMat w6 w1.heap.size A' (k + 1) c' g.n4 (g.row (cut TL T)) (lastly k Aq RA) (lastly k cq RC) := (hmat2.alloc _).push ho hk' (hrow.below hal)
                  have HO6 : Hid (Only (blockOf As) w1 w6) := (HO2.out.alloc _).then_ hk' (fun i hi c => absurd (hbA _ c) (by omega))
                  clear hk' ho hb' hty hal hbA hmat2 hst2 hrow HO2 hv2 g0 g1 g2 g3 g4
                  have hsz6 := HO6.out.size
                  have HB6 := Lib.hid (HB1.out.trans (HO6.out.below (B := w.heap.size) (fun j _ c => by have := HGE.out j c; omega) (by omega)))
                  go_wp2_with fail
                  go_loopw [15] (fun i wi => ∃ q : Nat, q ≤ g.n3 ∧ i = .int .i64 q ∧ Only (blockOf As) w6 wi ∧ Hid (∃ V : Nat → Bool, St wi (w.heap.size + 1) As g.n1 V ∧ ∀ j, j < q → V j = g.state (cut TL T) (k + 1) j)) (fun i _ => g.n3 - (intOf i).toNat)
                  case atStart => exact ⟨0, by omega, rfl, Only.refl _ _, _, hst6, fun j hj => by omega⟩
                  case round =>
                    obtain ⟨q, hq, rfl, HOl, HS⟩ := hrel
                    obtain ⟨V, hS, hV⟩ := HS.out
                    have HV := Lib.hid hV; clear hV
                    have HBl := Lib.hid (HB6.out.trans (HOl.below (B := w.heap.size) (fun j _ c => by have := HGE.out j c; omega) (by omega)))
                    obtain ⟨g0, g1, g2, g3, g4⟩ := (HOl.box hbox6 (fun c => by have := HGE.out _ c; omega)).five
                    by_cases hlt4 : q < g.n3
                    · have hwn := hv.next q hlt4
                      unfold Tb.sigs at hwn
                      have hwp : (g.N q).toNat < g.pre + g.n2 := by have := HPRE.out; omega
                      obtain ⟨b3, o3, rfl, z0⟩ := (hg.next.keeps (Keeps.of_below HBl.out)).at_ hlt4
                      obtain ⟨bv, ov, rfl, z1⟩ := (bits_of_rowT (hv6.only HOl (fun b _ hb _ c => by have := HLT.out _ c; omega))).at_ hwp
                      have e5 : 0 ≤ g.N q := by omega
                      have e6 : g.N q < (g.pre : Int) + g.n2 := by have := HPRE.out; omega
                      have hq1 : q < g.n1 := by have := hv.n3; omega
                      obtain ⟨bs, rfl, hbs, s0, s1, hset⟩ := hS.at_ hq1
                      go_wp2_with fail
                      go_roundw
                      case rel =>
                        refine ⟨q + 1, by omega, by go_num, HOl.setCell (p := ⟨bs, q, none⟩) (fun _ => ⟨_, rfl, rfl⟩) _, fun j => if j = q then g.state (cut TL T) (k + 1) q else V j, hset _ _ (fun j _ hj => by simp [hj]) (by simp only [if_true]; rfl), fun j hj => ?_⟩
                        by_cases e : j = q
                        · simp only [if_pos e]; rw [e]
                        · simp only [if_neg e]; exact HV.out j (by omega)
                      case measure => simp [intOf]; omega
                    · obtain rfl : q = g.n3 := by omega
                      have hst7 := hS.congr (V' := g.state (cut TL T) (k + 1)) (fun j hj => (HV.out j (by have := hv.n3; omega)).symm)
                      have hmat7 := hmat6.only HOl (fun j hj c => by have := HLT.out _ c; omega)
                      have hO7 := HO6.out.then_ HOl (fun i _ c => c)
                      go_wp2_with fail
                      go_roundw
                      case rel => exact ⟨k + 1, A', c', _, _, by omega, by go_num, rfl, ⟨hO7, hst7, hmat7⟩⟩
                      case measure => simp [intOf]; omega
    · obtain rfl : k = nt := by omega
      go_wp2_with fail
      go_ret
      exact ⟨A, c, RA, RC, rfl, ⟨own_mono H.mat.own (by omega), fun i hi => (H.mat.rows i hi).mono (fun b _ hb => by omega)⟩, HBw.out⟩
end Go.Proofs.YtlmcbhmaccncbaaDoor
