/- The reference's ConfigRun, walked: what a fabric with a valid configuration shows, as a new slice of rows. Conditions: the configuration is valid and lies in memory, the trace lies in memory. -/
import Derived.Test.YtlmcbhmaccncbaaDoorFrS
import Derived.Test.YtlmcbhmaccncbaaDoorCfR
import Derived.Test.YtlmcbhmaccncbaaDoorApS
import Derived.Lib.Hide
namespace Go.Proofs.YtlmcbhmaccncbaaDoor
open Go.RowKit Go.Deep

/-- how many signals there are behind i columns -/
def Cf.nsig (c : Cf) : Nat → Nat
  | 0 => 2 + (c.sh 0).toNat + c.nr
  | i + 1 => 2 + c.rows i
theorem Cf.nsig_src {c : Cf} (h : c.Ok) {i : Nat} (hi : i ≤ c.nc) : (c.nsig i : Int) = c.src i := by
  have h0 := h.d.sh.s0
  have h2 := h.d.nr
  cases i with
  | zero => show ((2 + (c.sh 0).toNat + c.nr : Nat) : Int) = 2 + c.sh 0 + c.sh 2; omega
  | succ i => show ((2 + c.rows i : Nat) : Int) = 2 + c.sh 3; have := h.d.rows i (by omega); omega
theorem Cf.src_end {c : Cf} (h : c.Ok) : c.src 1 = c.nsig c.nc := by
  have h4 := h.d.sh.s4
  have h5 := h.d.nc
  rw [Cf.nsig_src h (Nat.le_refl _)]
  obtain ⟨m, hm⟩ : ∃ m, c.nc = m + 1 := ⟨c.nc - 1, by omega⟩
  rw [hm]; rfl
theorem GrowB.app {wb wr w1 : World} {A A' : Option Addr} {n m c c' : Nat} {V V' S : Nat → Bool} (h : GrowB wb A n c V wr)
    (ho : w1.ownsRow wb.heap.size 4 1 (.slice A' (n + m) c') (n + m) (((List.range n).map fun k => .bool (V k)) ++ (List.range m).map fun k => .bool (S k))) (hk : Only (blockOf A) wr w1)
    (hV : ∀ k, k < n → V' k = V k) (hx : ∀ k, k < m → V' (n + k) = S k) : GrowB wb A' (n + m) c' V' w1 := by
  refine Grow.push h ?_ hk
  rw [List.range_add, List.map_append, List.map_map, List.map_congr_left (g := fun k => .bool (V k)) (fun k hk => by rw [hV k (by simpa using hk)]),
    List.map_congr_left (l := List.range m) (g := fun k => .bool (S k)) (fun k hk => by simp only [Function.comp]; rw [hx k (by simpa using hk)])]
  exact ho
/-- a new slice of two bools: none, one -/
theorem GrowB.two (w : World) (V : Nat → Bool) (h0 : V 0 = false) (h1 : V 1 = true) : GrowB w (some ⟨w.heap.size, 0, none⟩) 2 2 V (w.alloc (.cells #[.bool false, .bool true] 4)) := by
  refine ⟨⟨rfl, .inr ⟨_, 2, #[.bool false, .bool true], rfl, Nat.le_refl _, heap_alloc_new _ _, by omega, by simp [maxLen], rfl, ?_⟩⟩, (Below.refl _ _).alloc (Nat.le_refl _) _⟩
  simp [List.range_succ, h0, h1]
theorem RowT.set {p : Nat → Prop} {w : World} {e : TypeId} {n b o k : Nat} {f f' : Nat → Nat → Value} {v : Value} (h : RowT p w e 1 (some ⟨b, o, none⟩) n f) (hf : ∀ j, j < n → j ≠ k → f' j 0 = f j 0) (hv : f' k 0 = v) : RowT p (w.setCell ⟨b, o + k, none⟩ v) e 1 (some ⟨b, o, none⟩) n f' := fun hn => by
  obtain ⟨b', o', cur, he, hp, hh, hc⟩ := h hn
  injection he with he; injection he with e1 e2; subst e1 e2
  refine ⟨b, o, cur.setIfInBounds (o + k) v, rfl, hp, by simp [World.setCell, Array.getElem?_modify, hh], fun j hj i hi => ?_⟩
  obtain rfl : i = 0 := by omega
  have hcj := hc j hj 0 hi
  rw [Nat.add_zero, Nat.mul_one] at hcj ⊢
  rw [Array.getElem?_setIfInBounds]
  by_cases ej : j = k
  · subst ej
    rw [if_pos rfl, if_pos (Array.getElem?_eq_some_iff.1 hcj).1, hv]
  · rw [if_neg (by omega), hcj, hf j hj ej]

set_option maxRecDepth 100000 in
set_option maxHeartbeats 16000000 in
theorem refRun_any (c : Cf) (AC AR AO AT : Option Addr) (n ct : Nat) (len : Nat → Nat) (T : Nat → Nat → Bool) (w : World) (hc : c.At w) (hok : c.Ok) (eC : c.AC = AC) (eR : c.AR = AR) (eO : c.AO = AO) (hT : Mat w AT n len T) (hn : n * 24 ≤ 140737488355328) (hl : ∀ t, t < n → len t ≤ 140737488355328) :
    Calls Tryd.prog 12 #[.agg #[.int .i64 (c.sh 0), .int .i64 (c.sh 1), .int .i64 (c.sh 2), .int .i64 (c.sh 3), .int .i64 (c.sh 4), .slice AC c.nc c.cC, .slice AR c.nr c.cR, .slice AO c.no c.cO], .slice AT n ct] w fun e w' =>
      (∃ A c', e = .returned (.slice A n c') ∧ Mat w' A n (fun _ => c.no) (c.sho (inpAt len T))) ∧ Below w.heap.size w w' := by
  obtain ⟨TA, TC, hT1, hT2⟩ := hT
  have HC := Lib.hid hc; have HOK := Lib.hid hok; have EC := Lib.hid eC; have ER := Lib.hid eR; have EO := Lib.hid eO; have HT1 := Lib.hid hT1; have HT2 := Lib.hid hT2; have HL := Lib.hid hl
  obtain ⟨ins, hins⟩ : ∃ ins : Nat, c.sh 0 = (ins : Int) := ⟨(c.sh 0).toNat, by have := hok.d.sh.s0; omega⟩
  have hnr5 : c.nr ≤ 500 := by have := hok.d.nr; have := hok.d.sh.s2; omega
  have hno5 : c.no ≤ 500 := by have := hok.d.no; have := hok.d.sh.s1; omega
  have hnc1 : c.nc ≤ 100 := by have := hok.d.nc; have := hok.d.sh.s4; omega
  have hin5 : ins ≤ 500 := by have := hok.d.sh.s0; omega
  have HR5 : Hid (∀ i, i < c.nc → c.rows i ≤ 500) := Lib.hid (fun i hi => by have := hok.d.rows i hi; have := hok.d.sh.s3; omega)
  have HI := Lib.hid hins
  have hins2 : (c.sh 0).toNat = ins := by omega
  have HI2 := Lib.hid hins2
  clear hc hok eC eR eO hT1 hT2 hl hins2
  go_enter Tryd.func12, Tryd.ntmps12
  rw [hins]
  -- WALK
  have hbx := BoxAt.new w [.int .i64 (ins : Nat), .int .i64 (c.sh 1), .int .i64 (c.sh 2), .int .i64 (c.sh 3), .int .i64 (c.sh 4), .slice AC c.nc c.cC, .slice AR c.nr c.cR, .slice AO c.no c.cO] 36
  have hbv := (Below.refl w.heap.size w).alloc (Nat.le_refl _) (.cells #[.int .i64 (ins : Nat), .int .i64 (c.sh 1), .int .i64 (c.sh 2), .int .i64 (c.sh 3), .int .i64 (c.sh 4), .slice AC c.nc c.cC, .slice AR c.nr c.cR, .slice AO c.no c.cO] 36)
  have hzv : (w.alloc (.cells #[.int .i64 (ins : Nat), .int .i64 (c.sh 1), .int .i64 (c.sh 2), .int .i64 (c.sh 3), .int .i64 (c.sh 4), .slice AC c.nc c.cC, .slice AR c.nr c.cR, .slice AO c.no c.cO] 36)).heap.size = w.heap.size + 1 := by simp
  go_wp2_with fail
  generalize w.alloc (.cells #[.int .i64 (ins : Nat), .int .i64 (c.sh 1), .int .i64 (c.sh 2), .int .i64 (c.sh 3), .int .i64 (c.sh 4), .slice AC c.nc c.cC, .slice AR c.nr c.cR, .slice AO c.no c.cO] 36) = v at *
  have HBX := Lib.hid hbx; have HBV := Lib.hid hbv
  clear hbx hbv
  go_loopw [5, 6] (fun vs vi wr => ∃ (k : Nat) (A : Option Addr) (cA : Nat), k ≤ c.nr ∧ vi = .int .i64 k ∧ vs = .slice A k cA ∧ GrowB v A k cA c.RI wr) (fun _ vi _ => c.nr - (intOf vi).toNat)
  case atStart => exact ⟨0, _, _, by omega, rfl, rfl, GrowB.start _ _⟩
  case round =>
    obtain ⟨k, AS, cS, hk, rfl, rfl, HG⟩ := hrel
    have q6 := (HBX.out.keeps (Keeps.of_below HG.bel)) 6 _ rfl
    have hbw := HBV.out.trans (HG.bel.mono (by omega))
    by_cases hlt : k < c.nr
    · obtain ⟨bR, oR, rfl, _, x1⟩ := (HC.out.keeps (Keeps.of_below hbw)).reg ER.out hlt
      go_wp2_with (at_builtin; refine wp_append rfl (.tmp 25) (.tmp 32) _ rfl elBool v.heap.size AS k cS _ rfl (Grow.alloc HG _).own _ 1 1 [.bool (c.RI k)] rfl (src_new _ _ _ rfl) (by omega) (sz_alloc HG.size) ?_; intro A' c' w1 ho hk' hb')
      go_roundw
      case rel => exact ⟨k + 1, A', c', by omega, by go_num, rfl, GrowB.push (Grow.alloc HG _) ho hk' (fun _ _ => rfl) rfl⟩
      case measure => simp [intOf]; omega
    · obtain rfl : k = c.nr := by omega
      obtain ⟨w2, hw2⟩ : ∃ x, x = wr := ⟨_, rfl⟩
      subst hw2
      go_wp2_with fail
      have hst := rowT_of_bits HG.own
      have HST0 : Hid (RowT (fun b => v.heap.size ≤ b ∧ b < w2.heap.size) w2 4 1 AS c.nr (fun j _ => .bool (c.RI j))) := Lib.hid (fun h0 => by
        obtain ⟨b, off, cur, e, hb, hh, hcc⟩ := hst h0
        exact ⟨b, off, cur, e, ⟨hb, (Array.getElem?_eq_some_iff.1 hh).1⟩, hh, hcc⟩)
      have HAS : Hid (∀ b, blockOf AS b → v.heap.size ≤ b ∧ b < w2.heap.size) := Lib.hid (fun b hb => ⟨own_base HG.own b hb, own_lt HG.own b hb⟩)
      have HB2 := Lib.hid HG.bel
      have hzv2 := HG.bel.size
      clear hst HG q6 hbw hlt hk
      go_loopw [7, 8] (fun va vt wr => ∃ (t : Nat) (A : Option Addr) (cA : Nat) (RA : Nat → Option Addr) (RC : Nat → Nat), t ≤ n ∧ vt = .int .i64 t ∧ va = .slice A t cA ∧ Hid (OwnMat wr w2.heap.size A t cA c.no (c.sho (inpAt len T)) RA RC) ∧ Hid (RowT (fun b => v.heap.size ≤ b ∧ b < w2.heap.size) wr 4 1 AS c.nr (fun j _ => .bool ((c.stt (inpAt len T) t) j))) ∧ Hid (Below v.heap.size v wr) ∧ w2.heap.size ≤ wr.heap.size) (fun _ vt _ => n - (intOf vt).toNat)
      case atStart => exact ⟨0, none, 0, fun _ => none, fun _ => 0, by omega, rfl, rfl, Lib.hid ⟨World.ownsRow_nil _ _ _ _, fun i hi => by omega⟩, HST0, HB2, Nat.le_refl _⟩
      case round =>
        clear HST0 HB2
        obtain ⟨t, AA, cA, RA, RC, ht, rfl, rfl, HM, HST, HB, hzw⟩ := hrel
        obtain ⟨wo, hwo⟩ : ∃ x, x = wr := ⟨_, rfl⟩
        subst hwo
        by_cases hlt : t < n
        · skip
          have hg0 := GrowB.two wo (c.sig ((inpAt len T) t) (c.stt (inpAt len T) t) 0) rfl rfl
          have hz1 : (wo.alloc (.cells #[.bool false, .bool true] 4)).heap.size = wo.heap.size + 1 := by simp
          go_wp2_with fail
          generalize wo.alloc (.cells #[.bool false, .bool true] 4) = w3 at *
          have HG0 := Lib.hid hg0
          clear hg0
          go_loopw [9, 10] (fun vv vi wr => ∃ (k : Nat) (A : Option Addr) (cV : Nat), k ≤ ins ∧ vi = .int .i64 k ∧ vv = .slice A (2 + k) cV ∧ Hid (GrowB wo A (2 + k) cV (c.sig ((inpAt len T) t) (c.stt (inpAt len T) t) 0) wr)) (fun _ vi _ => ins - (intOf vi).toNat)
          case atStart => exact ⟨0, _, _, by omega, rfl, rfl, HG0⟩
          case round =>
            clear HG0
            obtain ⟨k, AV, cV, hk, rfl, rfl, HG⟩ := hrel
            have hbvr : Below v.heap.size v wr := HB.out.trans (HG.out.bel.mono HB.out.size)
            have q0 := (HBX.out.keeps (Keeps.of_below hbvr)) 0 _ rfl
            have hgs := HG.out.size
            by_cases hlk : k < ins
            · have hkw : Keeps w wr := Keeps.of_below (HBV.out.trans (hbvr.mono (by omega)))
              obtain ⟨bT, oT, rfl, x0⟩ := (HT1.out.keeps hkw).at_ hlt
              have hnx : (c.sig ((inpAt len T) t) (c.stt (inpAt len T) t) 0) (2 + k) = if k < len t then T t k else false := by
                show (if 2 + k = 0 then false else if 2 + k = 1 then true else if 2 + k < 2 + (c.sh 0).toNat then inpAt len T t (2 + k - 2) else _) = _
                rw [HI2.out, if_neg (by omega), if_neg (by omega), if_pos (by omega), show 2 + k - 2 = k by omega]; rfl
              by_cases hlen : k < len t
              · obtain ⟨bI, oI, hTA, y0⟩ := ((HT2.out t hlt).keeps hkw).at_ hlen
                rw [hTA] at x0
                rw [if_pos hlen] at hnx
                have HNX := Lib.hid hnx
                have hd : decide ((k : Int) < (len t : Int)) = true := decide_eq_true (by omega)
                generalize T t k = β at *
                generalize len t = lt at *
                clear hnx hTA
                go_wp2_with (at_builtin; refine wp_append rfl (.tmp 48) (.tmp 65) _ rfl elBool wo.heap.size AV (2 + k) cV _ rfl (Grow.alloc HG.out _).own _ 1 1 [.bool β] rfl (src_new _ _ _ rfl) (by omega) (sz_alloc hgs) ?_; intro A' c' w1 ho hk' hb')
                go_roundw
                case rel => exact ⟨k + 1, A', c', by omega, by go_num, rfl, Lib.hid (GrowB.push (Grow.alloc HG.out _) ho hk' (fun _ _ => rfl) HNX.out)⟩
                case measure => simp [intOf]; omega
              · rw [if_neg hlen] at hnx
                have HNX := Lib.hid hnx
                have hd : decide ((k : Int) < (len t : Int)) = false := decide_eq_false (by omega)
                clear hnx
                go_wp2_with (at_builtin; refine wp_append rfl (.tmp 48) (.tmp 65) _ rfl elBool wo.heap.size AV (2 + k) cV _ rfl (Grow.alloc HG.out _).own _ 1 1 [.bool false] rfl (src_new _ _ _ rfl) (by omega) (sz_alloc hgs) ?_; intro A' c' w1 ho hk' hb')
                go_roundw
                case rel => exact ⟨k + 1, A', c', by omega, by go_num, rfl, Lib.hid (GrowB.push (Grow.alloc HG.out _) ho hk' (fun _ _ => rfl) HNX.out)⟩
                case measure => simp [intOf]; omega
            · obtain rfl : k = ins := by omega
              obtain ⟨w4, hw4⟩ : ∃ x, x = wr := ⟨_, rfl⟩
              subst hw4
              have hsb := (bits_of_rowT HST.out).keeps (Grow.keeps HG.out)
              have hsrc := src_row1 hsb (fun _ _ => rfl)
              go_wp2_with (at_builtin; refine wp_append rfl (.tmp 67) (.tmp 68) _ rfl elBool wo.heap.size AV (2 + k) cV _ rfl HG.out.own _ c.nr cS _ rfl hsrc (by omega) hgs ?_; intro A' c' w5 ho hk' hb')
              have HG5 := Lib.hid (GrowB.app (V' := (c.sig ((inpAt len T) t) (c.stt (inpAt len T) t) 0)) HG.out ho hk' (fun _ _ => rfl) (fun j hj => by
                show (if 2 + k + j = 0 then false else if 2 + k + j = 1 then true else if 2 + k + j < 2 + (c.sh 0).toNat then inpAt len T t (2 + k + j - 2) else c.stt (inpAt len T) t (2 + k + j - 2 - (c.sh 0).toNat)) = _
                rw [HI2.out, if_neg (by omega), if_neg (by omega), if_neg (by omega), show 2 + k + j - 2 - k = j by omega]))
              clear ho hk' hb' hsrc hsb HG hbvr q0
              go_wp2_with fail
              have hn0 : 2 + k + c.nr = c.nsig 0 := by show _ = 2 + (c.sh 0).toNat + c.nr; rw [HI2.out]
              have HV0 : Hid (RowT (fun b => wo.heap.size ≤ b) w5 4 1 A' (c.nsig 0) (fun j _ => .bool ((c.sig ((inpAt len T) t) (c.stt (inpAt len T) t) 0) j))) := Lib.hid (by rw [← hn0]; exact rowT_of_bits HG5.out.own)
              rw [hn0]
              have HB5 := Lib.hid HG5.out.bel
              have HNS := Lib.hid (fun i (hi : i ≤ c.nc) => Cf.nsig_src HOK.out hi)
              clear HG5 hn0
              go_loopw [9, 11] (fun vv vi wr => ∃ (i : Nat) (A : Option Addr) (cV : Nat), i ≤ c.nc ∧ vi = .int .i64 i ∧ vv = .slice A (c.nsig i) cV ∧ Hid (RowT (fun b => wo.heap.size ≤ b) wr 4 1 A (c.nsig i) (fun j _ => .bool ((c.sig ((inpAt len T) t) (c.stt (inpAt len T) t) i) j))) ∧ Hid (Below wo.heap.size wo wr)) (fun _ vi _ => c.nc - (intOf vi).toNat)
              case atStart => exact ⟨0, A', c', by omega, rfl, rfl, HV0, HB5⟩
              case round =>
                clear HV0 HB5
                obtain ⟨i, AV, cV, hi, rfl, rfl, HV, HBo⟩ := hrel
                obtain ⟨wc, hwc⟩ : ∃ x, x = wr := ⟨_, rfl⟩
                subst hwc
                have hzc := HBo.out.size
                have hbvc : Below v.heap.size v wc := HB.out.trans (HBo.out.mono HB.out.size)
                have HBC := Lib.hid hbvc
                have q5 := (HBX.out.keeps (Keeps.of_below hbvc)) 5 _ rfl
                clear hbvc
                by_cases hli : i < c.nc
                · obtain ⟨N, hN⟩ : ∃ N, N = c.nsig i := ⟨_, rfl⟩
                  have hg0 := GrowB.two wc (c.sig ((inpAt len T) t) (c.stt (inpAt len T) t) (i + 1)) rfl rfl
                  have hR5 := HR5.out i hli
                  go_wp2_with fail
                  generalize wc.alloc (.cells #[.bool false, .bool true] 4) = w6 at *
                  have HG0 := Lib.hid hg0
                  clear hg0 q5
                  go_loopw [12, 13] (fun vv vk wr => ∃ (k : Nat) (A : Option Addr) (cN : Nat), k ≤ c.rows i ∧ vk = .int .i64 k ∧ vv = .slice A (2 + k) cN ∧ Hid (GrowB wc A (2 + k) cN (c.sig ((inpAt len T) t) (c.stt (inpAt len T) t) (i + 1)) wr)) (fun _ vk _ => c.rows i - (intOf vk).toNat)
                  case atStart => exact ⟨0, _, _, by omega, rfl, rfl, HG0⟩
                  case round =>
                    clear HG0
                    obtain ⟨k, AN, cN, hk, rfl, rfl, HG⟩ := hrel
                    have hbvr : Below v.heap.size v wr := HBC.out.trans (HG.out.bel.mono HBC.out.size)
                    have q5 := (HBX.out.keeps (Keeps.of_below hbvr)) 5 _ rfl
                    have hgs := HG.out.size
                    have hkw : Keeps w wr := Keeps.of_below (HBV.out.trans (hbvr.mono (by omega)))
                    obtain ⟨ba, oa, A2, rfl, hA2, x0⟩ := (HC.out.keeps hkw).col EC.out hli
                    by_cases hlk : k < c.rows i
                    · -- QB cell
                      obtain ⟨bc, oc, rfl, y0, y1, y2, y3, y4⟩ := (HC.out.keeps hkw).cell hli hlk hA2
                      have hLb : ∀ j, j < 4 → 0 ≤ c.L i k j ∧ c.L i k j < (c.nsig i : Int) := fun j hj => by rw [HNS.out i (by omega)]; exact HOK.out.l i hli k hlk j hj
                      have hB0 : 0 ≤ c.B i k := (HOK.out.b i hli k hlk).1
                      obtain ⟨l0, hl0⟩ : ∃ m : Nat, c.L i k 0 = (m : Int) := ⟨(c.L i k 0).toNat, by have := hLb 0 (by omega); omega⟩
                      obtain ⟨l1, hl1⟩ : ∃ m : Nat, c.L i k 1 = (m : Int) := ⟨(c.L i k 1).toNat, by have := hLb 1 (by omega); omega⟩
                      obtain ⟨l2, hl2⟩ : ∃ m : Nat, c.L i k 2 = (m : Int) := ⟨(c.L i k 2).toNat, by have := hLb 2 (by omega); omega⟩
                      obtain ⟨l3, hl3⟩ : ∃ m : Nat, c.L i k 3 = (m : Int) := ⟨(c.L i k 3).toNat, by have := hLb 3 (by omega); omega⟩
                      have hm0 : l0 < c.nsig i := by have := hLb 0 (by omega); omega
                      have hm1 : l1 < c.nsig i := by have := hLb 1 (by omega); omega
                      have hm2 : l2 < c.nsig i := by have := hLb 2 (by omega); omega
                      have hm3 : l3 < c.nsig i := by have := hLb 3 (by omega); omega
                      have HSG : Hid (bitAt (c.B i k) (rowB (fun j => (c.sig ((inpAt len T) t) (c.stt (inpAt len T) t) i) (if j = 0 then l0 else if j = 1 then l1 else if j = 2 then l2 else l3)) 4) = (c.sig ((inpAt len T) t) (c.stt (inpAt len T) t) (i + 1)) (2 + k)) := Lib.hid (by
                        show _ = (if 2 + k = 0 then false else if 2 + k = 1 then true else bitAt (c.B i (2 + k - 2)) (rowB (fun j => (c.sig ((inpAt len T) t) (c.stt (inpAt len T) t) i) (c.L i (2 + k - 2) j).toNat) 4))
                        rw [if_neg (by omega), if_neg (by omega), show 2 + k - 2 = k by omega]
                        simp only [rowB, hl0, hl1, hl2, hl3, Int.toNat_natCast]
                        rfl)
                      rw [hl0] at y0; rw [hl1] at y1; rw [hl2] at y2; rw [hl3] at y3
                      have HHB := Lib.hid hB0
                      clear hLb hl0 hl1 hl2 hl3 hB0 hA2
                      obtain ⟨bV, oV, cur, rfl, hbV, hhV, hcV⟩ := HV.out (by omega)
                      have hvv : ∀ m, m < c.nsig i → wc.cell? ⟨bV, oV + m, none⟩ = some (.bool ((c.sig ((inpAt len T) t) (c.stt (inpAt len T) t) i) m)) := fun m hm => by
                        rw [cell_of_row wc bV _ cur _ _ hhV]
                        have := hcV m hm 0 (by omega)
                        rwa [Nat.mul_one, Nat.add_zero] at this
                      have hVlt : bV < wc.heap.size := (Array.getElem?_eq_some_iff.1 hhV).1
                      have hNb := fun b => own_base HG.out.own b
                      have hNl := fun b => own_lt HG.out.own b
                      have hnV : ¬ blockOf AN bV := fun h => by have := hNb _ h; omega
                      have hnX : ¬ blockOf AN wr.heap.size := fun h => by have := hNl _ h; omega
                      have hkg := Grow.keeps HG.out
                      have v0 := hkg _ _ (hvv l0 hm0); have v1 := hkg _ _ (hvv l1 hm1); have v2 := hkg _ _ (hvv l2 hm2); have v3 := hkg _ _ (hvv l3 hm3)
                      clear hvv hcV hhV hkg hNb hNl hbV
                      go_upto_region 24 with (fail)
                      have hx := BoxAt.new wr [.int .i64 l0, .int .i64 l1, .int .i64 l2, .int .i64 l3, .int .i64 (c.B i k)] 74
                      have hbl : Below wr.heap.size wr (wr.alloc (.cells #[.int .i64 l0, .int .i64 l1, .int .i64 l2, .int .i64 l3, .int .i64 (c.B i k)] 74)) := (Below.refl _ _).alloc (Nat.le_refl _) _
                      clear y0 y1 y2 y3 y4 q5 x0
                      generalize wr.alloc (.cells #[.int .i64 l0, .int .i64 l1, .int .i64 l2, .int .i64 l3, .int .i64 (c.B i k)] 74) = wx at *
                      have z0 := hx 0 _ rfl; have z1 := hx 1 _ rfl; have z2 := hx 2 _ rfl; have z3 := hx 3 _ rfl; have z4 := hx 4 _ rfl
                      have kx := Keeps.of_below hbl
                      replace v0 := kx _ _ v0; replace v1 := kx _ _ v1; replace v2 := kx _ _ v2; replace v3 := kx _ _ v3
                      have HGX : Hid (GrowB wc AN (2 + k) cN (c.sig ((inpAt len T) t) (c.stt (inpAt len T) t) (i + 1)) wx) := Lib.hid (Grow.call HG.out hbl)
                      generalize (c.sig ((inpAt len T) t) (c.stt (inpAt len T) t) i) = V at *
                      clear hx hbl kx HG hbvr hkw hgs
                      have hS0 : Only (blockOf AN) wx wx.drew := (Only.refl _ _).drew
                      refine wp_region_z (fun w' => Only (blockOf AN) wx w') [0, 1, 2, 3, 4, 5, 6, 7, 8, 9, 10, 11, 12, 13, 14, 15, 16, 17, 18, 19, 20, 21, 22, 23, 24, 25, 26] [] (by kernel_rfl) (by kernel_rfl) (by kernel_rfl) (by rfl) (fun _ _ _ _ e h => ⟨e.symm.trans h.1, h.2⟩) hS0 ?_
                      iterate 27
                        refine Heads.step (v := ?_) rfl (by first | (go_simp; done) | rfl) (fun W hW => ?_) ?_
                        rotate_left
                        · (have t0 := hW.cell z0 hnX; have t1 := hW.cell z1 hnX; have t2 := hW.cell z2 hnX; have t3 := hW.cell z3 hnX; have t4 := hW.cell z4 hnX; have t5 := hW.cell v0 hnV; have t6 := hW.cell v1 hnV; have t7 := hW.cell v2 hnV; have t8 := hW.cell v3 hnV; go_simp; try with_reducible rfl)
                      refine AnyZ.one (i := 27) (by kernel_rfl) rfl (fun K hK => ?_)
                      go_simp
                      have hb1 : Below wx.heap.size wx (wx.alloc (.cells #[.bool (V l0), .bool (V l1), .bool (V l2), .bool (V l3)] 4)).drew := ((Below.refl _ _).alloc (Nat.le_refl _) _).drew
                      have hbit : Bits (wx.alloc (.cells #[.bool (V l0), .bool (V l1), .bool (V l2), .bool (V l3)] 4)).drew (some ⟨wx.heap.size, 0, none⟩) 4 (fun j => V (if j = 0 then l0 else if j = 1 then l1 else if j = 2 then l2 else l3)) := fun _ => ⟨_, _, rfl, fun j hj => by
                        show (wx.alloc (.cells #[.bool (V l0), .bool (V l1), .bool (V l2), .bool (V l3)] 4)).cell? _ = _
                        rw [cell_of_row _ wx.heap.size _ _ _ _ (heap_alloc_new wx (.cells #[.bool (V l0), .bool (V l1), .bool (V l2), .bool (V l3)] 4))]
                        obtain rfl | rfl | rfl | rfl : j = 0 ∨ j = 1 ∨ j = 2 ∨ j = 3 := by omega
                        all_goals rfl⟩
                      have HBIT := Lib.hid hbit
                      have HB1 := Lib.hid hb1
                      clear hbit hb1
                      generalize (wx.alloc (.cells #[.bool (V l0), .bool (V l1), .bool (V l2), .bool (V l3)] 4)).drew = wy at *
                      refine hK _ _ (fun _ => (Only.refl _ _).call HB1.out) ?_
                      clear hK
                      refine AnyZ.one (i := 28) (by kernel_rfl) rfl (fun K hK => ?_)
                      go_simp
                      refine (told_any (c.B i k) (some ⟨wx.heap.size, 0, none⟩) 4 4 _ wy HBIT.out (by omega) HHB.out).mono ?_
                      rintro e wy2 ⟨rfl, ey⟩
                      subst ey
                      rw [HSG.out]
                      refine hK _ _ (fun _ => (Only.refl _ _).call HB1.out) ?_
                      clear hK
                      obtain ⟨β, hβ⟩ : ∃ β, β = (c.sig ((inpAt len T) t) (c.stt (inpAt len T) t) (i + 1)) (2 + k) := ⟨_, rfl⟩
                      rw [← hβ]
                      have HBT := Lib.hid hβ.symm
                      clear hβ
                      refine AnyZ.one (i := 29) (by kernel_rfl) rfl (fun K hK => ?_)
                      go_simp
                      have hb2 : Below wx.heap.size wx (wy.alloc (.cells #[.bool β] 4)) := HB1.out.alloc HB1.out.size _
                      have hgz := own_below HGX.out.own hb2
                      obtain ⟨_, _, hsc⟩ := src_new wy (.bool β) 4 rfl
                      obtain ⟨ad, hae, hsc⟩ := hsc (by omega)
                      injection hae with hae; subst hae
                      have HB2 := Lib.hid hb2
                      generalize wy.alloc (.cells #[.bool β] 4) = wz at *
                      refine hK _ _ (fun _ => (Only.refl _ _).call HB2.out) ?_
                      clear hK
                      obtain ⟨A', c', wq, hap, hown, hon⟩ := run_append_s elBool 22 hgz ⟨wy.heap.size, 0, none⟩ 1 [.bool β] rfl hsc (by intro u hu; simp at hu; subst hu; rfl) (by omega) (Nat.le_trans HGX.out.size HB2.out.size)
                      have HGQ : Hid (GrowB wc A' (2 + k + 1) c' (c.sig ((inpAt len T) t) (c.stt (inpAt len T) t) (i + 1)) wq) := Lib.hid (GrowB.push (Grow.call HGX.out HB2.out) hown hon (fun _ _ => rfl) HBT.out)
                      have hOQ : Only (blockOf AN) wx wq := ((Only.refl _ _).call HB2.out).then_ hon (fun _ _ h => h)
                      clear hown hon hgz hsc hb2
                      refine AnyZ.one (i := 30) (by kernel_rfl) rfl (fun K hK => ?_)
                      rw [if_pos (by rfl)]
                      refine wpZ_append1 (.tmp 96) (.tmp 125) 22 rfl rfl rfl hap ?_
                      go_simp
                      refine hK _ _ (fun _ => hOQ) ?_
                      clear hK hap
                      have hS0 := hOQ
                      refine AnyZ.mid [31] [] 0 rfl (by kernel_rfl) (by kernel_rfl) (by kernel_rfl) (fun _ _ _ _ e h => ⟨e.symm.trans h.1, h.2⟩) hS0 ?_
                      iterate 1
                        refine Heads.step (v := ?_) rfl (by first | (go_simp; done) | rfl) (fun W hW => ?_) ?_
                        rotate_left
                        · (have t0 := hW; go_simp; try with_reducible rfl)
                      refine AnyZ.done (by kernel_rfl) ?_
                      go_simp
                      clear z0 z1 z2 z3 z4 v0 v1 v2 v3 hOQ
                      go_wp2_with fail
                      go_roundw
                      case rel => exact ⟨k + 1, A', c', by omega, by go_num, rfl, HGQ⟩
                      case measure => simp [intOf]; omega
                      -- QE cell
                    · obtain rfl : k = c.rows i := by omega
                      go_wp2_with fail
                      go_roundw
                      case rel => exact ⟨i + 1, AN, cN, by omega, by go_num, rfl, Lib.hid ((rowT_of_bits HG.out.own).mono (fun b _ hb => by omega)), Lib.hid (HBo.out.trans (HG.out.bel.mono HBo.out.size))⟩
                      case measure => simp [intOf]; omega
                · obtain rfl : i = c.nc := by omega
                  go_wp2_with fail
                  go_loopw [15, 16] (fun vo vk wr => ∃ (k : Nat) (A : Option Addr) (cO : Nat), k ≤ c.no ∧ vk = .int .i64 k ∧ vo = .slice A k cO ∧ Hid (GrowB wc A k cO (c.sho (inpAt len T) t) wr)) (fun _ vk _ => c.no - (intOf vk).toNat)
                  case atStart => exact ⟨0, _, _, by omega, rfl, rfl, Lib.hid (GrowB.start _ _)⟩
                  case round =>
                    obtain ⟨k, AO', cO', hk, rfl, rfl, HG⟩ := hrel
                    have hbvr : Below v.heap.size v wr := HBC.out.trans (HG.out.bel.mono HBC.out.size)
                    have q7 := (HBX.out.keeps (Keeps.of_below hbvr)) 7 _ rfl
                    have hgs := HG.out.size
                    by_cases hlk : k < c.no
                    · have hkw : Keeps w wr := Keeps.of_below (HBV.out.trans (hbvr.mono (by omega)))
                      obtain ⟨bo, oo, rfl, x0⟩ := (HC.out.keeps hkw).out EO.out hlk
                      obtain ⟨m, hm⟩ : ∃ m : Nat, c.O k = (m : Int) := ⟨(c.O k).toNat, by have := (HOK.out.o k hlk).1; omega⟩
                      have hmb : m < c.nsig c.nc := by have h1 := (HOK.out.o k hlk).2; rw [Cf.src_end HOK.out, hm] at h1; omega
                      rw [hm] at x0
                      have HSO : Hid (c.sho (inpAt len T) t k = (c.sig ((inpAt len T) t) (c.stt (inpAt len T) t) c.nc) m) := Lib.hid (by unfold Cf.sho; rw [hm]; rfl)
                      clear hm
                      obtain ⟨bV, oV, rfl, y0⟩ := ((bits_of_rowT HV.out).keeps (Grow.keeps HG.out)).at_ hmb
                      go_wp2_with (at_builtin; refine wp_append rfl (.tmp 135) (.tmp 144) _ rfl elBool wc.heap.size AO' k cO' _ rfl (Grow.alloc HG.out _).own _ 1 1 [.bool ((c.sig ((inpAt len T) t) (c.stt (inpAt len T) t) c.nc) m)] rfl (src_new _ _ _ rfl) (by omega) (sz_alloc hgs) ?_; intro A' c' w1 ho hk' hb')
                      go_roundw
                      case rel => exact ⟨k + 1, A', c', by omega, by go_num, rfl, Lib.hid (GrowB.push (Grow.alloc HG.out _) ho hk' (fun _ _ => rfl) HSO.out)⟩
                      case measure => simp [intOf]; omega
                    · obtain rfl : k = c.no := by omega
                      obtain ⟨w7, hw7⟩ : ∃ x, x = wr := ⟨_, rfl⟩
                      subst hw7
                      have hbo7 : Below wo.heap.size wo w7 := HBo.out.trans (HG.out.bel.mono hzc)
                      have hM7 := HM.out.below hbo7
                      have hM8 := hM7.alloc (.cells #[.slice AO' c.no cO'] 22)
                      have hz7 : w2.heap.size ≤ w7.heap.size := by have := hbo7.size; omega
                      have hrw := ((rowT_of_bits HG.out.own).mono (p' := fun b => w2.heap.size ≤ b) (fun b _ hb => by omega)).below ((Below.refl _ w7).alloc (Nat.le_refl _) (.cells #[.slice AO' c.no cO'] 22))
                      have HM7 := Lib.hid hM8; have HRW := Lib.hid hrw
                      have HV7 := Lib.hid (HV.out.below (HG.out.bel))
                      have HS7 := Lib.hid (HST.out.below hbo7)
                      have HB7 := Lib.hid hbvr
                      clear hM7 hM8 hrw HV HM HG HBC hbvr HBo q5
                      go_wp2_with (at_builtin; refine wp_append rfl (.tmp 146) (.tmp 148) _ rfl elBoolRow w2.heap.size AA t cA _ rfl HM7.out.own _ 1 1 [.slice AO' c.no cO'] rfl (src_new _ _ _ rfl) (by omega) (sz_alloc hz7) ?_; intro A' c' w8 ho hk' hb')
                      have HM8 := Lib.hid (HM7.out.push ho hk' HRW.out)
                      have hba := fun b => own_base HM7.out.own b
                      have hbl7 : Below w7.heap.size w7 (w7.alloc (.cells #[.slice AO' c.no cO'] 22)) := (Below.refl _ _).alloc (Nat.le_refl _) _
                      have HS8 := Lib.hid ((HS7.out.below hbl7).only hk' (fun b _ hb _ h => by have := hba b h; omega))
                      have HV8 := Lib.hid ((HV7.out.below hbl7).only hk' (fun b cur _ hc h => own_type (e' := 4) HM7.out.own (by decide) b cur hc h))
                      have HB8 := Lib.hid ((HB7.out.trans (hbl7.mono HB7.out.size)).trans (hk'.below (B := v.heap.size) (fun b _ h => by have := hba b h; omega) (by simp; omega)))
                      have hz8 : w2.heap.size ≤ w8.heap.size := by have := hk'.size; simp at this; omega
                      clear ho hk' hb' hba hbl7 HM7 HRW HV7 HS7 HB7
                      go_wp2_with fail
                      go_loopw [17] (fun vk wr => ∃ k : Nat, k ≤ c.nr ∧ vk = .int .i64 k ∧ Hid (RowT (fun b => v.heap.size ≤ b ∧ b < w2.heap.size) wr 4 1 AS c.nr (fun j _ => .bool (if j < k then c.stt (inpAt len T) (t + 1) j else c.stt (inpAt len T) t j))) ∧ Hid (Only (fun b => v.heap.size ≤ b ∧ b < w2.heap.size) w8 wr)) (fun vk _ => c.nr - (intOf vk).toNat)
                      case atStart => exact ⟨0, by omega, rfl, by simpa using HS8, Lib.hid (Only.refl _ _)⟩
                      case round =>
                        obtain ⟨k, hk, rfl, HS, HO⟩ := hrel
                        have hbvr : Below v.heap.size v wr := HB8.out.trans (HO.out.below (B := v.heap.size) (fun b _ h => h.1) HB8.out.size)
                        have q6 := (HBX.out.keeps (Keeps.of_below hbvr)) 6 _ rfl
                        by_cases hlk : k < c.nr
                        · have hkw : Keeps w wr := Keeps.of_below (HBV.out.trans (hbvr.mono (by omega)))
                          obtain ⟨bR, oR, rfl, x0, _⟩ := (HC.out.keeps hkw).reg ER.out hlk
                          obtain ⟨m, hm⟩ : ∃ m : Nat, c.RS k = (m : Int) := ⟨(c.RS k).toNat, by have := (HOK.out.r k hlk).1; omega⟩
                          have hmb : m < c.nsig c.nc := by have h1 := (HOK.out.r k hlk).2; rw [Cf.src_end HOK.out, hm] at h1; omega
                          rw [hm] at x0
                          have HSO : Hid (c.stt (inpAt len T) (t + 1) k = (c.sig ((inpAt len T) t) (c.stt (inpAt len T) t) c.nc) m) := Lib.hid (by show c.sig _ _ _ (c.RS k).toNat = _; rw [hm]; rfl)
                          clear hm
                          have hVr := HV8.out.only HO.out (fun b cur h1 _ h2 => by omega)
                          obtain ⟨bV, oV, rfl, y0⟩ := (bits_of_rowT hVr).at_ hmb
                          obtain ⟨bs, os, cur, rfl, hbs, hhs, hcs⟩ := HS.out (by omega)
                          have u0 : wr.cell? ⟨bs, os + k, none⟩ = some (.bool (c.stt (inpAt len T) t k)) := by
                            rw [cell_of_row wr bs _ cur _ _ hhs]
                            have := hcs k hlk 0 (by omega)
                            rw [Nat.mul_one, Nat.add_zero] at this
                            simpa using this
                          have u1 : wr.frozen? ⟨bs, os + k, none⟩ = false := by simp [World.frozen?, hhs]
                          have HBS := Lib.hid hbs
                          clear hcs hhs hbs hVr
                          go_wp2_with fail
                          have hset := RowT.set (f' := fun j _ => .bool (if j < k + 1 then c.stt (inpAt len T) (t + 1) j else c.stt (inpAt len T) t j)) (k := k) (v := .bool ((c.sig ((inpAt len T) t) (c.stt (inpAt len T) t) c.nc) m)) HS.out (fun j hj hne => by
                            by_cases h : j < k
                            · simp only [if_pos h, if_pos (show j < k + 1 by omega)]
                            · simp only [if_neg h, if_neg (show ¬ j < k + 1 by omega)]) (by simp only [if_pos (show k < k + 1 by omega)]; rw [HSO.out])
                          have hos := HO.out.setCell (p := ⟨bs, os + k, none⟩) (fun _ => HBS.out) (.bool ((c.sig ((inpAt len T) t) (c.stt (inpAt len T) t) c.nc) m))
                          have HSN := Lib.hid hset; have HON := Lib.hid hos
                          clear hset hos u0 u1 x0 y0
                          go_roundw
                          case rel => exact ⟨k + 1, by omega, by go_num, HSN, HON⟩
                          case measure => simp [intOf]; omega
                        · obtain rfl : k = c.nr := by omega
                          go_wp2_with fail
                          go_roundw
                          case rel => exact ⟨t + 1, A', c', _, _, by omega, by go_num, rfl, Lib.hid (HM8.out.only HO.out (fun b hb h => by omega)), Lib.hid (fun h0 => by
                            obtain ⟨b, o, cur, e, hp, hh, hcc⟩ := HS.out h0
                            exact ⟨b, o, cur, e, hp, hh, fun j hj i hi => by rw [hcc j hj i hi]; simp only [if_pos hj]⟩), Lib.hid hbvr, by have := HO.out.size; omega⟩
                          case measure => simp [intOf]; omega
        · obtain rfl : t = n := by omega
          go_wp2_with fail
          go_ret
          exact ⟨⟨AA, cA, rfl, HM.out.mat⟩, HBV.out.trans (HB.out.mono (by omega))⟩
end Go.Proofs.YtlmcbhmaccncbaaDoor
