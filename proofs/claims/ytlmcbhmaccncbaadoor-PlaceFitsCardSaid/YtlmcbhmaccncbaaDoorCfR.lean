/- The reference's ConfigValid, walked. Condition: the configuration lies in memory, its lists are within reach. -/
import Derived.Test.YtlmcbhmaccncbaaDoorCfV
import Derived.Deep.DeepCutAuto
import Derived.Test.YtlmcbhmaccncbaaDoorDrawn2
import Derived.IntWalk
namespace Go.Proofs.YtlmcbhmaccncbaaDoor
open Go.RowKit

def Cf.selP (c : Cf) (i k j : Nat) : Prop := ∀ m, m < j → 0 ≤ c.L i k m ∧ c.L i k m < c.src i
def Cf.bitP (c : Cf) (i k : Nat) : Prop := 0 ≤ c.B i k ∧ c.B i k < 65536
def Cf.colP (c : Cf) (i k : Nat) : Prop := ∀ m, m < k → c.bitP i m ∧ c.selP i m 4
def Cf.allC (c : Cf) (i : Nat) : Prop := ∀ m, m < i → c.colP m (c.rows m)
def Cf.regP (c : Cf) (k : Nat) : Prop := ∀ m, m < k → 0 ≤ c.RS m ∧ c.RS m < c.src 1
def Cf.outP (c : Cf) (k : Nat) : Prop := ∀ m, m < k → 0 ≤ c.O m ∧ c.O m < c.src 1
theorem Cf.ok_iff {c : Cf} (d : c.Dims) : c.Ok ↔ (c.allC c.nc ∧ c.regP c.nr) ∧ c.outP c.no :=
  ⟨fun h => ⟨⟨fun i hi k hk => ⟨h.b i hi k hk, h.l i hi k hk⟩, h.r⟩, h.o⟩, fun h => ⟨d, fun i hi k hk => (h.1.1 i hi k hk).1, fun i hi k hk => (h.1.1 i hi k hk).2, h.1.2, h.2⟩⟩
theorem all_next {p : Nat → Prop} {n : Nat} (q : Prop) : (q ∧ ∀ m, m < n + 1 → p m) ↔ (q ∧ ∀ m, m < n → p m) ∧ p n :=
  ⟨fun h => ⟨⟨h.1, fun m hm => h.2 m (by omega)⟩, h.2 n (by omega)⟩, fun h => ⟨h.1.1, fun m hm => if e : m = n then e ▸ h.2 else h.1.2 m (by omega)⟩⟩
/-- one more test on a bool that is told by a condition -/
theorem tf_and {p q : Prop} {b : Bool} (hb : b = tf p) (hq : q) : b = tf (p ∧ q) := by rw [hb]; exact tf_congr ⟨fun h => ⟨h, hq⟩, fun h => h.1⟩
theorem tf_nand {p q : Prop} (hq : ¬ q) : false = tf (p ∧ q) := (tf_no (fun h => hq h.2)).symm
theorem tf_fand {p q : Prop} (hb : false = tf p) : false = tf (p ∧ q) := (tf_no (fun h => (tf_eq_false.1 hb.symm) h.1)).symm

/-- column i, ready for the walk -/
theorem Cf.At.col {c : Cf} {w : World} (h : c.At w) {AC : Option Addr} (e : c.AC = AC) {i : Nat} (hi : i < c.nc) : ∃ ba oa A', AC = some ⟨ba, oa, none⟩ ∧ c.CA i = A' ∧ w.cell? ⟨ba, oa + i, none⟩ = some (.slice A' (c.rows i) (c.cc i)) := by
  obtain ⟨ba, oa, h1, h2⟩ := h.cols.at_ hi
  exact ⟨ba, oa, c.CA i, e.symm.trans h1, rfl, h2⟩
/-- cell k of column i -/
theorem Cf.At.cell {c : Cf} {w : World} (h : c.At w) {i k : Nat} (hi : i < c.nc) (hk : k < c.rows i) {A' : Option Addr} (e : c.CA i = A') : ∃ b off, A' = some ⟨b, off, none⟩ ∧
    w.cell? ⟨b, off + k * 5, none⟩ = some (.int .i64 (c.L i k 0)) ∧ w.cell? ⟨b, off + k * 5 + 1, none⟩ = some (.int .i64 (c.L i k 1)) ∧ w.cell? ⟨b, off + k * 5 + 2, none⟩ = some (.int .i64 (c.L i k 2)) ∧ w.cell? ⟨b, off + k * 5 + 3, none⟩ = some (.int .i64 (c.L i k 3)) ∧ w.cell? ⟨b, off + k * 5 + 4, none⟩ = some (.int .i64 (c.B i k)) := by
  obtain ⟨b, off, h1, h2⟩ := h.cells i hi (by omega)
  exact ⟨b, off, e.symm.trans h1, h2 k hk 0 (by omega), h2 k hk 1 (by omega), h2 k hk 2 (by omega), h2 k hk 3 (by omega), h2 k hk 4 (by omega)⟩
theorem Cf.At.reg {c : Cf} {w : World} (h : c.At w) {AR : Option Addr} (e : c.AR = AR) {k : Nat} (hk : k < c.nr) : ∃ b off, AR = some ⟨b, off, none⟩ ∧ w.cell? ⟨b, off + k * 2, none⟩ = some (.int .i64 (c.RS k)) ∧ w.cell? ⟨b, off + k * 2 + 1, none⟩ = some (.bool (c.RI k)) := by
  obtain ⟨b, off, h1, h2, h3⟩ := h.regs.at2 hk
  exact ⟨b, off, e.symm.trans h1, h2, h3⟩
theorem Cf.At.out {c : Cf} {w : World} (h : c.At w) {AO : Option Addr} (e : c.AO = AO) {k : Nat} (hk : k < c.no) : ∃ b off, AO = some ⟨b, off, none⟩ ∧ w.cell? ⟨b, off + k, none⟩ = some (.int .i64 (c.O k)) := by
  obtain ⟨b, off, h1, h2⟩ := h.outs.at_ hk
  exact ⟨b, off, e.symm.trans h1, h2⟩

theorem refSources_src (c : Cf) (i : Nat) (w : World) (h : ShOk c.sh) :
    Calls Tryd.prog 24 #[.agg #[.int .i64 (c.sh 0), .int .i64 (c.sh 1), .int .i64 (c.sh 2), .int .i64 (c.sh 3), .int .i64 (c.sh 4)], .int .i64 i] w fun e w' => e = .returned (.int .i64 (c.src i)) ∧ Below w.heap.size w w' :=
  (refSources_any c.sh i w h).mono fun e w' ⟨he, hb⟩ => ⟨he.trans (ret_int (by simp [Cf.src])), hb⟩
theorem refSources_neg (c : Cf) (w : World) (h : ShOk c.sh) :
    Calls Tryd.prog 24 #[.agg #[.int .i64 (c.sh 0), .int .i64 (c.sh 1), .int .i64 (c.sh 2), .int .i64 (c.sh 3), .int .i64 (c.sh 4)], .int .i64 (-1)] w fun e w' => e = .returned (.int .i64 (c.src 1)) ∧ Below w.heap.size w w' :=
  (refSources_any c.sh (-1) w h).mono fun e w' ⟨he, hb⟩ => ⟨he.trans (ret_int (by simp [Cf.src])), hb⟩
theorem cell_get (L : Nat → Int) (B : Int) {j : Nat} (h : j < 4) : [Value.int .i64 (L 0), .int .i64 (L 1), .int .i64 (L 2), .int .i64 (L 3), .int .i64 B][j]? = some (.int .i64 (L j)) := by
  obtain rfl | rfl | rfl | rfl : j = 0 ∨ j = 1 ∨ j = 2 ∨ j = 3 := by omega
  all_goals rfl
/-- one more of a list -/
theorem tf_more {q : Prop} {p : Nat → Prop} {n : Nat} {b b' : Bool} (hb : b = tf (q ∧ ∀ m, m < n → p m)) (h : b' = (b && tf (p n))) : b' = tf (q ∧ ∀ m, m < n + 1 → p m) := by
  rw [h, hb, tf_congr (all_next q)]
  by_cases h1 : q ∧ ∀ m, m < n → p m
  · by_cases h2 : p n
    · rw [tf_yes (p := (q ∧ ∀ m, m < n → p m) ∧ p n) ⟨h1, h2⟩, tf_yes h1, tf_yes h2]; rfl
    · rw [tf_no (p := (q ∧ ∀ m, m < n → p m) ∧ p n) (fun h => h2 h.2), tf_no h2, Bool.and_false]
  · rw [tf_no (p := (q ∧ ∀ m, m < n → p m) ∧ p n) (fun h => h1 h.1), tf_no h1, Bool.false_and]
theorem tf_lt {a b : Int} (h : 0 ≤ a) : decide (a < b) = tf (0 ≤ a ∧ a < b) := by
  by_cases h' : a < b
  · rw [tf_yes ⟨h, h'⟩]; simpa using h'
  · rw [tf_no (fun k => h' k.2)]; simpa using h'

set_option maxHeartbeats 16000000 in
set_option maxRecDepth 100000 in
theorem refConfig_any (c : Cf) (AC AR AO : Option Addr) (w : World) (hc : c.At w) (hf : c.Fits) (eC : c.AC = AC) (eR : c.AR = AR) (eO : c.AO = AO) :
    Calls Tryd.prog 10 #[.agg #[.int .i64 (c.sh 0), .int .i64 (c.sh 1), .int .i64 (c.sh 2), .int .i64 (c.sh 3), .int .i64 (c.sh 4), .slice AC c.nc c.cC, .slice AR c.nr c.cR, .slice AO c.no c.cO]] w fun e w' => e = .returned (.bool (tf c.Ok)) ∧ Below w.heap.size w w' := by
  have HC := Lib.hid hc; have HFT := Lib.hid hf; have EC := Lib.hid eC; have ER := Lib.hid eR; have EO := Lib.hid eO
  clear eC eR eO
  have f1 := hf.b1; have f3 := hf.b3; have f4 := hf.b4
  have r0 := hf.s 0 (by omega); have r1 := hf.s 1 (by omega); have r2 := hf.s 2 (by omega); have r3 := hf.s 3 (by omega); have r4 := hf.s 4 (by omega)
  have HN := Lib.hid (fun h : ¬ c.Dims => tf_no (p := c.Ok) (fun k => h k.d))
  clear hc hf
  go_enter Tryd.func10, Tryd.ntmps10
  go_upto_region 2 with (fail)
  have hq := BoxAt.new w [.int .i64 (c.sh 0), .int .i64 (c.sh 1), .int .i64 (c.sh 2), .int .i64 (c.sh 3), .int .i64 (c.sh 4), .slice AC c.nc c.cC, .slice AR c.nr c.cR, .slice AO c.no c.cO] 36
  have hb0 := (Below.refl w.heap.size w).alloc (Nat.le_refl _) (.cells #[.int .i64 (c.sh 0), .int .i64 (c.sh 1), .int .i64 (c.sh 2), .int .i64 (c.sh 3), .int .i64 (c.sh 4), .slice AC c.nc c.cC, .slice AR c.nr c.cR, .slice AO c.no c.cO] 36)
  have hz0 : (w.alloc (.cells #[.int .i64 (c.sh 0), .int .i64 (c.sh 1), .int .i64 (c.sh 2), .int .i64 (c.sh 3), .int .i64 (c.sh 4), .slice AC c.nc c.cC, .slice AR c.nr c.cR, .slice AO c.no c.cO] 36)).heap.size = w.heap.size + 1 := by simp
  generalize w.alloc (.cells #[.int .i64 (c.sh 0), .int .i64 (c.sh 1), .int .i64 (c.sh 2), .int .i64 (c.sh 3), .int .i64 (c.sh 4), .slice AC c.nc c.cC, .slice AR c.nr c.cR, .slice AO c.no c.cO] 36) = v0 at *
  have hs := BoxAt.new v0 [.int .i64 (c.sh 0), .int .i64 (c.sh 1), .int .i64 (c.sh 2), .int .i64 (c.sh 3), .int .i64 (c.sh 4)] 28
  rw [hz0] at hs
  have hb1 := hb0.alloc (by omega) (.cells #[.int .i64 (c.sh 0), .int .i64 (c.sh 1), .int .i64 (c.sh 2), .int .i64 (c.sh 3), .int .i64 (c.sh 4)] 28)
  replace hq := hq.keeps (Keeps.alloc v0 (.cells #[.int .i64 (c.sh 0), .int .i64 (c.sh 1), .int .i64 (c.sh 2), .int .i64 (c.sh 3), .int .i64 (c.sh 4)] 28))
  have hz : w.heap.size + 1 < (v0.alloc (.cells #[.int .i64 (c.sh 0), .int .i64 (c.sh 1), .int .i64 (c.sh 2), .int .i64 (c.sh 3), .int .i64 (c.sh 4)] 28)).heap.size := by simp [hz0]
  generalize v0.alloc (.cells #[.int .i64 (c.sh 0), .int .i64 (c.sh 1), .int .i64 (c.sh 2), .int .i64 (c.sh 3), .int .i64 (c.sh 4)] 28) = v at *
  have HV := Lib.hid hb1
  have HQ := Lib.hid hq; have HS := Lib.hid hs
  clear hb0 hb1 hz0
  have s0 := hs 0 _ rfl; have s1 := hs 1 _ rfl; have s2 := hs 2 _ rfl; have s3 := hs 3 _ rfl; have s4 := hs 4 _ rfl
  go_wp2_with fail
  refine (refShape_any c.sh v).mono ?_
  rintro e w1 ⟨rfl, k1⟩
  have HB1 := Lib.hid k1
  replace hq := hq.keeps (Keeps.of_below k1)
  replace hs := hs.keeps (Keeps.of_below k1)
  clear k1 s0 s1 s2 s3 s4
  have s0 := hs 0 _ rfl; have s1 := hs 1 _ rfl; have s2 := hs 2 _ rfl; have s3 := hs 3 _ rfl; have s4 := hs 4 _ rfl
  have q5 := hq 5 _ rfl; have q6 := hq 6 _ rfl; have q7 := hq 7 _ rfl
  have HBW : Hid (Below w.heap.size w w1) := Lib.hid (HV.out.trans (HB1.out.mono (by omega)))
  by_cases hsh : ShOk c.sh
  case neg =>
    rw [tf_no hsh]
    have HE := Lib.hid (HN.out (fun d => hsh d.sh)); clear hsh
    go_wp2_with fail
    go_ret
    exact ⟨ret_bool HE.out.symm, HBW.out⟩
  rw [tf_yes hsh]
  have HSH := Lib.hid hsh
  have h0 := hsh.s0; have h1 := hsh.s1; have h2 := hsh.s2; have h3 := hsh.s3; have h4 := hsh.s4
  clear hsh r0 r1 r2 r3 r4
  by_cases hnc : (c.nc : Int) = c.sh 4
  case neg =>
    have HE := Lib.hid (HN.out (fun d => hnc d.nc))
    have hb : ((c.nc : Int) != c.sh 4) = true := by simpa using hnc
    clear hnc
    go_wp2_with fail
    go_ret
    exact ⟨ret_bool HE.out.symm, HBW.out⟩
  by_cases hnr : (c.nr : Int) = c.sh 2
  case neg =>
    have HE := Lib.hid (HN.out (fun d => hnr d.nr))
    have hb : ((c.nr : Int) != c.sh 2) = true := by simpa using hnr
    have hb1 : ((c.nc : Int) != c.sh 4) = false := by simpa using hnc
    clear hnr hnc
    go_wp2_with fail
    go_ret
    exact ⟨ret_bool HE.out.symm, HBW.out⟩
  by_cases hno : (c.no : Int) = c.sh 1
  case neg =>
    have HE := Lib.hid (HN.out (fun d => hno d.no))
    have hb : ((c.no : Int) != c.sh 1) = true := by simpa using hno
    have hb1 : ((c.nc : Int) != c.sh 4) = false := by simpa using hnc
    have hb2 : ((c.nr : Int) != c.sh 2) = false := by simpa using hnr
    clear hno hnc hnr
    go_wp2_with fail
    go_ret
    exact ⟨ret_bool HE.out.symm, HBW.out⟩
  have hb1 : ((c.nc : Int) != c.sh 4) = false := by simpa using hnc
  have hb2 : ((c.nr : Int) != c.sh 2) = false := by simpa using hnr
  have hb3 : ((c.no : Int) != c.sh 1) = false := by simpa using hno
  have n1 : c.nc ≤ 100 := by omega
  have n2 : c.nr ≤ 500 := by omega
  have n3 : c.no ≤ 500 := by omega
  have HNC := Lib.hid hnc; have HNR := Lib.hid hnr; have HNO := Lib.hid hno
  clear hnc hnr hno
  go_wp2_with fail
  clear hb1 hb2 hb3
  go_loopw [4, 5] (fun vb vi wr => ∃ (i : Nat) (b : Bool), i ≤ c.nc ∧ vi = .int .i64 i ∧ vb = .bool b ∧ Hid (b = tf (True ∧ c.allC i)) ∧ Hid (∀ m, m < i → (c.rows m : Int) = c.sh 3) ∧ Hid (Below v.heap.size v wr)) (fun _ vi _ => c.nc - (intOf vi).toNat)
  case atStart => exact ⟨0, true, by omega, rfl, rfl, Lib.hid (tf_yes ⟨trivial, fun m hm => by omega⟩).symm, Lib.hid (fun m hm => by omega), HB1⟩
  case round =>
    obtain ⟨i, b, hi, rfl, rfl, HB, HRW, HBL⟩ := hrel
    have hq := HQ.out.keeps (Keeps.of_below HBL.out)
    have hs := HS.out.keeps (Keeps.of_below HBL.out)
    have s3 := hs 3 _ rfl; have q5 := hq 5 _ rfl
    have HK : Hid (Below w.heap.size w wr) := Lib.hid (HV.out.trans (HBL.out.mono (by omega)))
    by_cases hlt : i < c.nc
    · obtain ⟨ba, oa, A', rfl, hA', x0⟩ := (HC.out.keeps (Keeps.of_below HK.out)).col EC.out hlt
      have HA' := Lib.hid hA'
      clear hA'
      by_cases hrw : (c.rows i : Int) = c.sh 3
      case neg =>
        have HE := Lib.hid (HN.out (fun d => hrw (d.rows i hlt)))
        have hb : ((c.rows i : Int) != c.sh 3) = true := by simpa using hrw
        clear hrw
        go_upto_region 8 with (fail)
        refine wp_region_z (fun w' => w'.cell? ⟨w.heap.size, 5, none⟩ = some (.slice (some ⟨ba, oa, none⟩) c.nc c.cC) ∧ w'.cell? ⟨ba, oa + i, none⟩ = some (.slice A' (c.rows i) (c.cc i)) ∧ w'.cell? ⟨w.heap.size + 1, 3, none⟩ = some (.int .i64 (c.sh 3))) [0, 1, 2, 3, 4, 5, 6, 7, 8] [] (by kernel_rfl) (by kernel_rfl) (by kernel_rfl) (by rfl) (fun _ _ _ _ e h => ⟨e.symm.trans h.1, h.2⟩) ⟨q5, x0, s3⟩ ?_
        iterate 9
          refine Heads.step (v := ?_) rfl (by first | (go_simp; done) | rfl) (fun W hW => ?_) ?_
          rotate_left
          · (obtain ⟨t0, t1, t2⟩ := hW; go_simp; try with_reducible rfl)
        refine AnyZ.done (by kernel_rfl) ?_
        go_simp
        have HBL2 : Hid (Below v.heap.size v wr.drew) := Lib.hid HBL.out.drew
        have HK2 : Hid (Below w.heap.size w wr.drew) := Lib.hid HK.out.drew
        clear q5 x0 s3 hq hs HBL HK
        go_wp2_with fail
        go_ret
        exact ⟨ret_bool HE.out.symm, HK2.out⟩
      have hb : ((c.rows i : Int) != c.sh 3) = false := by simpa using hrw
      have nr : c.rows i ≤ 500 := by omega
      have HRW2 : Hid (∀ m, m < i + 1 → (c.rows m : Int) = c.sh 3) := Lib.hid (fun m hm => if e : m = i then e ▸ hrw else HRW.out m (by omega))
      clear hrw
      go_upto_region 8 with (fail)
      refine wp_region_z (fun w' => w'.cell? ⟨w.heap.size, 5, none⟩ = some (.slice (some ⟨ba, oa, none⟩) c.nc c.cC) ∧ w'.cell? ⟨ba, oa + i, none⟩ = some (.slice A' (c.rows i) (c.cc i)) ∧ w'.cell? ⟨w.heap.size + 1, 3, none⟩ = some (.int .i64 (c.sh 3))) [0, 1, 2, 3, 4, 5, 6, 7, 8] [] (by kernel_rfl) (by kernel_rfl) (by kernel_rfl) (by rfl) (fun _ _ _ _ e h => ⟨e.symm.trans h.1, h.2⟩) ⟨q5, x0, s3⟩ ?_
      iterate 9
        refine Heads.step (v := ?_) rfl (by first | (go_simp; done) | rfl) (fun W hW => ?_) ?_
        rotate_left
        · (obtain ⟨t0, t1, t2⟩ := hW; go_simp; try with_reducible rfl)
      refine AnyZ.done (by kernel_rfl) ?_
      go_simp
      have HBL2 : Hid (Below v.heap.size v wr.drew) := Lib.hid HBL.out.drew
      have HK2 : Hid (Below w.heap.size w wr.drew) := Lib.hid HK.out.drew
      clear q5 x0 s3 hq hs HBL HK
      go_wp2_with fail
      clear hb
      go_loopw [4, 6] (fun vb vk wr => ∃ (k : Nat) (b : Bool), k ≤ c.rows i ∧ vk = .int .i64 k ∧ vb = .bool b ∧ Hid (b = tf ((True ∧ c.allC i) ∧ c.colP i k)) ∧ Hid (Below v.heap.size v wr)) (fun _ vk _ => c.rows i - (intOf vk).toNat)
      case atStart => exact ⟨0, b, by omega, rfl, rfl, Lib.hid (HB.out.trans (tf_congr ⟨fun h => ⟨h, fun m hm => by omega⟩, fun h => h.1⟩)), HBL2⟩
      case round =>
        obtain ⟨k, b2, hk, rfl, rfl, HB2, HBK⟩ := hrel
        obtain ⟨wk, hwk⟩ : ∃ wk, wk = wr := ⟨wr, rfl⟩
        subst hwk
        have HK3 : Hid (Below w.heap.size w wk) := Lib.hid (HV.out.trans (HBK.out.mono (by omega)))
        have hq := HQ.out.keeps (Keeps.of_below HBK.out)
        have q5 := hq 5 _ rfl
        obtain ⟨ba2, oa2, A2, e1, e2, x0⟩ := (HC.out.keeps (Keeps.of_below HK3.out)).col EC.out hlt
        obtain ⟨rfl, rfl⟩ : ba = ba2 ∧ oa = oa2 := by simpa using e1
        obtain rfl : A' = A2 := HA'.out.symm.trans e2
        clear e1 e2
        by_cases hlk : k < c.rows i
        · obtain ⟨b4, o4, hA4, y0, y1, y2, y3, y4⟩ := (HC.out.keeps (Keeps.of_below HK3.out)).cell hlt hlk HA'.out
          subst hA4
          go_upto_region 14 with (fail)
          have hx := BoxAt.new wk [.int .i64 (c.L i k 0), .int .i64 (c.L i k 1), .int .i64 (c.L i k 2), .int .i64 (c.L i k 3), .int .i64 (c.B i k)] 74
          have hbx := HBK.out.alloc HBK.out.size (.cells #[.int .i64 (c.L i k 0), .int .i64 (c.L i k 1), .int .i64 (c.L i k 2), .int .i64 (c.L i k 3), .int .i64 (c.B i k)] 74)
          clear y0 y1 y2 y3 y4 q5 x0 hq
          generalize wk.alloc (.cells #[.int .i64 (c.L i k 0), .int .i64 (c.L i k 1), .int .i64 (c.L i k 2), .int .i64 (c.L i k 3), .int .i64 (c.B i k)] 74) = wx at *
          have HX := Lib.hid hx
          have HWX := Lib.hid hbx
          have z4 := hx 4 _ rfl
          clear hx hbx
          go_cut [4] (fun s wy => ∃ b3, s = .bool b3 ∧ wy = wx ∧ Hid (b3 = tf (((True ∧ c.allC i) ∧ c.colP i k) ∧ c.bitP i k)))
          case first =>
            cases b2
            · go_wp2_with fail
              go_meet
              exact ⟨_, rfl, rfl, Lib.hid (tf_fand HB2.out)⟩
            · by_cases h0 : 0 ≤ c.B i k
              · by_cases h1 : c.B i k < 65536
                · go_wp2_with fail
                  go_meet
                  exact ⟨_, rfl, rfl, Lib.hid (tf_and HB2.out ⟨h0, h1⟩)⟩
                · go_wp2_with fail
                  go_meet
                  exact ⟨_, rfl, rfl, Lib.hid (tf_nand (fun h => by have := h.2; omega))⟩
              · go_wp2_with fail
                go_meet
                exact ⟨_, rfl, rfl, Lib.hid (tf_nand (fun h => by have := h.1; omega))⟩
          case rest =>
            obtain ⟨b3, rfl, rfl, HB3⟩ := hcut
            clear z4
            go_wp2_with fail
            go_loopw [4, 8] (fun vb vj wr => ∃ (j : Nat) (b : Bool), j ≤ 4 ∧ vj = .int .i64 j ∧ vb = .bool b ∧ Hid (b = tf ((((True ∧ c.allC i) ∧ c.colP i k) ∧ c.bitP i k) ∧ c.selP i k j)) ∧ Hid (Below wc.heap.size wc wr)) (fun _ vj _ => 4 - (intOf vj).toNat)
            case atStart => exact ⟨0, b3, by omega, rfl, rfl, Lib.hid (HB3.out.trans (tf_congr ⟨fun h => ⟨h, fun m hm => by omega⟩, fun h => h.1⟩)), Lib.hid (Below.refl _ _)⟩
            case round =>
              obtain ⟨j, b5, hj, rfl, rfl, HB5, HBJ⟩ := hrel
              have HVJ : Hid (Below v.heap.size v wr) := Lib.hid (HWX.out.trans (HBJ.out.mono HWX.out.size))
              by_cases hlj : j < 4
              · have xj := (HX.out.keeps (Keeps.of_below HBJ.out)) j _ (cell_get (c.L i k) (c.B i k) hlj)
                have hs := HS.out.keeps (Keeps.of_below HVJ.out)
                have s0 := hs 0 _ rfl; have s1 := hs 1 _ rfl; have s2 := hs 2 _ rfl; have s3 := hs 3 _ rfl; have s4 := hs 4 _ rfl
                clear hs
                go_upto_region 18 with (fail)
                cases b5
                case false =>
                  have HE : Hid (false = tf ((((True ∧ c.allC i) ∧ c.colP i k) ∧ c.bitP i k) ∧ c.selP i k (j + 1))) := Lib.hid (tf_more HB5.out rfl)
                  refine wp_region_z (fun w' => w'.cell? ⟨wk.heap.size, j, none⟩ = some (.int .i64 (c.L i k j))) [0, 1, 2, 3, 4, 5, 6, 7, 8, 9, 10, 11, 12, 13, 14] [] (by kernel_rfl) (by kernel_rfl) (by kernel_rfl) (by rfl) (fun _ _ _ _ e h => ⟨e.symm.trans h.1, h.2⟩) xj ?_
                  iterate 2
                    refine Heads.step (v := ?_) rfl (by first | (go_simp; done) | rfl) (fun W hW => ?_) ?_
                    rotate_left
                    · (have t0 := hW; go_simp; try with_reducible rfl)
                  iterate 5
                    refine Heads.skip rfl (by first | (go_simp; done) | rfl) ?_
                  iterate 2
                    refine Heads.step (v := ?_) rfl (by first | (go_simp; done) | rfl) (fun W hW => ?_) ?_
                    rotate_left
                    · (have t0 := hW; go_simp; try with_reducible rfl)
                  iterate 6
                    refine Heads.skip rfl (by first | (go_simp; done) | rfl) ?_
                  refine AnyZ.one (i := 15) (by kernel_rfl) rfl (fun K hK => ?_)
                  go_simp
                  refine hK _ _ (fun _ => xj) ?_
                  clear hK
                  refine AnyZ.mid [16, 17, 18] [] 0 rfl (by kernel_rfl) (by kernel_rfl) (by kernel_rfl) (fun _ _ _ _ e h => ⟨e.symm.trans h.1, h.2⟩) xj ?_
                  iterate 1
                    refine Heads.skip rfl (by first | (go_simp; done) | rfl) ?_
                  iterate 2
                    refine Heads.step (v := ?_) rfl (by first | (go_simp; done) | rfl) (fun W hW => ?_) ?_
                    rotate_left
                    · (have t0 := hW; go_simp; try with_reducible rfl)
                  refine AnyZ.done (by kernel_rfl) ?_
                  go_simp
                  have HD : Hid (Below wc.heap.size wc wr.drew) := Lib.hid HBJ.out.drew
                  go_wp2_with fail
                  go_roundw
                  case rel => exact ⟨j + 1, false, by omega, by go_num, rfl, HE, HD⟩
                  case measure => simp [intOf]; omega
                by_cases h0 : 0 ≤ c.L i k j
                case neg =>
                  have HE : Hid (false = tf ((((True ∧ c.allC i) ∧ c.colP i k) ∧ c.bitP i k) ∧ c.selP i k (j + 1))) := Lib.hid (tf_more HB5.out (by rw [tf_no (fun h => h0 h.1)]; rfl))
                  refine wp_region_z (fun w' => w'.cell? ⟨wk.heap.size, j, none⟩ = some (.int .i64 (c.L i k j))) [0, 1, 2, 3, 4, 5, 6, 7, 8, 9, 10, 11, 12, 13, 14] [] (by kernel_rfl) (by kernel_rfl) (by kernel_rfl) (by rfl) (fun _ _ _ _ e h => ⟨e.symm.trans h.1, h.2⟩) xj ?_
                  iterate 9
                    refine Heads.step (v := ?_) rfl (by first | (go_simp; done) | rfl) (fun W hW => ?_) ?_
                    rotate_left
                    · (have t0 := hW; go_simp; try with_reducible rfl)
                  iterate 6
                    refine Heads.skip rfl (by first | (go_simp; done) | rfl) ?_
                  refine AnyZ.one (i := 15) (by kernel_rfl) rfl (fun K hK => ?_)
                  go_simp
                  refine hK _ _ (fun _ => xj) ?_
                  clear hK
                  refine AnyZ.mid [16, 17, 18] [] 0 rfl (by kernel_rfl) (by kernel_rfl) (by kernel_rfl) (fun _ _ _ _ e h => ⟨e.symm.trans h.1, h.2⟩) xj ?_
                  iterate 1
                    refine Heads.skip rfl (by first | (go_simp; done) | rfl) ?_
                  iterate 2
                    refine Heads.step (v := ?_) rfl (by first | (go_simp; done) | rfl) (fun W hW => ?_) ?_
                    rotate_left
                    · (have t0 := hW; go_simp; try with_reducible rfl)
                  refine AnyZ.done (by kernel_rfl) ?_
                  go_simp
                  have HD : Hid (Below wc.heap.size wc wr.drew) := Lib.hid HBJ.out.drew
                  go_wp2_with fail
                  go_roundw
                  case rel => exact ⟨j + 1, false, by omega, by go_num, rfl, HE, HD⟩
                  case measure => simp [intOf]; omega
                have HE : Hid (decide (c.L i k j < c.src i) = tf ((((True ∧ c.allC i) ∧ c.colP i k) ∧ c.bitP i k) ∧ c.selP i k (j + 1))) := Lib.hid (tf_more HB5.out (by rw [tf_lt h0]; rfl))
                refine wp_region_z (fun w' => w'.cell? ⟨wk.heap.size, j, none⟩ = some (.int .i64 (c.L i k j)) ∧ w'.cell? ⟨w.heap.size + 1, 0, none⟩ = some (.int .i64 (c.sh 0)) ∧ w'.cell? ⟨w.heap.size + 1, 1, none⟩ = some (.int .i64 (c.sh 1)) ∧ w'.cell? ⟨w.heap.size + 1, 2, none⟩ = some (.int .i64 (c.sh 2)) ∧ w'.cell? ⟨w.heap.size + 1, 3, none⟩ = some (.int .i64 (c.sh 3)) ∧ w'.cell? ⟨w.heap.size + 1, 4, none⟩ = some (.int .i64 (c.sh 4))) [0, 1, 2, 3, 4, 5, 6, 7, 8, 9, 10, 11, 12, 13, 14] [] (by kernel_rfl) (by kernel_rfl) (by kernel_rfl) (by rfl) (fun _ _ _ _ e h => ⟨e.symm.trans h.1, h.2⟩) ⟨xj, s0, s1, s2, s3, s4⟩ ?_
                iterate 15
                  refine Heads.step (v := ?_) rfl (by first | (go_simp; done) | rfl) (fun W hW => ?_) ?_
                  rotate_left
                  · (obtain ⟨t0, t1, t2, t3, t4, t5⟩ := hW; go_simp; try with_reducible rfl)
                refine AnyZ.one (i := 15) (by kernel_rfl) rfl (fun K hK => ?_)
                go_simp
                refine (refSources_src c i _ HSH.out).mono ?_
                rintro e wv ⟨rfl, hbv⟩
                have hbv' : Below wr.heap.size wr wv := ⟨hbv.os, hbv.tape, hbv.output, hbv.size, hbv.block⟩
                have kp := Keeps.of_below hbv'
                replace xj := kp _ _ xj
                replace s0 := kp _ _ s0; replace s1 := kp _ _ s1; replace s2 := kp _ _ s2; replace s3 := kp _ _ s3; replace s4 := kp _ _ s4
                have HD : Hid (Below wc.heap.size wc wv) := Lib.hid (Below.then_call HBJ.out hbv' HBJ.out.size)
                refine hK _ _ (fun _ => ⟨xj, s0, s1, s2, s3, s4⟩) ?_
                clear hK
                clear hbv hbv' kp
                refine AnyZ.mid [16, 17, 18] [] 0 rfl (by kernel_rfl) (by kernel_rfl) (by kernel_rfl) (fun _ _ _ _ e h => ⟨e.symm.trans h.1, h.2⟩) ⟨xj, s0, s1, s2, s3, s4⟩ ?_
                iterate 3
                  refine Heads.step (v := ?_) rfl (by first | (go_simp; done) | rfl) (fun W hW => ?_) ?_
                  rotate_left
                  · (obtain ⟨t0, t1, t2, t3, t4, t5⟩ := hW; go_simp; try with_reducible rfl)
                refine AnyZ.done (by kernel_rfl) ?_
                go_simp
                clear xj s0 s1 s2 s3 s4
                go_wp2_with fail
                go_roundw
                case rel => exact ⟨j + 1, _, by omega, by go_num, rfl, HE, HD⟩
                case measure => simp [intOf]; omega
              · obtain rfl : j = 4 := by omega
                have HE : Hid (b5 = tf ((True ∧ c.allC i) ∧ c.colP i (k + 1))) := Lib.hid (by rw [HB5.out]; exact tf_congr (by unfold Cf.colP; rw [all_next]; exact and_assoc))
                go_wp2_with fail
                go_roundw
                case rel => exact ⟨k + 1, b5, by omega, by go_num, rfl, HE, HVJ⟩
                case measure => simp [intOf]; omega
        · obtain rfl : k = c.rows i := by omega
          have HE : Hid (b2 = tf (True ∧ c.allC (i + 1))) := Lib.hid (by rw [HB2.out]; exact tf_congr (by unfold Cf.allC; rw [all_next]))
          go_wp2_with fail
          go_roundw
          case rel => exact ⟨i + 1, b2, by omega, by go_num, rfl, HE, HRW2, HBK⟩
          case measure => simp [intOf]; omega
    · obtain rfl : i = c.nc := by omega
      have HD : Hid c.Dims := Lib.hid ⟨HSH.out, HNC.out, HNR.out, HNO.out, HRW.out⟩
      have HOK := Lib.hid (Cf.ok_iff HD.out)
      have q6 := hq 6 _ rfl
      clear hq hs s3 HRW HK
      go_wp2_with fail
      clear q6 q5
      go_loopw [4, 9] (fun vb vk wr => ∃ (k : Nat) (b : Bool), k ≤ c.nr ∧ vk = .int .i64 k ∧ vb = .bool b ∧ Hid (b = tf ((True ∧ c.allC c.nc) ∧ c.regP k)) ∧ Hid (Below v.heap.size v wr)) (fun _ vk _ => c.nr - (intOf vk).toNat)
      case atStart => exact ⟨0, b, by omega, rfl, rfl, Lib.hid (HB.out.trans (tf_congr ⟨fun h => ⟨h, fun m hm => by omega⟩, fun h => h.1⟩)), HBL⟩
      case round =>
      obtain ⟨k, b, hk, rfl, rfl, HB, HBL⟩ := hrel
      have HK : Hid (Below w.heap.size w wr) := Lib.hid (HV.out.trans (HBL.out.mono (by omega)))
      have hq := HQ.out.keeps (Keeps.of_below HBL.out)
      have hs := HS.out.keeps (Keeps.of_below HBL.out)
      have q6 := hq 6 _ rfl
      clear hq
      by_cases hlk : k < c.nr
      · obtain ⟨bb, off, rfl, y0, _⟩ := (HC.out.keeps (Keeps.of_below HK.out)).reg ER.out hlk
        have s0 := hs 0 _ rfl; have s1 := hs 1 _ rfl; have s2 := hs 2 _ rfl; have s3 := hs 3 _ rfl; have s4 := hs 4 _ rfl
        clear hs
        go_upto_region 22 with (fail)
        cases b
        case false =>
          have HE : Hid (false = tf ((True ∧ c.allC c.nc) ∧ c.regP (k + 1))) := Lib.hid (tf_more HB.out rfl)
          refine wp_region_z (fun w' => w'.cell? ⟨bb, off + k * 2, none⟩ = some (.int .i64 (c.RS k))) [0, 1, 2, 3, 4, 5, 6, 7, 8, 9, 10, 11, 12, 13, 14, 15, 16, 17] [] (by kernel_rfl) (by kernel_rfl) (by kernel_rfl) (by rfl) (fun _ _ _ _ e h => ⟨e.symm.trans h.1, h.2⟩) y0 ?_
          iterate 2
            refine Heads.step (v := ?_) rfl (by first | (go_simp; done) | rfl) (fun W hW => ?_) ?_
            rotate_left
            · (have t0 := hW; go_simp; try with_reducible rfl)
          iterate 7
            refine Heads.skip rfl (by first | (go_simp; done) | rfl) ?_
          iterate 2
            refine Heads.step (v := ?_) rfl (by first | (go_simp; done) | rfl) (fun W hW => ?_) ?_
            rotate_left
            · (have t0 := hW; go_simp; try with_reducible rfl)
          iterate 7
            refine Heads.skip rfl (by first | (go_simp; done) | rfl) ?_
          refine AnyZ.one (i := 18) (by kernel_rfl) rfl (fun K hK => ?_)
          go_simp
          refine hK _ _ (fun _ => y0) ?_
          clear hK
          refine AnyZ.mid [19, 20, 21] [] 0 rfl (by kernel_rfl) (by kernel_rfl) (by kernel_rfl) (fun _ _ _ _ e h => ⟨e.symm.trans h.1, h.2⟩) y0 ?_
          iterate 1
            refine Heads.skip rfl (by first | (go_simp; done) | rfl) ?_
          iterate 2
            refine Heads.step (v := ?_) rfl (by first | (go_simp; done) | rfl) (fun W hW => ?_) ?_
            rotate_left
            · (have t0 := hW; go_simp; try with_reducible rfl)
          refine AnyZ.done (by kernel_rfl) ?_
          go_simp
          have HD : Hid (Below v.heap.size v wr.drew) := Lib.hid HBL.out.drew
          go_wp2_with fail
          go_roundw
          case rel => exact ⟨k + 1, false, by omega, by go_num, rfl, HE, HD⟩
          case measure => simp [intOf]; omega
        by_cases h0 : 0 ≤ c.RS k
        case neg =>
          have HE : Hid (false = tf ((True ∧ c.allC c.nc) ∧ c.regP (k + 1))) := Lib.hid (tf_more HB.out (by rw [tf_no (fun h => h0 h.1)]; rfl))
          refine wp_region_z (fun w' => w'.cell? ⟨bb, off + k * 2, none⟩ = some (.int .i64 (c.RS k)) ∧ w'.cell? ⟨w.heap.size, 6, none⟩ = some (.slice (some ⟨bb, off, none⟩) c.nr c.cR)) [0, 1, 2, 3, 4, 5, 6, 7, 8, 9, 10, 11, 12, 13, 14, 15, 16, 17] [] (by kernel_rfl) (by kernel_rfl) (by kernel_rfl) (by rfl) (fun _ _ _ _ e h => ⟨e.symm.trans h.1, h.2⟩) ⟨y0, q6⟩ ?_
          iterate 11
            refine Heads.step (v := ?_) rfl (by first | (go_simp; done) | rfl) (fun W hW => ?_) ?_
            rotate_left
            · (obtain ⟨t0, t1⟩ := hW; go_simp; try with_reducible rfl)
          iterate 7
            refine Heads.skip rfl (by first | (go_simp; done) | rfl) ?_
          refine AnyZ.one (i := 18) (by kernel_rfl) rfl (fun K hK => ?_)
          go_simp
          refine hK _ _ (fun _ => ⟨y0, q6⟩) ?_
          clear hK
          refine AnyZ.mid [19, 20, 21] [] 0 rfl (by kernel_rfl) (by kernel_rfl) (by kernel_rfl) (fun _ _ _ _ e h => ⟨e.symm.trans h.1, h.2⟩) ⟨y0, q6⟩ ?_
          iterate 1
            refine Heads.skip rfl (by first | (go_simp; done) | rfl) ?_
          iterate 2
            refine Heads.step (v := ?_) rfl (by first | (go_simp; done) | rfl) (fun W hW => ?_) ?_
            rotate_left
            · (obtain ⟨t0, t1⟩ := hW; go_simp; try with_reducible rfl)
          refine AnyZ.done (by kernel_rfl) ?_
          go_simp
          have HD : Hid (Below v.heap.size v wr.drew) := Lib.hid HBL.out.drew
          go_wp2_with fail
          go_roundw
          case rel => exact ⟨k + 1, false, by omega, by go_num, rfl, HE, HD⟩
          case measure => simp [intOf]; omega
        have HE : Hid (decide (c.RS k < c.src 1) = tf ((True ∧ c.allC c.nc) ∧ c.regP (k + 1))) := Lib.hid (tf_more HB.out (by rw [tf_lt h0]; rfl))
        refine wp_region_z (fun w' => w'.cell? ⟨bb, off + k * 2, none⟩ = some (.int .i64 (c.RS k)) ∧ w'.cell? ⟨w.heap.size, 6, none⟩ = some (.slice (some ⟨bb, off, none⟩) c.nr c.cR) ∧ w'.cell? ⟨w.heap.size + 1, 0, none⟩ = some (.int .i64 (c.sh 0)) ∧ w'.cell? ⟨w.heap.size + 1, 1, none⟩ = some (.int .i64 (c.sh 1)) ∧ w'.cell? ⟨w.heap.size + 1, 2, none⟩ = some (.int .i64 (c.sh 2)) ∧ w'.cell? ⟨w.heap.size + 1, 3, none⟩ = some (.int .i64 (c.sh 3)) ∧ w'.cell? ⟨w.heap.size + 1, 4, none⟩ = some (.int .i64 (c.sh 4))) [0, 1, 2, 3, 4, 5, 6, 7, 8, 9, 10, 11, 12, 13, 14, 15, 16, 17] [] (by kernel_rfl) (by kernel_rfl) (by kernel_rfl) (by rfl) (fun _ _ _ _ e h => ⟨e.symm.trans h.1, h.2⟩) ⟨y0, q6, s0, s1, s2, s3, s4⟩ ?_
        iterate 18
          refine Heads.step (v := ?_) rfl (by first | (go_simp; done) | rfl) (fun W hW => ?_) ?_
          rotate_left
          · (obtain ⟨t0, t1, t2, t3, t4, t5, t6⟩ := hW; go_simp; try with_reducible rfl)
        refine AnyZ.one (i := 18) (by kernel_rfl) rfl (fun K hK => ?_)
        go_simp
        refine (refSources_neg c _ HSH.out).mono ?_
        rintro e wv ⟨rfl, hbv⟩
        have hbv' : Below wr.heap.size wr wv := ⟨hbv.os, hbv.tape, hbv.output, hbv.size, hbv.block⟩
        have kp := Keeps.of_below hbv'
        replace y0 := kp _ _ y0
        replace q6 := kp _ _ q6
        replace s0 := kp _ _ s0; replace s1 := kp _ _ s1; replace s2 := kp _ _ s2; replace s3 := kp _ _ s3; replace s4 := kp _ _ s4
        have HD : Hid (Below v.heap.size v wv) := Lib.hid (Below.then_call HBL.out hbv' HBL.out.size)
        refine hK _ _ (fun _ => ⟨y0, q6, s0, s1, s2, s3, s4⟩) ?_
        clear hK
        clear hbv hbv' kp
        refine AnyZ.mid [19, 20, 21] [] 0 rfl (by kernel_rfl) (by kernel_rfl) (by kernel_rfl) (fun _ _ _ _ e h => ⟨e.symm.trans h.1, h.2⟩) ⟨y0, q6, s0, s1, s2, s3, s4⟩ ?_
        iterate 3
          refine Heads.step (v := ?_) rfl (by first | (go_simp; done) | rfl) (fun W hW => ?_) ?_
          rotate_left
          · (obtain ⟨t0, t1, t2, t3, t4, t5, t6⟩ := hW; go_simp; try with_reducible rfl)
        refine AnyZ.done (by kernel_rfl) ?_
        go_simp
        clear y0 q6 s0 s1 s2 s3 s4
        go_wp2_with fail
        go_roundw
        case rel => exact ⟨k + 1, _, by omega, by go_num, rfl, HE, HD⟩
        case measure => simp [intOf]; omega
      obtain rfl : k = c.nr := by omega
      go_wp2_with fail
      go_loopw [4, 10] (fun vb vk wr => ∃ (k : Nat) (b : Bool), k ≤ c.no ∧ vk = .int .i64 k ∧ vb = .bool b ∧ Hid (b = tf (((True ∧ c.allC c.nc) ∧ c.regP c.nr) ∧ c.outP k)) ∧ Hid (Below v.heap.size v wr)) (fun _ vk _ => c.no - (intOf vk).toNat)
      case atStart => exact ⟨0, b, by omega, rfl, rfl, Lib.hid (HB.out.trans (tf_congr ⟨fun h => ⟨h, fun m hm => by omega⟩, fun h => h.1⟩)), HBL⟩
      case round =>
      obtain ⟨k, b, hk, rfl, rfl, HB, HBL⟩ := hrel
      have HK : Hid (Below w.heap.size w wr) := Lib.hid (HV.out.trans (HBL.out.mono (by omega)))
      have hq := HQ.out.keeps (Keeps.of_below HBL.out)
      have hs := HS.out.keeps (Keeps.of_below HBL.out)
      have q7 := hq 7 _ rfl
      clear hq
      by_cases hlk : k < c.no
      · obtain ⟨bb, off, rfl, y0⟩ := (HC.out.keeps (Keeps.of_below HK.out)).out EO.out hlk
        have s0 := hs 0 _ rfl; have s1 := hs 1 _ rfl; have s2 := hs 2 _ rfl; have s3 := hs 3 _ rfl; have s4 := hs 4 _ rfl
        clear hs
        go_upto_region 26 with (fail)
        cases b
        case false =>
          have HE : Hid (false = tf (((True ∧ c.allC c.nc) ∧ c.regP c.nr) ∧ c.outP (k + 1))) := Lib.hid (tf_more HB.out rfl)
          refine wp_region_z (fun w' => w'.cell? ⟨bb, off + k, none⟩ = some (.int .i64 (c.O k))) [0, 1, 2, 3, 4, 5, 6, 7, 8, 9, 10, 11, 12, 13, 14, 15] [] (by kernel_rfl) (by kernel_rfl) (by kernel_rfl) (by rfl) (fun _ _ _ _ e h => ⟨e.symm.trans h.1, h.2⟩) y0 ?_
          iterate 2
            refine Heads.step (v := ?_) rfl (by first | (go_simp; done) | rfl) (fun W hW => ?_) ?_
            rotate_left
            · (have t0 := hW; go_simp; try with_reducible rfl)
          iterate 6
            refine Heads.skip rfl (by first | (go_simp; done) | rfl) ?_
          iterate 2
            refine Heads.step (v := ?_) rfl (by first | (go_simp; done) | rfl) (fun W hW => ?_) ?_
            rotate_left
            · (have t0 := hW; go_simp; try with_reducible rfl)
          iterate 6
            refine Heads.skip rfl (by first | (go_simp; done) | rfl) ?_
          refine AnyZ.one (i := 16) (by kernel_rfl) rfl (fun K hK => ?_)
          go_simp
          refine hK _ _ (fun _ => y0) ?_
          clear hK
          refine AnyZ.mid [17, 18, 19] [] 0 rfl (by kernel_rfl) (by kernel_rfl) (by kernel_rfl) (fun _ _ _ _ e h => ⟨e.symm.trans h.1, h.2⟩) y0 ?_
          iterate 1
            refine Heads.skip rfl (by first | (go_simp; done) | rfl) ?_
          iterate 2
            refine Heads.step (v := ?_) rfl (by first | (go_simp; done) | rfl) (fun W hW => ?_) ?_
            rotate_left
            · (have t0 := hW; go_simp; try with_reducible rfl)
          refine AnyZ.done (by kernel_rfl) ?_
          go_simp
          have HD : Hid (Below v.heap.size v wr.drew) := Lib.hid HBL.out.drew
          go_wp2_with fail
          go_roundw
          case rel => exact ⟨k + 1, false, by omega, by go_num, rfl, HE, HD⟩
          case measure => simp [intOf]; omega
        by_cases h0 : 0 ≤ c.O k
        case neg =>
          have HE : Hid (false = tf (((True ∧ c.allC c.nc) ∧ c.regP c.nr) ∧ c.outP (k + 1))) := Lib.hid (tf_more HB.out (by rw [tf_no (fun h => h0 h.1)]; rfl))
          refine wp_region_z (fun w' => w'.cell? ⟨bb, off + k, none⟩ = some (.int .i64 (c.O k)) ∧ w'.cell? ⟨w.heap.size, 7, none⟩ = some (.slice (some ⟨bb, off, none⟩) c.no c.cO)) [0, 1, 2, 3, 4, 5, 6, 7, 8, 9, 10, 11, 12, 13, 14, 15] [] (by kernel_rfl) (by kernel_rfl) (by kernel_rfl) (by rfl) (fun _ _ _ _ e h => ⟨e.symm.trans h.1, h.2⟩) ⟨y0, q7⟩ ?_
          iterate 10
            refine Heads.step (v := ?_) rfl (by first | (go_simp; done) | rfl) (fun W hW => ?_) ?_
            rotate_left
            · (obtain ⟨t0, t1⟩ := hW; go_simp; try with_reducible rfl)
          iterate 6
            refine Heads.skip rfl (by first | (go_simp; done) | rfl) ?_
          refine AnyZ.one (i := 16) (by kernel_rfl) rfl (fun K hK => ?_)
          go_simp
          refine hK _ _ (fun _ => ⟨y0, q7⟩) ?_
          clear hK
          refine AnyZ.mid [17, 18, 19] [] 0 rfl (by kernel_rfl) (by kernel_rfl) (by kernel_rfl) (fun _ _ _ _ e h => ⟨e.symm.trans h.1, h.2⟩) ⟨y0, q7⟩ ?_
          iterate 1
            refine Heads.skip rfl (by first | (go_simp; done) | rfl) ?_
          iterate 2
            refine Heads.step (v := ?_) rfl (by first | (go_simp; done) | rfl) (fun W hW => ?_) ?_
            rotate_left
            · (obtain ⟨t0, t1⟩ := hW; go_simp; try with_reducible rfl)
          refine AnyZ.done (by kernel_rfl) ?_
          go_simp
          have HD : Hid (Below v.heap.size v wr.drew) := Lib.hid HBL.out.drew
          go_wp2_with fail
          go_roundw
          case rel => exact ⟨k + 1, false, by omega, by go_num, rfl, HE, HD⟩
          case measure => simp [intOf]; omega
        have HE : Hid (decide (c.O k < c.src 1) = tf (((True ∧ c.allC c.nc) ∧ c.regP c.nr) ∧ c.outP (k + 1))) := Lib.hid (tf_more HB.out (by rw [tf_lt h0]; rfl))
        refine wp_region_z (fun w' => w'.cell? ⟨bb, off + k, none⟩ = some (.int .i64 (c.O k)) ∧ w'.cell? ⟨w.heap.size, 7, none⟩ = some (.slice (some ⟨bb, off, none⟩) c.no c.cO) ∧ w'.cell? ⟨w.heap.size + 1, 0, none⟩ = some (.int .i64 (c.sh 0)) ∧ w'.cell? ⟨w.heap.size + 1, 1, none⟩ = some (.int .i64 (c.sh 1)) ∧ w'.cell? ⟨w.heap.size + 1, 2, none⟩ = some (.int .i64 (c.sh 2)) ∧ w'.cell? ⟨w.heap.size + 1, 3, none⟩ = some (.int .i64 (c.sh 3)) ∧ w'.cell? ⟨w.heap.size + 1, 4, none⟩ = some (.int .i64 (c.sh 4))) [0, 1, 2, 3, 4, 5, 6, 7, 8, 9, 10, 11, 12, 13, 14, 15] [] (by kernel_rfl) (by kernel_rfl) (by kernel_rfl) (by rfl) (fun _ _ _ _ e h => ⟨e.symm.trans h.1, h.2⟩) ⟨y0, q7, s0, s1, s2, s3, s4⟩ ?_
        iterate 16
          refine Heads.step (v := ?_) rfl (by first | (go_simp; done) | rfl) (fun W hW => ?_) ?_
          rotate_left
          · (obtain ⟨t0, t1, t2, t3, t4, t5, t6⟩ := hW; go_simp; try with_reducible rfl)
        refine AnyZ.one (i := 16) (by kernel_rfl) rfl (fun K hK => ?_)
        go_simp
        refine (refSources_neg c _ HSH.out).mono ?_
        rintro e wv ⟨rfl, hbv⟩
        have hbv' : Below wr.heap.size wr wv := ⟨hbv.os, hbv.tape, hbv.output, hbv.size, hbv.block⟩
        have kp := Keeps.of_below hbv'
        replace y0 := kp _ _ y0
        replace q7 := kp _ _ q7
        replace s0 := kp _ _ s0; replace s1 := kp _ _ s1; replace s2 := kp _ _ s2; replace s3 := kp _ _ s3; replace s4 := kp _ _ s4
        have HD : Hid (Below v.heap.size v wv) := Lib.hid (Below.then_call HBL.out hbv' HBL.out.size)
        refine hK _ _ (fun _ => ⟨y0, q7, s0, s1, s2, s3, s4⟩) ?_
        clear hK
        clear hbv hbv' kp
        refine AnyZ.mid [17, 18, 19] [] 0 rfl (by kernel_rfl) (by kernel_rfl) (by kernel_rfl) (fun _ _ _ _ e h => ⟨e.symm.trans h.1, h.2⟩) ⟨y0, q7, s0, s1, s2, s3, s4⟩ ?_
        iterate 3
          refine Heads.step (v := ?_) rfl (by first | (go_simp; done) | rfl) (fun W hW => ?_) ?_
          rotate_left
          · (obtain ⟨t0, t1, t2, t3, t4, t5, t6⟩ := hW; go_simp; try with_reducible rfl)
        refine AnyZ.done (by kernel_rfl) ?_
        go_simp
        clear y0 q7 s0 s1 s2 s3 s4
        go_wp2_with fail
        go_roundw
        case rel => exact ⟨k + 1, _, by omega, by go_num, rfl, HE, HD⟩
        case measure => simp [intOf]; omega
      obtain rfl : k = c.no := by omega
      go_wp2_with fail
      go_ret
      exact ⟨ret_bool (HB.out.trans (tf_congr (by rw [HOK.out]; simp))), HK.out⟩
end Go.Proofs.YtlmcbhmaccncbaaDoor
