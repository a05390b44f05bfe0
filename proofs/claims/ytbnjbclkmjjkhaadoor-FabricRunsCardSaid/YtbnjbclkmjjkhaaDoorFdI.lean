/- stream.fields's closure, walked: every field comes once, in order, until a round says no more. Conditions: the configuration's heads lie in memory that no round writes to, its shape is valid. -/
import Derived.Test.YtbnjbclkmjjkhaaDoorFdS
namespace Go.Proofs.YtbnjbclkmjjkhaaDoor
open Go.RowKit Go.Shelf Go.Deep
attribute [local go_sem] Oper.semAt_some

theorem AnyY.weaken {F : Fence} {n : Nat} {P : Program} {md : Region.Mode} {ops : Array Oper} {Q : Exit → Act → World → Prop} {S S' : World → Prop} {X X' : Nat → Bool} (h : ∀ w, S' w → S w) (hx : ∀ i, X i = false → X' i = false) :
    ∀ (f : Nat) (listed : Array Bool) (a : Act) (w : World), AnyY F n P md ops Q S' X' f listed a w → AnyY F n P md ops Q S X f listed a w
  | 0, _, _, _, h0 => h0
  | f + 1, _, _, _, h0 => ⟨h0.1, fun i hi => wpOpIn_mono (fun a' w' h' => ⟨fun hxi => h w' (h'.1 (hx i hxi)), AnyY.weaken h hx f _ a' w' h'.2⟩) (h0.2 i hi)⟩
/-- heads that need nothing of memory: nothing is asked of the world -/
theorem AnyY.first0 {F : Fence} {n : Nat} {P : Program} {md : Region.Mode} {ops : Array Oper} {Q : Exit → Act → World → Prop} {S : World → Prop} {X : Nat → Bool} {i : Nat} {oi : Oper} {v : Value} (hF : ∀ f, F.fn f) (hnd : noDefer ops = true) (hi : ops[i]? = some oi) (hsel : ∀ (j : Nat) (o : Oper) cs b, ops[j]? = some o → o.op ≠ .select cs b)
    (hQ : ∀ c a w, Q (.panic c) (a.put oi.dst v) w → Q (.panic c) a w) (hX : X i = true) :
    ∀ (f : Nat) (listed : Array Bool) (a : Act) (w : World), Shut md ops listed →
      (∀ j oj, ops[j]? = some oj → j ≠ i → listed.getD j true = false → (∀ e ∈ oj.after, Region.binds md e = true → e.on ≠ i) → oi.apart ops oj = true) →
      i ∈ Region.ready md ops listed → YieldsIf P ops (fun _ => True) oi v a →
      AnyY F n P md ops Q S X f (listed.setIfInBounds i true) (a.put oi.dst v) w → AnyY F n P md ops Q S X (f + 1) listed a w := by
  intro f
  induction f with
  | zero =>
    intro listed a w _ _ hr hy H
    refine ⟨fun h => (by rw [h] at hr; cases hr), fun j hj => ?_⟩
    by_cases hji : j = i
    · subst hji; exact yieldsIf_in hF (noDefer_at hnd hi) hi hy trivial ⟨fun h => (by rw [hX] at h; cases h), H⟩
    · have := ready_mono hj hji
      rw [H.1] at this
      cases this
  | succ f ih =>
    intro listed a w hsh hfree hr hy H
    refine ⟨fun h => (by rw [h] at hr; cases hr), fun j hj => ?_⟩
    by_cases hji : j = i
    · subst hji; exact yieldsIf_in hF (noDefer_at hnd hi) hi hy trivial ⟨fun h => (by rw [hX] at h; cases h), H⟩
    have h1 := H.2 j (ready_mono hj hji)
    obtain ⟨hjun, oj, hoj, hall⟩ := mem_ready.1 hj
    have hiun := (mem_ready.1 hr).1
    have hnot : ∀ e ∈ oj.after, Region.binds md e = true → e.on ≠ i := fun e he hb heq => by
      have hl := hall e he hb
      rw [heq, getD_both hiun] at hl; cases hl
    have h2 := putIf_in hF (noDefer_at hnd hoj) hoj (hfree j oj hoj hji hjun hnot) (fun cs b => hsel i oi cs b hi) (fun cs b => hsel j oj cs b hoj) hQ hy h1
    have hfree' : ∀ k ok, ops[k]? = some ok → k ≠ i → (listed.setIfInBounds j true).getD k true = false →
        (∀ e ∈ ok.after, Region.binds md e = true → e.on ≠ i) → oi.apart ops ok = true := fun k ok hk hki hun hno => by
      refine hfree k ok hk hki ?_ hno
      by_cases hjk : j = k
      · subst hjk; exact hjun
      · rwa [getD_set_ne true hjk] at hun
    refine wpOpIn_mono (fun a' w' h3 => ⟨h3.2.1, ih _ a' w' (hsh.more hj) hfree' (ready_mono hr (Ne.symm hji)) h3.1 ?_⟩) h2
    rw [Array.setIfInBounds_comm _ _ hji]
    exact h3.2.2
theorem AnyY.heads0 {F : Fence} {n : Nat} {P : Program} {md : Region.Mode} {ops : Array Oper} {Q : Exit → Act → World → Prop} {S : World → Prop} {X : Nat → Bool} (hF : ∀ f, F.fn f) (hnd : noDefer ops = true) (hsel : Region.noSelect ops = true) (hQ : ∀ c a a' w, a'.defers = a.defers → Q (.panic c) a' w → Q (.panic c) a w) {g : Nat} {w : World} :
    ∀ (is : List Nat) (listed : Array Bool) (a : Act), (∀ i ∈ is, X i = true) → Shut md ops listed → mayB md ops [] is listed = true → Heads P ops (fun _ => True) (fun a' => AnyY F n P md ops Q S X g (setAll is listed) a' w) is a →
      AnyY F n P md ops Q S X (is.length + g) listed a w
  | [], _, _, _, _, _, h => by rw [List.length_nil, Nat.zero_add]; exact h
  | i :: is, listed, a, hX, hsh, hB, ⟨o, v, ho, hy, h⟩ => by
    simp only [mayB, Bool.and_eq_true, List.all_eq_true] at hB
    obtain ⟨⟨⟨hr, hf⟩, hx⟩, hB'⟩ := hB
    have hr' : i ∈ Region.ready md ops listed := by simpa using hr
    rw [List.length_cons, show is.length + 1 + g = (is.length + g) + 1 by omega]
    exact AnyY.first0 hF hnd ho (Region.noSelect_spec hsel) (fun c a w => hQ c a _ w (put_defers a _ _)) (hX i (by simp)) _ _ _ _ hsh (Region.free_spec ho hf) hr' hy
      (AnyY.heads0 hF hnd hsel hQ is _ _ (fun j hj => hX j (by simp [hj])) (hsh.more hr') hB' h)
theorem AnyY.mid0 {F : Fence} {n : Nat} {P : Program} {md : Region.Mode} {ops : Array Oper} {Q : Exit → Act → World → Prop} {S : World → Prop} {X : Nat → Bool} {f : Nat} {w : World} {listed : Array Bool} {a : Act} (is : List Nat) (g : Nat) (hf : f = is.length + g) (hF : ∀ f, F.fn f) (hnd : noDefer ops = true) (hsel : Region.noSelect ops = true) (hsh : shutB md ops listed = true) (hX : is.all X = true) (hB : mayB md ops [] is listed = true)
    (hQ : ∀ c a a' w, a'.defers = a.defers → Q (.panic c) a' w → Q (.panic c) a w)
    (h : Heads P ops (fun _ => True) (fun a' => AnyY F n P md ops Q S X g (setAll is listed) a' w) is a) : AnyY F n P md ops Q S X f listed a w := by
  subst hf
  exact AnyY.heads0 hF hnd hsel hQ is listed a (fun i hi => List.all_eq_true.1 hX i hi) (shut_of hsh) hB h
theorem yield_wide {n m : Nat} {P : Program} {l : Nat} {args : Array Value} {W : World} {R : Ending → World → Prop} (h : YieldAt Fence.wide n P l args W R) : YieldAt Fence.wide m P l args W R := by
  obtain ⟨fn, tmps, assign, body, hy, hR⟩ := h
  exact ⟨fn, tmps, assign, body, hy, round_wide hR⟩

/-- how the closure ends -/
def Ends (c : Cf) (J Jx : List c.F → World → Prop) (e : Ending) (W' : World) : Prop := (∃ v, e = .returned v) ∧ ((∃ xs, xs.map Subtype.val = c.flds ∧ J xs W') ∨ (∃ pre, pre.map Subtype.val <+: c.flds ∧ Jx pre W'))

theorem map_snoc {c : Cf} {pre : List c.F} {x : c.F} {l : List Fi} (h : pre.map Subtype.val = l) : (pre ++ [x]).map Subtype.val = l ++ [x.1] := by simp [h]
theorem map_len {c : Cf} {pre : List c.F} {l : List Fi} (h : pre.map Subtype.val = l) : pre.length = l.length := by rw [← h, List.length_map]

set_option maxRecDepth 100000 in
set_option maxHeartbeats 16000000 in
theorem fields1_in (c : Cf) (AC AR AO : Option Addr) (eC : c.AC = AC) (eR : c.AR = AR) (eO : c.AO = AO) (n n₀ l B Bp Bc : Nat) (J Jx : List c.F → World → Prop) (W : World) (hsh : ShOk c.sh) (hf : c.Fits) (hP : c.Ptr) (hJ : AbidesFrom B J)
    (hY : ∀ pre x W1, J pre W1 → pre.length < c.flds.length → YieldAt Fence.wide (n - 1) Tryd.prog l #[c.fv x.1] W1 fun e W' => (e = .returned (.bool true) ∧ J (pre ++ [x]) W' ∧ Kept n₀ W1 W') ∨ (e = .returned (.bool false) ∧ Jx (pre ++ [x]) W'))
    (hH : c.Hdr n₀ W Bc) (hp : Firm n₀ W ⟨Bp, 0, none⟩ (.pointer (some ⟨Bc, 0, none⟩))) (h0 : J [] W) :
    CallsIn Fence.wide n Tryd.prog 37 #[.func (.yield l) #[] #[], .pointer (some ⟨Bp, 0, none⟩)] W (Ends c J Jx) := by
  have hF : ∀ f, Fence.wide.fn f := fun _ => trivial
  have f1 := hf.b1; have f2 := hf.b2; have f3 := hf.b3; have f4 := hf.b4
  have HY := Lib.hid hY; have HJ := Lib.hid hJ; have HP := Lib.hid hP; have HSH := Lib.hid hsh
  have HF2 := Lib.hid f2
  have EC := Lib.hid eC; have ER := Lib.hid eR; have EO := Lib.hid eO
  have q1 : ∀ o, (W.alloc o).cell? ⟨Bp, 0, none⟩ = some (.pointer (some ⟨Bc, 0, none⟩)) := fun o => Keeps.alloc _ _ _ _ hp.1
  have q5 : ∀ o, (W.alloc o).cell? ⟨Bc, 5, none⟩ = some (.slice AC c.nc c.cC) := fun o => Keeps.alloc _ _ _ _ (by rw [(hH.box 5 _ rfl).1, eC])
  have hkw : Kept n₀ W (W.alloc (.cells #[.func (.yield l) #[] #[]] 96)) := Kept.below ((Below.refl _ _).alloc (Nat.le_refl _) _)
  have HYB := Lib.hid (Firm.new n₀ W (.func (.yield l) #[] #[]) 96 (Or.inr (Or.inr (Or.inl rfl))))
  have HH := Lib.hid (hH.kept hkw)
  have HPP := Lib.hid (hp.kept hkw)
  have H0 := Lib.hid (abides_below hJ h0 ((Below.refl _ _).alloc (Nat.le_refl _) (.cells #[.func (.yield l) #[] #[]] 96)))
  clear hY hJ hP hH hp h0 hkw hsh hf f2 eC eR eO
  refine callsIn_of_wp Tryd.func37 rfl trivial ?_ rfl
  simp only [Tryd.ntmps37, List.size_toArray, List.length_cons, List.length_nil, Nat.reduceAdd, Nat.reduceSub, Array.replicate_succ, Array.replicate_zero, List.push_toArray, List.append_toArray, List.nil_append, List.cons_append]
  gi_wp2_with fail
  clear q1 q5
  generalize W.alloc (.cells #[.func (.yield l) #[] #[]] 96) = W1 at *
  generalize W.heap.size = By at *
  gi_loopw [16] (fun vi wr => ∃ (i : Nat) (pre : List c.F), i ≤ c.nc ∧ vi = .int .i64 i ∧ Hid (pre.map Subtype.val = c.allF i) ∧ Hid (J pre wr) ∧ Hid (Kept n₀ W1 wr)) (fun vi _ => c.nc - (intOf vi).toNat)
  case atStart => exact ⟨0, [], by omega, rfl, Lib.hid rfl, H0, Lib.hid (Kept.refl _ _)⟩
  case round =>
    obtain ⟨i, pre, hi, rfl, HM, HJP, HK⟩ := hrel
    by_cases hlt : i < c.nc
    · obtain ⟨ba, oa, eA, hcol⟩ := (HH.out.kept HK.out).cols i hlt
      obtain rfl : AC = some ⟨ba, oa, none⟩ := EC.out.symm.trans eA
      clear eA
      have x0 := hcol.1
      obtain ⟨A', hA'⟩ : ∃ A', c.CA i = A' := ⟨_, rfl⟩
      rw [hA'] at x0
      have HA' := Lib.hid hA'
      clear hcol hA'
      have hri := HF2.out i hlt
      gi_wp2_with fail
      clear x0
      gi_loopw [23] (fun vk wr => ∃ (k : Nat) (pre : List c.F), k ≤ c.rows i ∧ vk = .int .i64 k ∧ Hid (pre.map Subtype.val = c.allF i ++ colF i k) ∧ Hid (J pre wr) ∧ Hid (Kept n₀ W1 wr)) (fun vk _ => c.rows i - (intOf vk).toNat)
      case atStart => exact ⟨0, pre, by omega, rfl, Lib.hid (by rw [HM.out]; simp [colF]), HJP, HK⟩
      case round =>
        obtain ⟨k, pre, hk, rfl, HM, HJP, HK⟩ := hrel
        by_cases hlk : k < c.rows i
        · obtain ⟨b, o, eb⟩ := HP.out.col i hlt (by omega)
          obtain rfl : A' = some ⟨b, o, none⟩ := HA'.out.symm.trans eb
          clear eb
          have hyb := (HYB.out.kept HK.out).1
          gi_wp2_with fail
          refine wpIn_region_z (fun w' => w'.cell? ⟨By, 0, none⟩ = some (.func (.yield l) #[] #[])) [0, 1, 2, 3, 4, 5] [6, 7] hF (by kernel_rfl) (by kernel_rfl) (by kernel_rfl) (by kernel_rfl) (by rfl) (fun _ _ _ _ e h => ⟨e.symm.trans h.1, h.2⟩) hyb ?_
          iterate 6
            refine Heads.step (v := ?_) rfl (by first | (go_simp; done) | rfl) (fun W hW => ?_) ?_
            rotate_left
            · (have t0 := hW; go_simp; try with_reducible rfl)
          have hpre : c.allF i ++ (colF i k ++ cellF i k) <+: c.flds := c.cell_pre hlt hlk
          obtain ⟨fn, tmps, assign, body, hyy, hR⟩ := HY.out pre ⟨.bits i k, hlt, hlk⟩ wr.drew (abides_below HJ.out HJP.out (Below.refl _ _).drew) (pre_lt (a := c.allF i ++ colF i k) (x := .bits i k) (b := [.sel i k 0, .sel i k 1, .sel i k 2, .sel i k 3]) (by rw [List.append_assoc]; exact hpre) (map_len HM.out))
          have HPRE := Lib.hid hpre
          clear hpre
          rw [show c.fv (.bits i k) = .agg #[.pointer (some ⟨b, o + k * 5 + 4, none⟩), .pointer none, .int .i64 65536, .int .i64 16] by simp [Cf.fv, plus, HA'.out, Nat.add_assoc]] at hyy
          refine AnyY.one (i := 6) hF (by kernel_rfl) rfl (fun K hK => ?_)
          go_simp
          refine ⟨wide_room, (round_wide hR).mono ?_⟩
          rintro e W3 hr
          obtain ⟨bb, rfl, HR⟩ := Rnd.split hr
          clear hr hyy hR hyb
          refine hK _ _ (fun h => by cases h) ?_
          clear hK
          refine AnyY.one (i := 7) hF (by kernel_rfl) rfl (fun K hK => ?_)
          go_simp
          refine hK _ _ (fun h => by cases h) (AnyY.done (by kernel_rfl) ?_)
          clear hK
          have HM1 := Lib.hid (map_snoc (x := ⟨.bits i k, hlt, hlk⟩) HM.out)
          cases bb
          · have HX := Lib.hid (HR.out.2 rfl)
            gi_wp2
            refine bodyPost_ret (results_none rfl _ _ _) rfl ?_
            exact ⟨⟨_, rfl⟩, .inr ⟨_, by rw [HM1.out]; exact List.IsPrefix.trans ⟨[.sel i k 0, .sel i k 1, .sel i k 2, .sel i k 3], by simp [cellF]⟩ HPRE.out, HX.out⟩⟩
          have HJ1 := Lib.hid (HR.out.1 rfl).1
          have HK1 : Hid (Kept n₀ W1 W3) := Lib.hid ((HK.out.trans (Kept.below (Below.refl _ _).drew)).trans (HR.out.1 rfl).2)
          gi_wp2_with fail
          gi_loopw [34] (fun vj wr => ∃ (j : Nat) (pre : List c.F), j ≤ 4 ∧ vj = .int .i64 j ∧ Hid (pre.map Subtype.val = c.allF i ++ (colF i k ++ (cellF i k).take (j + 1))) ∧ Hid (J pre wr) ∧ Hid (Kept n₀ W1 wr)) (fun vj _ => 4 - (intOf vj).toNat)
          case atStart => exact ⟨0, _, by omega, rfl, Lib.hid (by rw [HM1.out]; simp [cellF]), HJ1, HK1⟩
          case round =>
            obtain ⟨j, pre, hj, rfl, HM, HJP, HK⟩ := hrel
            by_cases hlj : j < 4
            · have htk : (cellF i k).take (j + 1 + 1) = (cellF i k).take (j + 1) ++ [.sel i k j] := by
                obtain rfl | rfl | rfl | rfl : j = 0 ∨ j = 1 ∨ j = 2 ∨ j = 3 := by omega
                all_goals rfl
              have hpre : c.allF i ++ (colF i k ++ (cellF i k).take (j + 1 + 1)) <+: c.flds := List.IsPrefix.trans (app_pre _ (app_pre _ (List.take_prefix _ _))) HPRE.out
              have HTK := Lib.hid htk; have HPR := Lib.hid hpre
              clear htk hpre
              gi_wp2_with fail
              refine ⟨wide_room, (selc_in c (n - 1) n₀ l B Bp By J Jx _ i pre ⟨.sel i k j, ⟨hlt, hlk⟩, hlj⟩ wr HSH.out HJ.out (by simp [Cf.fv, plus, HA'.out, Nat.add_assoc]) (fun W2 h2 => HY.out pre ⟨.sel i k j, ⟨hlt, hlk⟩, hlj⟩ W2 h2 (pre_lt (a := c.allF i ++ (colF i k ++ (cellF i k).take (j + 1))) (x := .sel i k j) (b := []) (by have := HPR.out; rw [HTK.out] at this; simpa using this) (map_len HM.out))) HJP.out Bc (HPP.out.kept HK.out).1 (HYB.out.kept HK.out).1 (fun j' v e => ((HH.out.kept HK.out).box j' v e).1)).mono ?_⟩
              rintro e W4 hr
              obtain ⟨bb, rfl, HR⟩ := Rnd.split hr
              clear hr
              have HM1 := Lib.hid (map_snoc (x := ⟨.sel i k j, ⟨hlt, hlk⟩, hlj⟩) HM.out)
              cases bb
              · have HX := Lib.hid (HR.out.2 rfl)
                gi_wp2
                refine bodyPost_ret (results_none rfl _ _ _) rfl ?_
                exact ⟨⟨_, rfl⟩, .inr ⟨_, by rw [HM1.out]; have := HPR.out; rw [HTK.out] at this; simpa using this, HX.out⟩⟩
              have HJ2 := Lib.hid (HR.out.1 rfl).1
              have HK2 : Hid (Kept n₀ W1 W4) := Lib.hid (HK.out.trans (HR.out.1 rfl).2)
              gi_wp2_with fail
              go_roundw
              case rel => exact ⟨j + 1, _, by omega, by go_num, Lib.hid (by rw [HM1.out, HTK.out]; simp), HJ2, HK2⟩
              case measure => simp [intOf]; omega
            · obtain rfl : j = 4 := by omega
              gi_wp2_with fail
              go_roundw
              case rel => exact ⟨k + 1, pre, by omega, by go_num, Lib.hid (by rw [HM.out]; rfl), HJP, HK⟩
              case measure => simp [intOf]; omega
        · obtain rfl : k = c.rows i := by omega
          gi_wp2_with fail
          go_roundw
          case rel => exact ⟨i + 1, pre, by omega, by go_num, Lib.hid (by rw [HM.out]; rfl), HJP, HK⟩
          case measure => simp [intOf]; omega
    · obtain rfl : i = c.nc := by omega
      have q1 := (HPP.out.kept HK.out).1
      have q6 : wr.cell? ⟨Bc, 6, none⟩ = some (.slice AR c.nr c.cR) := by rw [((HH.out.kept HK.out).box 6 _ rfl).1, ER.out]
      gi_wp2_with fail
      clear q1 q6
      gi_loopw [55] (fun vk wr => ∃ (k : Nat) (pre : List c.F), k ≤ c.nr ∧ vk = .int .i64 k ∧ Hid (pre.map Subtype.val = c.allF c.nc ++ regF k) ∧ Hid (J pre wr) ∧ Hid (Kept n₀ W1 wr)) (fun vk _ => c.nr - (intOf vk).toNat)
      case atStart => exact ⟨0, pre, by omega, rfl, Lib.hid (by rw [HM.out]; simp [regF]), HJP, HK⟩
      case round =>
        obtain ⟨k, pre, hk, rfl, HM, HJP, HK⟩ := hrel
        by_cases hlk : k < c.nr
        · obtain ⟨b, o, eb⟩ := HP.out.reg (by omega)
          obtain rfl : AR = some ⟨b, o, none⟩ := ER.out.symm.trans eb
          clear eb
          have hyb := (HYB.out.kept HK.out).1
          have q1 := (HPP.out.kept HK.out).1
          have q6 : wr.cell? ⟨Bc, 6, none⟩ = some (.slice (some ⟨b, o, none⟩) c.nr c.cR) := by rw [((HH.out.kept HK.out).box 6 _ rfl).1, ER.out]
          gi_wp2_with fail
          refine wpIn_region_z (fun w' => w'.cell? ⟨By, 0, none⟩ = some (.func (.yield l) #[] #[]) ∧ w'.cell? ⟨Bp, 0, none⟩ = some (.pointer (some ⟨Bc, 0, none⟩)) ∧ w'.cell? ⟨Bc, 6, none⟩ = some (.slice (some ⟨b, o, none⟩) c.nr c.cR)) [0, 1, 2, 3, 4, 5, 6, 7, 8] [9, 10, 11, 12, 13, 14, 15, 16, 17, 18, 19, 20, 21, 22] hF (by kernel_rfl) (by kernel_rfl) (by kernel_rfl) (by kernel_rfl) (by rfl) (fun _ _ _ _ e h => ⟨e.symm.trans h.1, h.2⟩) ⟨hyb, q1, q6⟩ ?_
          iterate 9
            refine Heads.step (v := ?_) rfl (by first | (go_simp; done) | rfl) (fun W hW => ?_) ?_
            rotate_left
            · (obtain ⟨t0, t1, t2⟩ := hW; go_simp; try with_reducible rfl)
          have hpre : c.allF c.nc ++ (regF k ++ [.init k, .rsel k]) <+: c.flds := c.reg_pre hlk
          obtain ⟨fn, tmps, assign, body, hyy, hR⟩ := HY.out pre ⟨.init k, hlk⟩ wr.drew (abides_below HJ.out HJP.out (Below.refl _ _).drew) (pre_lt (a := c.allF c.nc ++ regF k) (x := .init k) (b := [.rsel k]) (by rw [List.append_assoc]; exact hpre) (map_len HM.out))
          have HPRE := Lib.hid hpre
          clear hpre
          rw [show c.fv (.init k) = .agg #[.pointer none, .pointer (some ⟨b, o + k * 2 + 1, none⟩), .int .i64 2, .int .i64 1] by simp [Cf.fv, plus, ER.out, Nat.add_assoc]] at hyy
          refine AnyY.one (i := 9) hF (by kernel_rfl) rfl (fun K hK => ?_)
          go_simp
          refine ⟨wide_room, (round_wide hR).mono ?_⟩
          rintro e W3 hr
          obtain ⟨bb, rfl, HR⟩ := Rnd.split hr
          clear hr hyy hR hyb q1 q6
          have HM1 := Lib.hid (map_snoc (x := ⟨.init k, hlk⟩) HM.out)
          refine hK _ _ (fun h => by cases h) ?_
          clear hK
          cases bb
          · have HX := Lib.hid (HR.out.2 rfl)
            refine AnyY.mid0 [10, 11, 12, 13, 14, 15, 16, 17, 18, 19, 20, 21, 22] 0 rfl hF (by kernel_rfl) (by kernel_rfl) (by kernel_rfl) (by decide) (by kernel_rfl) (fun _ _ _ _ e h => ⟨e.symm.trans h.1, h.2⟩) ?_
            iterate 2
              refine Heads.step (v := ?_) rfl (by first | (go_simp; done) | rfl) (fun W hW => ?_) ?_
              rotate_left
              · (go_simp; try with_reducible rfl)
            iterate 10
              refine Heads.skip rfl (by first | (go_simp; done) | rfl) ?_
            iterate 1
              refine Heads.step (v := ?_) rfl (by first | (go_simp; done) | rfl) (fun W hW => ?_) ?_
              rotate_left
              · (go_simp; try with_reducible rfl)
            refine AnyY.done (by kernel_rfl) ?_
            go_simp
            gi_wp2
            refine bodyPost_ret (results_none rfl _ _ _) rfl ?_
            exact ⟨⟨_, rfl⟩, .inr ⟨_, by rw [HM1.out]; exact List.IsPrefix.trans ⟨[.rsel k], by simp⟩ HPRE.out, HX.out⟩⟩
          have HJ1 := Lib.hid (HR.out.1 rfl).1
          have HK1 : Hid (Kept n₀ W1 W3) := Lib.hid ((HK.out.trans (Kept.below (Below.refl _ _).drew)).trans (HR.out.1 rfl).2)
          have hyb := (HYB.out.kept HK1.out).1
          have q1 := (HPP.out.kept HK1.out).1
          have q6 : W3.cell? ⟨Bc, 6, none⟩ = some (.slice (some ⟨b, o, none⟩) c.nr c.cR) := by rw [((HH.out.kept HK1.out).box 6 _ rfl).1, ER.out]
          refine AnyY.weaken (S' := (fun w' => w'.cell? ⟨By, 0, none⟩ = some (.func (.yield l) #[] #[]) ∧ w'.cell? ⟨Bp, 0, none⟩ = some (.pointer (some ⟨Bc, 0, none⟩)) ∧ w'.cell? ⟨Bc, 6, none⟩ = some (.slice (some ⟨b, o, none⟩) c.nr c.cR))) (X' := fun x => [20, 21, 22].contains x) (fun _ h => h) (fun x hx => by simp at hx ⊢; omega) _ _ _ _ ?_
          refine AnyY.mid [10, 11, 12, 13, 14, 15, 16, 17, 18, 19] [20, 21, 22] 3 rfl hF (by kernel_rfl) (by kernel_rfl) (by kernel_rfl) (by kernel_rfl) (fun _ _ _ _ e h => ⟨e.symm.trans h.1, h.2⟩) ⟨hyb, q1, q6⟩ ?_
          iterate 10
            refine Heads.step (v := ?_) rfl (by first | (go_simp; done) | rfl) (fun W hW => ?_) ?_
            rotate_left
            · (obtain ⟨t0, t1, t2⟩ := hW; go_simp; try with_reducible rfl)
          refine AnyY.one (i := 20) hF (by kernel_rfl) rfl (fun K hK => ?_)
          go_simp
          refine ⟨wide_room, (selc_in c (n - 1) n₀ l B Bp By J Jx _ 1 _ ⟨.rsel k, hlk⟩ W3 HSH.out HJ.out (by simp [Cf.fv, plus, ER.out]) (fun W2 h2 => HY.out _ ⟨.rsel k, hlk⟩ W2 h2 (pre_lt (a := c.allF c.nc ++ (regF k ++ [.init k])) (x := .rsel k) (b := []) (by simpa using HPRE.out) (by rw [map_len HM1.out]; simp))) HJ1.out Bc q1 hyb (fun j' v e => ((HH.out.kept HK1.out).box j' v e).1)).mono ?_⟩
          rintro e W4 hr
          obtain ⟨bb, rfl, HR2⟩ := Rnd.split hr
          clear hr hyb q1 q6
          have HM2 := Lib.hid (map_snoc (x := ⟨.rsel k, hlk⟩) HM1.out)
          refine hK _ _ (fun h => by cases h) ?_
          clear hK
          refine AnyY.one (i := 21) hF (by kernel_rfl) rfl (fun K hK => ?_)
          go_simp
          refine hK _ _ (fun h => by cases h) ?_
          clear hK
          refine AnyY.one (i := 22) hF (by kernel_rfl) rfl (fun K hK => ?_)
          go_simp
          refine hK _ _ (fun h => by cases h) (AnyY.done (by kernel_rfl) ?_)
          clear hK
          cases bb
          · have HX := Lib.hid (HR2.out.2 rfl)
            gi_wp2
            refine bodyPost_ret (results_none rfl _ _ _) rfl ?_
            exact ⟨⟨_, rfl⟩, .inr ⟨_, by rw [HM2.out]; simpa using HPRE.out, HX.out⟩⟩
          have HJ2 := Lib.hid (HR2.out.1 rfl).1
          have HK2 : Hid (Kept n₀ W1 W4) := Lib.hid (HK1.out.trans (HR2.out.1 rfl).2)
          gi_wp2_with fail
          go_roundw
          case rel => exact ⟨k + 1, _, by omega, by go_num, Lib.hid (by rw [HM2.out]; simp [regF]), HJ2, HK2⟩
          case measure => simp [intOf]; omega
        · obtain rfl : k = c.nr := by omega
          have q1 := (HPP.out.kept HK.out).1
          have q7 : wr.cell? ⟨Bc, 7, none⟩ = some (.slice AO c.no c.cO) := by rw [((HH.out.kept HK.out).box 7 _ rfl).1, EO.out]
          gi_wp2_with fail
          clear q1 q7
          gi_loopw [87] (fun vk wr => ∃ (k : Nat) (pre : List c.F), k ≤ c.no ∧ vk = .int .i64 k ∧ Hid (pre.map Subtype.val = c.allF c.nc ++ (regF c.nr ++ outF k)) ∧ Hid (J pre wr) ∧ Hid (Kept n₀ W1 wr)) (fun vk _ => c.no - (intOf vk).toNat)
          case atStart => exact ⟨0, pre, by omega, rfl, Lib.hid (by rw [HM.out]; simp [outF]), HJP, HK⟩
          case round =>
            obtain ⟨k, pre, hk, rfl, HM, HJP, HK⟩ := hrel
            by_cases hlk : k < c.no
            · obtain ⟨b, o, eb⟩ := HP.out.out (by omega)
              obtain rfl : AO = some ⟨b, o, none⟩ := EO.out.symm.trans eb
              clear eb
              have q1 := (HPP.out.kept HK.out).1
              have q7 : wr.cell? ⟨Bc, 7, none⟩ = some (.slice (some ⟨b, o, none⟩) c.no c.cO) := by rw [((HH.out.kept HK.out).box 7 _ rfl).1, EO.out]
              have HPRE := Lib.hid (c.out_pre hlk)
              gi_wp2_with fail
              refine ⟨wide_room, (selc_in c (n - 1) n₀ l B Bp By J Jx _ 1 _ ⟨.out k, hlk⟩ wr HSH.out HJ.out (by simp [Cf.fv, plus, EO.out]) (fun W2 h2 => HY.out _ ⟨.out k, hlk⟩ W2 h2 (pre_lt (a := c.allF c.nc ++ (regF c.nr ++ outF k)) (x := .out k) (b := []) (by simpa using HPRE.out) (map_len HM.out))) HJP.out Bc q1 (HYB.out.kept HK.out).1 (fun j' v e => ((HH.out.kept HK.out).box j' v e).1)).mono ?_⟩
              rintro e W4 hr
              obtain ⟨bb, rfl, HR2⟩ := Rnd.split hr
              clear hr q1 q7
              have HM2 := Lib.hid (map_snoc (x := ⟨.out k, hlk⟩) HM.out)
              cases bb
              · have HX := Lib.hid (HR2.out.2 rfl)
                gi_wp2
                refine bodyPost_ret (results_none rfl _ _ _) rfl ?_
                exact ⟨⟨_, rfl⟩, .inr ⟨_, by rw [HM2.out]; simpa using HPRE.out, HX.out⟩⟩
              have HJ2 := Lib.hid (HR2.out.1 rfl).1
              have HK2 : Hid (Kept n₀ W1 W4) := Lib.hid (HK.out.trans (HR2.out.1 rfl).2)
              gi_wp2_with fail
              go_roundw
              case rel => exact ⟨k + 1, _, by omega, by go_num, Lib.hid (by rw [HM2.out]; simp [outF]), HJ2, HK2⟩
              case measure => simp [intOf]; omega
            · obtain rfl : k = c.no := by omega
              gi_wp2_with fail
              go_end0
              exact ⟨⟨_, rfl⟩, .inl ⟨pre, HM.out, HJP.out⟩⟩
end Go.Proofs.YtbnjbclkmjjkhaaDoor
