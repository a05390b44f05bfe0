/- The reference's Paired, walked. Conditions: the pairs lie in memory, the graph is small. -/
import Derived.Test.YtkanekacjefcbaaJfR
import Derived.Test.YtkanekacjefcbaaDrawn2
import Derived.Deep.DeepCutAuto
namespace Go.Proofs.Ytkanekacjefcbaa
open Go.RowKit

/-- the pairs are literals of g -/
def PairsOk (g : G) (np : Nat) (P Q : Nat → Int) : Prop := ∀ i, i < np → (0 ≤ P i ∧ P i < 2 * g.vars) ∧ 0 ≤ Q i ∧ Q i < 2 * g.vars
def pq (P Q : Nat → Int) (i k : Nat) : Int := if k = 0 then P i else Q i
theorem PairsOk.bad {g : G} {np i k : Nat} {P Q : Nat → Int} {V : Int} (hV : g.vars = V) (hi : i < np) (h : pq P Q i k < 0 ∨ 2 * V ≤ pq P Q i k) : ¬ PairsOk g np P Q := fun hp => by
  subst hV
  have := hp i hi
  unfold pq at h
  split at h <;> omega

set_option maxHeartbeats 4000000 in
set_option maxRecDepth 100000 in
theorem paired_any (g : G) (A1 A2 A3 : Option Addr) (c1 c2 c3 : Nat) (PA : Option Addr) (np pc : Nat) (P Q : Nat → Int) (w : World) (hp : RowS w 2 PA np (fun k => two (.int .i64 (P k)) (.int .i64 (Q k))))
    (h0 : 0 ≤ g.ins) (h1 : g.ins ≤ 1000000) (h2 : g.n1 ≤ 1000000) (h3 : g.n2 ≤ 1000000) (hnp : np ≤ 90000000000000) :
    Calls Try.prog 21 #[.agg #[.int .i64 g.ins, .slice A1 g.n1 c1, .slice A2 g.n2 c2, .slice A3 g.n3 c3], .slice PA np pc] w fun e w' => e = .returned (.bool (tf (PairsOk g np P Q))) ∧ Below w.heap.size w w' := by
  go_enter Try.func21, Try.ntmps21
  go_upto_region 1 with (fail)
  have qa := BoxAt.new w [.int .i64 g.ins, .slice A1 g.n1 c1, .slice A2 g.n2 c2, .slice A3 g.n3 c3] 30
  have hal : Below w.heap.size w (w.alloc (.cells #[.int .i64 g.ins, .slice A1 g.n1 c1, .slice A2 g.n2 c2, .slice A3 g.n3 c3] 30)) := (Below.refl _ _).alloc (Nat.le_refl _) _
  generalize w.alloc (.cells #[.int .i64 g.ins, .slice A1 g.n1 c1, .slice A2 g.n2 c2, .slice A3 g.n3 c3] 30) = w1 at *
  have HB1 := Lib.hid hal
  have hs1 := hal.size
  clear hal
  obtain ⟨V, hV⟩ : ∃ V : Int, V = 1 + g.ins + g.n1 + g.n2 := ⟨_, rfl⟩
  have HV := Lib.hid hV
  have HVG : Hid (g.vars = V) := Lib.hid (by rw [hV]; rfl)
  have hVb : 0 ≤ V ∧ V ≤ 3000001 := by omega
  obtain ⟨hVa, hVc⟩ := hVb
  clear hV
  go_wp2_with fail
  go_loopw [5] (fun ix wi => ∃ i : Nat, i ≤ np ∧ ix = .int .i64 i ∧ Below w1.heap.size w1 wi ∧ Hid (∀ j, j < i → (0 ≤ P j ∧ P j < 2 * V) ∧ 0 ≤ Q j ∧ Q j < 2 * V)) (fun ix _ => np - (intOf ix).toNat)
  case atStart => exact ⟨0, by omega, rfl, Below.refl _ _, Lib.hid (fun j hj => by omega)⟩
  case round =>
    obtain ⟨i, hi, rfl, HD, HOK⟩ := hrel
    have HDH := Lib.hid HD; clear HD
    by_cases hlt : i < np
    · have hii : (i : Int) < np := by omega
      go_wp2_with fail
      go_loopw [6] (fun kx wi => ∃ k : Nat, k ≤ 2 ∧ kx = .int .i64 k ∧ Below w1.heap.size w1 wi ∧ Hid (∀ j, j < k → 0 ≤ pq P Q i j ∧ pq P Q i j < 2 * V)) (fun kx _ => 2 - (intOf kx).toNat)
      case atStart => exact ⟨0, by omega, rfl, HDH.out, Lib.hid (fun j hj => by omega)⟩
      case round =>
        clear HDH
        obtain ⟨k, hk, rfl, HD, HK⟩ := hrel
        have HDH := Lib.hid HD; clear HD
        have hkp := Lib.hid (Keeps.of_below HDH.out)
        by_cases hlk : k < 2
        · have hkk : (k : Int) < 2 := by omega
          have hk0 : (0 : Int) ≤ k := by omega
          obtain ⟨ba, oa, hA, hcl⟩ := (hp.keeps ((Keeps.of_below HB1.out).trans hkp.out)) (by omega)
          have x0 := hcl i hlt k hlk
          have hx : two (.int .i64 (P i)) (.int .i64 (Q i)) k = .int .i64 (pq P Q i k) := by
            obtain rfl | rfl : k = 0 ∨ k = 1 := by omega
            all_goals rfl
          simp only [hx] at x0
          clear hx hcl
          have HBAD : Hid (pq P Q i k < 0 ∨ 2 * V ≤ pq P Q i k → ¬ PairsOk g np P Q) := Lib.hid (PairsOk.bad HVG.out hlt)
          have HPK : Hid (∀ v, v = pq P Q i k → 0 ≤ v → v < 2 * V → ∀ j, j < k + 1 → 0 ≤ pq P Q i j ∧ pq P Q i j < 2 * V) := Lib.hid (fun v hv h1 h2 j hj => by
            by_cases e : j < k
            · exact HK.out j e
            · obtain rfl : j = k := by omega
              subst hv
              exact ⟨h1, h2⟩)
          generalize hv : pq P Q i k = v at *
          have HVV := Lib.hid hv; clear hv
          subst hA
          obtain ⟨g0, g1, g2, g3⟩ := (qa.keeps hkp.out).four
          have e1 : IntKind.i64.wrap (2 * V) = 2 * V := IntWalk.i64_in _ (by omega)
          go_upto_region 7 with (fail)
          by_cases hneg : v < 0
          · have HNO := Lib.hid (tf_no (HBAD.out (.inl hneg)))
            refine wp_region_z (fun w' => w'.cell? ⟨ba, oa + i * 2 + k, none⟩ = some (.int .i64 v)) [0, 1, 2, 3, 4, 5, 6, 7] [] (by kernel_rfl) (by kernel_rfl) (by kernel_rfl) (by rfl) (fun _ _ _ _ e h => ⟨e.symm.trans h.1, h.2⟩) x0 ?_
            iterate 8
              refine Heads.step (v := ?_) rfl (by rfl) (fun W hW => ?_) ?_
              rotate_left
              · (go_simp; try with_reducible rfl)
            refine AnyZ.mid [8, 9, 10, 11, 12, 13, 14] [] 4 rfl (by kernel_rfl) (by kernel_rfl) (by kernel_rfl) (fun _ _ _ _ e h => ⟨e.symm.trans h.1, h.2⟩) x0 ?_
            iterate 7
              refine Heads.skip rfl (by first | (go_simp; done) | rfl) ?_
            refine AnyZ.one (i := 15) (by kernel_rfl) rfl (fun K hK => ?_)
            go_simp
            refine hK _ _ (fun _ => x0) ?_
            clear hK
            refine AnyZ.mid [16, 17] [] 1 rfl (by kernel_rfl) (by kernel_rfl) (by kernel_rfl) (fun _ _ _ _ e h => ⟨e.symm.trans h.1, h.2⟩) x0 ?_
            iterate 2
              refine Heads.skip rfl (by first | (go_simp; done) | rfl) ?_
            refine AnyZ.one (i := 18) (by kernel_rfl) rfl (fun K hK => ?_)
            go_simp
            refine hK _ _ (fun _ => x0) (AnyZ.done (by kernel_rfl) ?_)
            clear hK
            clear g0 g1 g2 g3 e1
            have hbw := HB1.out.trans (HDH.out.mono hs1)
            have HDR : Hid (Below w.heap.size w wr.drew) := Lib.hid ⟨hbw.os, hbw.tape, hbw.output, hbw.size, hbw.block⟩
            clear hbw
            go_wp2_with fail
            go_ret
            exact ⟨ret_bool HNO.out.symm, HDR.out⟩
          · have hge0 : 0 ≤ v := by omega
            refine wp_region_z (fun w' => w'.cell? ⟨ba, oa + i * 2 + k, none⟩ = some (.int .i64 v) ∧ w'.cell? ⟨w.heap.size, 0, none⟩ = some (.int .i64 g.ins) ∧ w'.cell? ⟨w.heap.size, 1, none⟩ = some (.slice A1 g.n1 c1) ∧ w'.cell? ⟨w.heap.size, 2, none⟩ = some (.slice A2 g.n2 c2) ∧ w'.cell? ⟨w.heap.size, 3, none⟩ = some (.slice A3 g.n3 c3)) [0, 1, 2, 3, 4, 5, 6, 7, 8, 9, 10, 11, 12, 13, 14] [] (by kernel_rfl) (by kernel_rfl) (by kernel_rfl) (by rfl) (fun _ _ _ _ e h => ⟨e.symm.trans h.1, h.2⟩) ⟨x0, g0, g1, g2, g3⟩ ?_
            iterate 8
              refine Heads.step (v := ?_) rfl (by rfl) (fun W hW => ?_) ?_
              rotate_left
              · (obtain ⟨s0, s1, s2, s3, s4⟩ := hW; go_simp; try with_reducible rfl)
            iterate 7
              refine Heads.step (v := ?_) rfl (by first | (go_simp; done) | rfl) (fun W hW => ?_) ?_
              rotate_left
              · (obtain ⟨s0, s1, s2, s3, s4⟩ := hW; go_simp; try with_reducible rfl)
            refine AnyZ.one (i := 15) (by kernel_rfl) rfl (fun K hK => ?_)
            go_simp
            refine (varsJ_any g.ins A1 _ A3 g.n1 g.n2 g.n3 c1 c2 c3 _ h0 (by omega) (by omega) (by omega)).mono ?_
            rintro e wv ⟨rfl, hbv⟩
            have hw : 1 + g.ins + g.n1 + g.n2 = V := HV.out.symm
            rw [hw]
            clear hw
            have kp := Keeps.of_below hbv
            replace x0 := kp _ _ x0
            replace g0 := kp _ _ g0
            replace g1 := kp _ _ g1
            replace g2 := kp _ _ g2
            replace g3 := kp _ _ g3
            have HDR := Lib.hid (HDH.out.trans (Below.mono (B := wr.heap.size) (w := wr) (w' := wv) ⟨hbv.os, hbv.tape, hbv.output, hbv.size, hbv.block⟩ HDH.out.size))
            refine hK _ _ (fun _ => ⟨x0, g0, g1, g2, g3⟩) ?_
            clear hK hbv kp
            by_cases hbig : 2 * V ≤ v
            · have HNO := Lib.hid (tf_no (HBAD.out (.inr hbig)))
              refine AnyZ.one (i := 16) (by kernel_rfl) rfl (fun K hK => ?_)
              go_simp
              refine hK _ _ (fun _ => ⟨x0, g0, g1, g2, g3⟩) ?_
              clear hK
              refine AnyZ.one (i := 17) (by kernel_rfl) rfl (fun K hK => ?_)
              go_simp
              refine hK _ _ (fun _ => ⟨x0, g0, g1, g2, g3⟩) ?_
              clear hK
              refine AnyZ.one (i := 18) (by kernel_rfl) rfl (fun K hK => ?_)
              go_simp
              refine hK _ _ (fun _ => ⟨x0, g0, g1, g2, g3⟩) (AnyZ.done (by kernel_rfl) ?_)
              clear hK
              clear x0 g0 g1 g2 g3 e1
              go_wp2_with fail
              go_ret
              exact ⟨ret_bool HNO.out.symm, HB1.out.trans (HDR.out.mono hs1)⟩
            · have hbig' : v < 2 * V := by omega
              have HKK := Lib.hid (HPK.out v rfl hge0 hbig')
              refine AnyZ.one (i := 16) (by kernel_rfl) rfl (fun K hK => ?_)
              go_simp
              refine hK _ _ (fun _ => ⟨x0, g0, g1, g2, g3⟩) ?_
              clear hK
              refine AnyZ.one (i := 17) (by kernel_rfl) rfl (fun K hK => ?_)
              go_simp
              refine hK _ _ (fun _ => ⟨x0, g0, g1, g2, g3⟩) ?_
              clear hK
              refine AnyZ.one (i := 18) (by kernel_rfl) rfl (fun K hK => ?_)
              go_simp
              refine hK _ _ (fun _ => ⟨x0, g0, g1, g2, g3⟩) (AnyZ.done (by kernel_rfl) ?_)
              clear hK
              clear x0 g0 g1 g2 g3 e1
              go_wp2_with fail
              go_roundw
              case rel => exact ⟨k + 1, by omega, by go_num, HDR.out, HKK⟩
              case measure => simp [intOf]; omega
        · obtain rfl : k = 2 := by omega
          have HS : Hid (∀ j, j < i + 1 → (0 ≤ P j ∧ P j < 2 * V) ∧ 0 ≤ Q j ∧ Q j < 2 * V) := Lib.hid (fun j hj => by
            by_cases e : j < i
            · exact HOK.out j e
            · obtain rfl : j = i := by omega
              exact ⟨HK.out 0 (by omega), HK.out 1 (by omega)⟩)
          go_wp2_with fail
          go_roundw
          case rel => exact ⟨i + 1, by omega, by go_num, HDH.out, HS⟩
          case measure => simp [intOf]; omega
    · obtain rfl : i = np := by omega
      have ht : tf (PairsOk g i P Q) = true := tf_yes (fun j hj => by have := HOK.out j hj; rw [HVG.out]; exact this)
      have HT := Lib.hid ht; clear ht
      go_wp2_with fail
      go_ret
      exact ⟨ret_bool HT.out.symm, HB1.out.trans (HDH.out.mono hs1)⟩
end Go.Proofs.Ytkanekacjefcbaa
