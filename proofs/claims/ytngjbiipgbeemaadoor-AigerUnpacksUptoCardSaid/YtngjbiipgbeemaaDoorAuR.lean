/- aiger's (*unpacker).row, walked. Conditions: the bytes lie in memory and are fewer than 1000000000; internal/bytealg.MaxLen holds a number. -/
import Derived.Test.YtngjbiipgbeemaaDoorAuM
import Derived.Test.YtngjbiipgbeemaaDoorAgQ
namespace Go.Proofs.YtngjbiipgbeemaaDoor
open Go.RowKit Go.Shelf Go.Deep

/-- a row's numbers and the place behind it -/
def rowU (l : List UInt8) (b p : Nat) : Option (List Nat × Nat) := match lnB l p with
  | none => none
  | some (s, q) => match numQ s 1 b with
    | none => none
    | some n => some (n, q)
def RuOut (w w' : World) (bu bA oA n c : Nat) (l : List UInt8) (b p : Nat) (e : Ending) : Prop :=
  (rowU l b p = none ∧ e = .returned (.tuple #[.slice none 0 0, .bool false]) ∧ UpAt w' bu bA oA n c p) ∨
  (∃ ns q v, rowU l b p = some (ns, q) ∧ e = .returned (.tuple #[v, .bool true]) ∧ NumV w' w.heap.size (some ns) v ∧ UpAt w' bu bA oA n c q)
set_option maxRecDepth 100000 in
set_option maxHeartbeats 8000000 in
theorem urow_any (l : List UInt8) (b bu bA oA c p : Nat) (w : World) (hu : UpAt w bu bA oA l.length c p) (hM : MemB w bA oA l) (hp : p ≤ l.length) (hc : l.length ≤ c) (hcm : c ≤ 9223372036854775807) (hl : l.length ≤ 1000000000) (hm : MaxT w) :
    Calls Tryd.prog 47 #[.pointer (some ⟨bu, 0, none⟩), .int .i64 (b : Int)] w fun e w' => RuOut w w' bu bA oA l.length c l b p e ∧ Only (fun k => k = bu) w w' := by
  have hix := ix_any w.drew bA oA c l p hM.drew hp hc
  obtain ⟨kk, hK⟩ : ∃ kk, kk = lnK l p := ⟨_, rfl⟩
  rw [← hK] at hix
  have HK := Lib.hid hK
  have HP := Lib.hid hp; have HC := Lib.hid hc
  clear hK
  have HBL := Lib.hid (Array.getElem?_eq_some_iff.1 (show w.heap[bu]? = _ from hu)).1
  have HU := Lib.hid hu; have HM := Lib.hid hM; have HMT := Lib.hid hm
  obtain ⟨⟨x0, x1⟩, xz⟩ := box2 hu
  have xz1 := xz 1
  clear hu hM hm xz
  go_enter Tryd.func47, Tryd.ntmps47
  go_upto_region 1 with (fail)
  refine wp_region_z (fun w' => w'.cell? ⟨bu, 0, none⟩ = some (.slice (some ⟨bA, oA, none⟩) l.length c) ∧ w'.cell? ⟨bu, 1, none⟩ = some (.int .i64 p)) [0, 1, 2, 3, 4, 5, 6, 7, 8] [] (by kernel_rfl) (by kernel_rfl) (by kernel_rfl) (by rfl) (fun _ _ _ _ e h => ⟨e.symm.trans h.1, h.2⟩) ⟨x0, x1⟩ ?_
  iterate 9
    refine Heads.step (v := ?_) rfl (by first | (go_simp; done) | rfl) (fun W hW => ?_) ?_
    rotate_left
    · (obtain ⟨t0, t1⟩ := hW; go_simp; try with_reducible rfl)
  refine AnyZ.one (i := 9) (by kernel_rfl) rfl (fun K hK => ?_)
  go_simp
  generalize hX : (if c = p then (some ⟨bA, oA, none⟩ : Option Addr) else some ⟨bA, oA + p, none⟩) = X at hix ⊢
  clear hX
  refine hix.mono ?_
  rintro e w2 ⟨rfl, rfl⟩
  clear hix
  replace x0 : w.drew.cell? ⟨bu, 0, none⟩ = some (.slice (some ⟨bA, oA, none⟩) l.length c) := x0
  replace x1 : w.drew.cell? ⟨bu, 1, none⟩ = some (.int .i64 p) := x1
  replace xz1 : w.drew.frozen? ⟨bu, 1, none⟩ = false := xz1
  have HU1 : Hid (UpAt w.drew bu bA oA l.length c p) := HU
  have HM1 := Lib.hid HM.out.drew
  have HT1 : Hid (MaxT w.drew) := Lib.hid (HMT.out.below ((Below.refl _ w).drew))
  have HO1 : Hid (Only (fun k => k = bu) w w.drew) := Lib.hid ((Only.refl _ w).drew)
  have HZ1 : Hid (w.drew.heap.size = w.heap.size) := Lib.hid rfl
  refine hK _ _ (fun _ => ⟨x0, x1⟩) ?_
  clear hK HU HM HMT
  refine AnyZ.mid [10] [] 0 rfl (by kernel_rfl) (by kernel_rfl) (by kernel_rfl) (fun _ _ _ _ e h => ⟨e.symm.trans h.1, h.2⟩) ⟨x0, x1⟩ ?_
  iterate 1
    refine Heads.step (v := ?_) rfl (by first | (go_simp; done) | rfl) (fun W hW => ?_) ?_
    rotate_left
    · (obtain ⟨t0, t1⟩ := hW; go_simp; try with_reducible rfl)
  refine AnyZ.done (by kernel_rfl) ?_
  go_simp
  generalize w.drew = w1 at *
  by_cases hk : p + kk < l.length
  · rw [if_pos hk]
    have hpl : p < l.length := by omega
    have hpc : ¬ c = p := by omega
    have HQ : Hid (lnB l p = some ((l.drop p).take kk, p + kk + 1)) := Lib.hid (by rw [HK.out]; exact lnB_k (by rw [← HK.out]; exact hk))
    have ew : IntKind.i64.wrap ((p : Int) + (kk : Int)) = ((p + kk : Nat) : Int) := by rw [IntKind.wrap_i64] <;> omega
    obtain ⟨E, hE⟩ : ∃ E, E = p + kk := ⟨_, rfl⟩
    rw [← hE] at ew
    have hE1 : p ≤ E := by omega
    have hE2 : (E : Int) ≤ (c : Int) := by omega
    have HE := Lib.hid hE
    have hcv := fun W' h => conv_any W' bA oA (c - p) l p kk h (by omega)
    have hE3 : E - p = kk := by omega
    obtain ⟨cp, hcp⟩ : ∃ x, c - p = x := ⟨_, rfl⟩
    obtain ⟨op, hop⟩ : ∃ x, oA + p = x := ⟨_, rfl⟩
    rw [hcp, hop] at hcv
    have HCV := Lib.hid hcv
    have HS1 : Hid (((l.drop p).take kk).length ≤ 1000000000) := Lib.hid (by rw [List.length_take, List.length_drop]; omega)
    clear hE hcv
    go_upto_region 4 with (fail)
    refine wp_region_z (fun w' => w'.cell? ⟨bu, 0, none⟩ = some (.slice (some ⟨bA, oA, none⟩) l.length c) ∧ w'.cell? ⟨bu, 1, none⟩ = some (.int .i64 p)) [0, 1, 2, 3, 4, 5, 6, 7, 8, 9, 10, 11, 12, 13, 14, 16] [] (by kernel_rfl) (by kernel_rfl) (by kernel_rfl) (by rfl) (fun _ _ _ _ e h => ⟨e.symm.trans h.1, h.2⟩) ⟨x0, x1⟩ ?_
    iterate 16
      refine Heads.step (v := ?_) rfl (by first | (go_simp; done) | rfl) (fun W hW => ?_) ?_
      rotate_left
      · (obtain ⟨t0, t1⟩ := hW; go_simp; try with_reducible rfl)
    have hcv2 := HCV.out w1.drew HM1.out.drew
    refine AnyZ.one (i := 15) (by kernel_rfl) rfl (fun K hK => ?_)
    go_simp
    clear hcv2 HCV
    have hnu := numbers_any ((l.drop p).take kk) 1 b w1.drew HS1.out (HT1.out.below ((Below.refl _ w1).drew))
    rw [show (((1 : Nat)) : Int) = 1 from rfl] at hnu
    obtain ⟨s1, hs1⟩ : ∃ s, s = bstr ((l.drop p).take kk) := ⟨_, rfl⟩
    rw [← hs1] at hnu ⊢
    clear hs1 HS1
    refine hK _ _ (fun _ => ⟨x0, x1⟩) ?_
    clear hK
    refine AnyZ.one (i := 17) (by kernel_rfl) rfl (fun K hK => ?_)
    go_simp
    refine hnu.mono ?_
    rintro e w2 ⟨⟨v, rfl, hv⟩, hb2⟩
    have hb12 : Below w1.heap.size w1 w2 := ((Below.refl _ w1).drew).trans hb2
    have kp := Keeps.of_below hb12
    replace x0 := kp _ _ x0
    replace x1 := kp _ _ x1
    have HU2 : Hid (UpAt w2 bu bA oA l.length c p) := Lib.hid (heap_below hb12 HU1.out)
    have HO2 := Lib.hid (HO1.out.call hb12)
    have HZ2 : Hid (w.heap.size ≤ w2.heap.size) := Lib.hid (by have := hb12.size; have := HZ1.out; omega)
    have HZ3 : Hid (w.heap.size ≤ w1.drew.heap.size) := Lib.hid (by have := HZ1.out; have e : w1.drew.heap.size = w1.heap.size := rfl; omega)
    refine hK _ _ (fun _ => ⟨x0, x1⟩) ?_
    clear hK hnu kp
    refine AnyZ.mid [18] [] 0 rfl (by kernel_rfl) (by kernel_rfl) (by kernel_rfl) (fun _ _ _ _ e h => ⟨e.symm.trans h.1, h.2⟩) ⟨x0, x1⟩ ?_
    iterate 1
      refine Heads.step (v := ?_) rfl (by first | (go_simp; done) | rfl) (fun W hW => ?_) ?_
      rotate_left
      · (obtain ⟨t0, t1⟩ := hW; go_simp; try with_reducible rfl)
    refine AnyZ.done (by kernel_rfl) ?_
    go_simp
    obtain ⟨Q, hQ⟩ : ∃ Q, Q = numQ ((l.drop p).take kk) 1 b := ⟨_, rfl⟩
    rw [← hQ] at hv
    cases Q with
    | none =>
      obtain rfl : v = .slice none 0 0 := hv
      have HRQ : Hid (rowU l b p = none) := Lib.hid (by unfold rowU; rw [HQ.out]; simp only [← hQ])
      clear hQ x0 x1
      go_wp2_with fail
      go_ret2
      exact ⟨.inl ⟨HRQ.out, rfl, HU2.out⟩, HO2.out⟩
    | some ns =>
      obtain ⟨bN, oN, cN, rfl, hbN, hx⟩ := hv
      have HRQ : Hid (rowU l b p = some (ns, p + kk + 1)) := Lib.hid (by unfold rowU; rw [HQ.out]; simp only [← hQ])
      have hbN2 : w.heap.size ≤ bN := Nat.le_trans HZ3.out hbN
      have HNV : Hid (∀ k, k < ns.length → w2.cell? ⟨bN, oN + k, none⟩ = some (.int .i64 ((ns.getD k 0 : Nat) : Int))) := Lib.hid hx
      have z2 : w2.frozen? ⟨bu, 1, none⟩ = false := by have h := HU2.out; unfold UpAt at h; simp [World.frozen?, h]
      have ew2 : IntKind.i64.wrap ((kk : Int) + 1) = (kk : Int) + 1 := by rw [IntKind.wrap_i64] <;> omega
      have ew3 : IntKind.i64.wrap ((p : Int) + ((kk : Int) + 1)) = ((p + kk + 1 : Nat) : Int) := by rw [IntKind.wrap_i64] <;> omega
      have hbl : bu < w.heap.size := HBL.out
      have HR : Hid (UpAt (w2.setCell ⟨bu, 1, none⟩ (.int .i64 ((p + kk + 1 : Nat) : Int))) bu bA oA l.length c (p + kk + 1)) := Lib.hid (set2_1 HU2.out _)
      have hk1 : Only (fun k => k = bu) w2 (w2.setCell ⟨bu, 1, none⟩ (.int .i64 ((p + kk + 1 : Nat) : Int))) := Only.setCell (p := ⟨bu, 1, none⟩) (Only.refl (fun k => k = bu) w2) (fun _ => rfl) _
      have HO3 := Lib.hid (HO2.out.then_ hk1 (fun _ _ h => h))
      have HNV2 : Hid (∀ k, k < ns.length → (w2.setCell ⟨bu, 1, none⟩ (.int .i64 ((p + kk + 1 : Nat) : Int))).cell? ⟨bN, oN + k, none⟩ = some (.int .i64 ((ns.getD k 0 : Nat) : Int))) := Lib.hid (fun k hk => hk1.cell (HNV.out k hk) (by show ¬ bN = bu; omega))
      clear hQ hx hbN hk1 hb2 hb12 x0 hE1 hE2
      go_wp2_with fail
      go_ret2
      exact ⟨.inr ⟨ns, p + kk + 1, _, HRQ.out, rfl, ⟨bN, oN, cN, rfl, hbN2, HNV2.out⟩, HR.out⟩, HO3.out⟩
  · rw [if_neg hk]
    have HQ : Hid (lnB l p = none) := Lib.hid (lnB_no (by rw [← HK.out]; exact hk))
    clear x0 x1 xz1 hk
    go_wp2_with fail
    go_ret2
    exact ⟨.inl ⟨by unfold rowU; rw [HQ.out], rfl, HU1.out⟩, HO1.out⟩
end Go.Proofs.YtngjbiipgbeemaaDoor
