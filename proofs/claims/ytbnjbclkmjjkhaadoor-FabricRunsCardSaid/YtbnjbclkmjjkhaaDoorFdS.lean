/- The inner closure of stream.fields, walked. Conditions: the configuration's heads lie in memory, its shape is valid. -/
import Derived.Test.YtbnjbclkmjjkhaaDoorFdP
import Derived.Test.YtbnjbclkmjjkhaaDoorDrawnF
import Derived.Test.YtbnjbclkmjjkhaaDoorShelfS
namespace Go.Proofs.YtbnjbclkmjjkhaaDoor
open Go.RowKit Go.Shelf
attribute [local go_sem] Oper.semAt_some

theorem wide_room {n : Nat} : Fence.wide.depth.isSome = true → 1 ≤ n := fun h => by simp [Fence.wide] at h
theorem round_wide {n m : Nat} {P : Program} {l : Nat} {f : FuncId} {tmps : Array Value} {assign body : Code} {w : World} {R : Ending → World → Prop}
    (h : RoundIn Fence.wide n P l f tmps assign body w R) : RoundIn Fence.wide m P l f tmps assign body w R := ⟨h.1, fun c cs _ => h.2 c cs (room_wide _)⟩
/-- what a round comes to -/
def Rnd {α : Type} (J Jx : List α → World → Prop) (Kp : World → World → Prop) (l : List α) (W : World) (e : Ending) (W' : World) : Prop :=
  (e = .returned (.bool true) ∧ J l W' ∧ Kp W W') ∨ (e = .returned (.bool false) ∧ Jx l W')
/-- .. with no 'or' in sight -/
theorem Rnd.split {α : Type} {J Jx : List α → World → Prop} {Kp : World → World → Prop} {l : List α} {W W' : World} {e : Ending} (h : Rnd J Jx Kp l W e W') : ∃ b : Bool, e = .returned (.bool b) ∧ Hid ((b = true → J l W' ∧ Kp W W') ∧ (b = false → Jx l W')) := by
  rcases h with ⟨rfl, h1, h2⟩ | ⟨rfl, h⟩
  · exact ⟨true, rfl, Lib.hid ⟨fun _ => ⟨h1, h2⟩, fun h => by cases h⟩⟩
  · exact ⟨false, rfl, Lib.hid ⟨fun h => (by cases h), fun _ => h⟩⟩

set_option maxRecDepth 100000 in
set_option maxHeartbeats 4000000 in
theorem selc_in (c : Cf) (n n₀ l B Bp By : Nat) (J Jx : List c.F → World → Prop) (A : Option Addr) (col : Nat) (pre : List c.F) (x : c.F) (W : World) (hsh : ShOk c.sh)
    (hJ : AbidesFrom B J) (hfv : c.fv x.1 = .agg #[.pointer A, .pointer none, .int .i64 (c.src col), .int .i64 (wid (c.src col))])
    (hY : ∀ W1, J pre W1 → YieldAt Fence.wide n Tryd.prog l #[c.fv x.1] W1 fun e W' => (e = .returned (.bool true) ∧ J (pre ++ [x]) W' ∧ Kept n₀ W1 W') ∨ (e = .returned (.bool false) ∧ Jx (pre ++ [x]) W'))
    (h0 : J pre W) (Bc : Nat) (hp : W.cell? ⟨Bp, 0, none⟩ = some (.pointer (some ⟨Bc, 0, none⟩))) (hy : W.cell? ⟨By, 0, none⟩ = some (.func (.yield l) #[] #[]))
    (hs : ∀ j v, c.cells[j]? = some v → W.cell? ⟨Bc, j, none⟩ = some v) :
    CallsIn Fence.wide n Tryd.prog 38 #[.pointer A, .int .i64 col, .pointer (some ⟨Bp, 0, none⟩), .pointer (some ⟨By, 0, none⟩)] W (Rnd J Jx (Kept n₀) (pre ++ [x]) W) := by
  have hF : ∀ f, Fence.wide.fn f := fun _ => trivial
  have s0 := hs 0 _ rfl; have s1 := hs 1 _ rfl; have s2 := hs 2 _ rfl; have s3 := hs 3 _ rfl; have s4 := hs 4 _ rfl
  have HYY := Lib.hid hY
  have HJJ := Lib.hid hJ
  have H0 := Lib.hid h0
  have HFV := Lib.hid hfv
  clear hs hY hJ hfv h0
  have hsr := c.src_le hsh col
  refine callsIn_of_wp Tryd.func38 rfl trivial ?_ rfl
  simp only [Tryd.ntmps38, List.size_toArray, List.length_cons, List.length_nil, Nat.reduceAdd, Nat.reduceSub, Array.replicate_succ, Array.replicate_zero, List.push_toArray, List.append_toArray, List.nil_append, List.cons_append]
  gi_wp2_with fail
  refine ⟨wide_room, (callsIn_wide.2 (sources_src c col W hsh)).mono ?_⟩
  rintro e W1 ⟨rfl, k1⟩
  have kk := Keeps.of_below k1
  replace hp := kk _ _ hp
  replace hy := kk _ _ hy
  have H1 : Hid (J pre W1) := Lib.hid (abides_below HJJ.out H0.out k1)
  have K1 := Lib.hid k1
  clear kk k1 s0 s1 s2 s3 s4
  generalize hn : c.src col = m at *
  have HN := Lib.hid hn
  clear hn
  gi_wp2_with fail
  have e1 : IntKind.i64.wrap (m - 1) = m - 1 := IntWalk.i64_in _ (by omega)
  have e2 : IntKind.u64.wrap (m - 1) = m - 1 := by rw [IntKind.wrap_u64]; omega
  refine wpIn_region_z (fun w' => w'.cell? ⟨By, 0, none⟩ = some (.func (.yield l) #[] #[])) [0, 1, 2, 3, 4] [8, 9] hF (by kernel_rfl) (by kernel_rfl) (by kernel_rfl) (by kernel_rfl) (by rfl) (fun _ _ _ _ e h => ⟨e.symm.trans h.1, h.2⟩) hy ?_
  iterate 5
    refine Heads.step (v := ?_) rfl (by first | (go_simp; done) | rfl) (fun W hW => ?_) ?_
    rotate_left
    · (have t0 := hW; go_simp; try with_reducible rfl)
  refine AnyY.one (i := 5) hF (by kernel_rfl) rfl (fun K hK => ?_)
  go_simp
  refine hK _ _ (fun _ => hy) ?_
  clear hK
  refine AnyY.one (i := 6) hF (by kernel_rfl) rfl (fun K hK => ?_)
  go_simp
  refine ⟨wide_room, (callsIn_wide.2 (Go.Proofs.Tryd.bits_Len (m - 1) _ (by omega) (by omega))).mono ?_⟩
  rintro e wv ⟨rfl, rfl⟩
  have hw : ((Lib.bitLen (m - 1).toNat : Nat) : Int) = wid m := rfl
  rw [hw]
  clear hw
  refine hK _ _ (fun _ => hy) ?_
  clear hK
  refine AnyY.mid [7] [8, 9] 2 rfl hF (by kernel_rfl) (by kernel_rfl) (by kernel_rfl) (by kernel_rfl) (fun _ _ _ _ e h => ⟨e.symm.trans h.1, h.2⟩) hy ?_
  iterate 1
    refine Heads.step (v := ?_) rfl (by first | (go_simp; done) | rfl) (fun W hW => ?_) ?_
    rotate_left
    · (have t0 := hW; go_simp; try with_reducible rfl)
  obtain ⟨fn, tmps, assign, body, hyy, hR⟩ := HYY.out W1.drew (abides_below HJJ.out H1.out (Below.refl _ _).drew)
  rw [HFV.out] at hyy
  refine AnyY.one (i := 8) hF (by kernel_rfl) rfl (fun K hK => ?_)
  go_simp
  refine ⟨wide_room, (round_wide hR).mono ?_⟩
  rintro e W3 hr
  obtain ⟨b, rfl, HR⟩ := Rnd.split hr
  clear hr hyy hR
  refine hK _ _ (fun h => by cases h) ?_
  clear hK
  refine AnyY.one (i := 9) hF (by kernel_rfl) rfl (fun K hK => ?_)
  go_simp
  refine hK _ _ (fun h => by cases h) (AnyY.done (by kernel_rfl) ?_)
  clear hK
  gi_wp2_with fail
  go_ret
  have hkb : Kept n₀ W W1.drew := Kept.below K1.out.drew
  cases b
  · exact .inr ⟨rfl, HR.out.2 rfl⟩
  · exact .inl ⟨rfl, (HR.out.1 rfl).1, hkb.trans (HR.out.1 rfl).2⟩
end Go.Proofs.YtbnjbclkmjjkhaaDoor
