/- faulty, walked; an argument of bytes opened (out of StD, for FabricRuns). Conditions: errors.errorType is as the program lays it; the fault lies in memory. -/
import Derived.Test.YtbnjbclkmjjkhaaDoorErB
import Derived.Test.YtbnjbclkmjjkhaaDoorDkY
import Derived.Test.YtbnjbclkmjjkhaaDoorCfT
namespace Go.Proofs.YtbnjbclkmjjkhaaDoor
open Go.RowKit Go.Shelf Go.Deep

set_option maxHeartbeats 4000000 in
theorem faulty_nil (w : World) : Calls Tryd.prog 11 #[.nilIface, .agg #[.int .i64 0, .int .i64 0]] w fun e w' => e = .returned (.bool true) ∧ Below w.heap.size w w' := by
  go_enter Tryd.func11, Tryd.ntmps11
  go_wp2_with fail
  refine (code_nil _).mono ?_
  rintro e w1 ⟨rfl, e1⟩
  subst e1
  go_wp2_with fail
  go_ret
  exact ⟨rfl, (Below.refl _ _).alloc (Nat.le_refl _) _⟩
set_option maxHeartbeats 4000000 in
theorem faulty_fault (b : Nat) (w : World) (hg : ErrT w) (hx : w.cell? ⟨b, 0, none⟩ = some (.int .i64 18)) (hy : w.cell? ⟨b, 1, none⟩ = some (.int .i64 0)) : Calls Tryd.prog 11 #[.iface 63 (.pointer (some ⟨b, 0, none⟩)), .agg #[.int .i64 18, .int .i64 0]] w fun e w' => e = .returned (.bool true) ∧ Below w.heap.size w w' := by
  have HG := Lib.hid hg; have HX := Lib.hid hx; have HY := Lib.hid hy
  clear hg hx hy
  go_enter Tryd.func11, Tryd.ntmps11
  go_wp2_with fail
  have hk : Keeps w (w.alloc (.cells #[.int .i64 18, .int .i64 0] 41)) := Keeps.alloc _ _
  have hb0 : Below w.heap.size w (w.alloc (.cells #[.int .i64 18, .int .i64 0] 41)) := (Below.refl _ _).alloc (Nat.le_refl _) _
  have hn := heap_alloc_new w (.cells #[.int .i64 18, .int .i64 0] 41)
  refine (code_fault b 0 18 0 _ (HG.out.keeps hk) (hk _ _ HX.out) (hk _ _ HY.out)).mono ?_
  rintro e w1 ⟨rfl, h1⟩
  have hn1 := heap_below h1 hn
  have c0 : w1.cell? ⟨w.heap.size, 0, none⟩ = some (.int .i64 18) := by rw [cell_of_row w1 w.heap.size 0 _ _ _ hn1]; rfl
  have c1 : w1.cell? ⟨w.heap.size, 1, none⟩ = some (.int .i64 0) := by rw [cell_of_row w1 w.heap.size 1 _ _ _ hn1]; rfl
  have HB := Lib.hid (hb0.trans (h1.mono (by simp)))
  clear hn hn1 hk hb0 h1
  go_wp2_with fail
  go_ret
  exact ⟨rfl, HB.out⟩
theorem ErrT.below {w w1 : World} (h : ErrT w) (k : Below w.heap.size w w1) : ErrT w1 := h.keeps (Keeps.of_below k)
theorem plain_len : (plainC 0).text.length ≤ 100000000 := by
  have h := (plainC 0).enc_len (plain_ok 0).d.sh (plainC 0).flds
  have h3 := Cf.flds_len (plain_ok 0).d
  unfold Cf.text Cf.encB
  rw [List.length_append, packB_len]
  unfold nby
  rw [List.length_append, Cf.shB_len]
  show _ + 4 ≤ _
  omega
theorem OwnB.cap {base : Nat} {w : World} {A : Option Addr} {n c : Nat} {xs : List Value} (h : OwnB base w A n c xs) : n ≤ c := by
  rcases h.2 with ⟨_, h1, h2⟩ | ⟨g, cur, lo, hi, _, _, _, _, h, _⟩
  · omega
  · exact h
open Go.WideShapes in
theorem open_bytes {N : Nat} {H : Type} {enc : TypeId × Value → H} {w : World} {cs : List Value} (h : Good N enc Tryd.prog w 22 cs) :
    ∃ (A : Option Addr) (l : List UInt8) (c : Nat), cs = [.slice A l.length c] ∧ l.length ≤ c ∧ c ≤ N ∧ Mem w A l := by
  obtain ⟨A, n, c, f, rfl, hn, hb, hcN, hr, hg⟩ := good_slice 1 (by kernel_rfl) (by omega) Tryd.underlying22 h
  have hx : ∀ k, k < n → ∃ x : Int, f k 0 = .int .u8 x ∧ 0 ≤ x ∧ x ≤ 255 := fun k hk => by
    obtain ⟨x, e, hw⟩ := good_int Tryd.underlying5 (hg k hk)
    exact ⟨x, by simpa [List.range_succ] using e, by simpa [Lit.wf, IntKind.min, IntKind.max, IntKind.signed, IntKind.bits] using hw⟩
  obtain ⟨X, hX⟩ := choose_lt (α := Int) hx
  refine ⟨A, (List.range n).map (fun k => UInt8.ofNat (X k).toNat), c, by simp, by simpa using hn, hcN, fun h0 => ?_⟩
  have h0' : 0 < n := by simpa using h0
  obtain ⟨b, off, e, hc⟩ := hr.one h0'
  refine ⟨b, off, e, fun k hk => ?_⟩
  have hk' : k < n := by simpa using hk
  obtain ⟨e1, e2, e3⟩ := hX k hk'
  rw [hc k hk']
  show some (f k 0) = some (.int .u8 (((List.map (fun k => UInt8.ofNat (X k).toNat) (List.range n)).getD k 0).toNat : Int))
  rw [e1]
  simp only [List.getD_eq_getElem?_getD, List.getElem?_map, List.getElem?_range hk', Option.map_some, Option.getD_some]
  have : ((UInt8.ofNat (X k).toNat).toNat : Int) = X k := by simp; omega
  rw [this]
end Go.Proofs.YtbnjbclkmjjkhaaDoor
