/- The reference's CleanGraph, walked: it returns the clean graph in new memory. Conditions: the graph is valid and lies in memory. -/
import Derived.Test.YtdhgbikmaglgpaaCleanP
import Derived.Test.YtdhgbikmaglgpaaOwn2
import Derived.Test.YtdhgbikmaglgpaaRun1
import Derived.Test.YtdhgbikmaglgpaaAigRun
import Derived.Test.YtdhgbikmaglgpaaTiny
import Derived.Test.YtdhgbikmaglgpaaDrawn
import Derived.Deep.DeepCutAuto
namespace Go.Proofs.Ytdhgbikmaglgpaa
open Go.RowKit

theorem Arr.mark {w : World} {b n : Nat} {V : Nat → Bool} {l : Int} (h : Arr w b 4 n (fun j => .bool (V j))) (h0 : 0 ≤ l) : Arr (w.setCell ⟨b, (l / 2).toNat, none⟩ (.bool true)) b 4 n (fun j => .bool (marked V (l.toNat / 2) j)) := by
  have e : (l / 2).toNat = l.toNat / 2 := by omega
  rw [e]
  exact h.set (fun j _ hj => by rw [marked_far hj]) (by rw [marked_self])

theorem Arr.new (w : World) (cs : Array Value) (e : TypeId) : Arr (w.alloc (.cells cs e)) w.heap.size e cs.size (fun j => cs.getD j undef) :=
  ⟨_, heap_alloc_new w _, rfl, fun k hk => by simp [hk]⟩

/-- the four cells of a graph -/
def four (v0 v1 v2 v3 : Value) : Nat → Value
  | 0 => v0
  | 1 => v1
  | 2 => v2
  | _ => v3
/-- a graph of the call's own, cell by cell -/
def GBox (w : World) (b : Nat) (v0 v1 v2 v3 : Value) : Prop := Arr w b 26 4 (four v0 v1 v2 v3)
section
variable {w w1 : World} {b : Nat} {v0 v1 v2 v3 : Value}
theorem GBox.new (w : World) (v0 v1 v2 v3 : Value) : GBox (w.alloc (.cells #[v0, v1, v2, v3] 26)) w.heap.size v0 v1 v2 v3 :=
  (Arr.new w #[v0, v1, v2, v3] 26).congr (fun j hj => by
    obtain rfl | rfl | rfl | rfl : j = 0 ∨ j = 1 ∨ j = 2 ∨ j = 3 := by (have hj' : j < 4 := hj); omega
    all_goals rfl)
theorem GBox.at_ (h : GBox w b v0 v1 v2 v3) : w.cell? ⟨b, 0, none⟩ = some v0 ∧ w.cell? ⟨b, 1, none⟩ = some v1 ∧ w.cell? ⟨b, 2, none⟩ = some v2 ∧ w.cell? ⟨b, 3, none⟩ = some v3 :=
  ⟨Arr.cell h (k := 0) (by omega), Arr.cell h (k := 1) (by omega), Arr.cell h (k := 2) (by omega), Arr.cell h (k := 3) (by omega)⟩
theorem GBox.put0 (h : GBox w b v0 v1 v2 v3) (x : Value) : GBox (w.setCell ⟨b, 0, none⟩ x) b x v1 v2 v3 := Arr.set h (fun j hj hne => by
    obtain rfl | rfl | rfl | rfl : j = 0 ∨ j = 1 ∨ j = 2 ∨ j = 3 := by omega
    all_goals first | rfl | omega) rfl
theorem GBox.put1 (h : GBox w b v0 v1 v2 v3) (x : Value) : GBox (w.setCell ⟨b, 1, none⟩ x) b v0 x v2 v3 := Arr.set h (fun j hj hne => by
    obtain rfl | rfl | rfl | rfl : j = 0 ∨ j = 1 ∨ j = 2 ∨ j = 3 := by omega
    all_goals first | rfl | omega) rfl
theorem GBox.put2 (h : GBox w b v0 v1 v2 v3) (x : Value) : GBox (w.setCell ⟨b, 2, none⟩ x) b v0 v1 x v3 := Arr.set h (fun j hj hne => by
    obtain rfl | rfl | rfl | rfl : j = 0 ∨ j = 1 ∨ j = 2 ∨ j = 3 := by omega
    all_goals first | rfl | omega) rfl
theorem GBox.put3 (h : GBox w b v0 v1 v2 v3) (x : Value) : GBox (w.setCell ⟨b, 3, none⟩ x) b v0 v1 v2 x := Arr.set h (fun j hj hne => by
    obtain rfl | rfl | rfl | rfl : j = 0 ∨ j = 1 ∨ j = 2 ∨ j = 3 := by omega
    all_goals first | rfl | omega) rfl
end

/-- where CleanGraph stands among the gates -/
structure CAt (g : G) (w5 wr : World) (bh : Nat) (k : Nat) (At : Option Addr) (ct : Nat) (Aa : Option Addr) (ca : Nat) : Prop where
  only : Only (fun j => j = bh) w5 wr
  tos : OwnInts wr w5.heap.size At (g.first + k) ct (fun j => (g.pos j : Int))
  ands : wr.ownsRow w5.heap.size 59 2 (.slice Aa (g.cnt k) ca) (g.cnt k) (flat2 (fun j => two (.int .i64 (g.cx g.X k j)) (.int .i64 (g.cx g.Y k j))) (g.cnt k))
  box : GBox wr bh (.int .i64 g.ins) (.slice none 0 0) (.slice Aa (g.cnt k) ca) (.slice none 0 0)

theorem set_far {w : World} {b i : Nat} {u v : Value} {q : Addr} (h : w.cell? q = some v) (hne : q.block ≠ b) : (w.setCell ⟨b, i, none⟩ u).cell? q = some v :=
  ((Only.refl (fun j => j = b) w).setCell (p := ⟨b, i, none⟩) (fun _ => rfl) u).cell h hne
theorem Only.drawn {S : Nat → Prop} {w w1 : World} (h : Only S w.drew w1) : Only S w w1 := ⟨h.os, h.tape, h.output, h.size, h.block⟩

/-- a gate more -/
theorem CAt.gate {g : G} {w5 w6 w7 : World} {bh k ct ca ca' : Nat} {At Aa Aa' : Option Addr} {o : Obj} {x y : Int} (h1 : Only (fun j => j = bh) w5 w6) (h2 : OwnInts w6 w5.heap.size At (g.first + (k + 1)) ct (fun j => (g.pos j : Int)))
    (h3 : w6.ownsRow w5.heap.size 59 2 (.slice Aa (g.cnt k) ca) (g.cnt k) (flat2 (fun j => two (.int .i64 (g.cx g.X k j)) (.int .i64 (g.cx g.Y k j))) (g.cnt k)))
    (h4 : GBox w6 bh (.int .i64 g.ins) (.slice none 0 0) (.slice Aa (g.cnt k) ca) (.slice none 0 0)) (hbh : bh < w5.heap.size) (hx : g.need (g.first + k) = true)
    (hk : Only (blockOf Aa) (w6.alloc o) w7)
    (ho : w7.ownsRow w5.heap.size 59 2 (.slice Aa' (g.cnt k + 1) ca') (g.cnt k + 1) (flat2 (fun j => two (.int .i64 (g.cx g.X k j)) (.int .i64 (g.cx g.Y k j))) (g.cnt k) ++ [.int .i64 x, .int .i64 y]))
    (ex : x = g.mv (g.X k)) (ey : y = g.mv (g.Y k)) :
    CAt g w5 (w7.setCell ⟨bh, 2, none⟩ (.slice Aa' (g.cnt k + 1) ca')) bh (k + 1) At ct Aa' ca' := by
  have hba := own_base h3
  have hb2 := own_base h2
  have hb3 := own_base ho
  have o7 := (h1.alloc o).grew hk hba
  have t7 := own_only (World.ownsRow.alloc h2 o) hk (own_apart h2 h3 (by decide))
  have b7 : GBox w7 bh (.int .i64 g.ins) (.slice none 0 0) (.slice Aa (g.cnt k) ca) (.slice none 0 0) := Arr.only (Arr.alloc h4 o) hk (fun c => by have := hba _ c; omega)
  have os := (Only.refl (fun j => j = bh) w7).setCell (p := ⟨bh, 2, none⟩) (fun _ => rfl) (.slice Aa' (g.cnt k + 1) ca')
  have e : flat2 (fun j => two (.int .i64 (g.cx g.X (k + 1) j)) (.int .i64 (g.cx g.Y (k + 1) j))) (g.cnt k + 1) = flat2 (fun j => two (.int .i64 (g.cx g.X k j)) (.int .i64 (g.cx g.Y k j))) (g.cnt k) ++ [.int .i64 x, .int .i64 y] := by
    simp only [flat2]
    congr 1
    · refine flat2_congr _ fun j hj i hi => ?_
      rw [G.cx_lo g _ hj, G.cx_lo g _ hj]
    · rw [G.cx_yes g _ hx, G.cx_yes g _ hx, ex, ey]; rfl
  refine ⟨o7.trans os, own_only t7 os (fun b c => by have := hb2 b c; omega), ?_, ?_⟩
  · rw [G.cnt_yes g hx, e]
    exact own_only ho os (fun b c => by have := hb3 b c; omega)
  · rw [G.cnt_yes g hx]
    exact b7.put2 _

/-- where CleanGraph stands among the latches, among the outputs -/
structure LAt (g : G) (w6 wr : World) (bh : Nat) (v2 v3 : Value) (k : Nat) (Al : Option Addr) (cl : Nat) : Prop where
  only : Only (fun j => j = bh) w6 wr
  row : wr.ownsRow w6.heap.size 68 2 (.slice Al k cl) k (flat2 (fun j => two (.int .i64 (g.mv (g.L j))) (.bool (g.I j))) k)
  box : GBox wr bh (.int .i64 g.ins) (.slice Al k cl) v2 v3
structure OAt (g : G) (w6 wr : World) (bh : Nat) (v1 v2 : Value) (k : Nat) (Ao : Option Addr) (co : Nat) : Prop where
  only : Only (fun j => j = bh) w6 wr
  row : OwnInts wr w6.heap.size Ao k co (fun j => g.mv (g.O j))
  box : GBox wr bh (.int .i64 g.ins) v1 v2 (.slice Ao k co)
theorem LAt.push {g : G} {w6 wr w7 : World} {bh k cl cl' : Nat} {v2 v3 : Value} {Al Al' : Option Addr} {o : Obj} {x : Int} (h : LAt g w6 wr bh v2 v3 k Al cl) (hbh : bh < w6.heap.size) (hk : Only (blockOf Al) (wr.alloc o) w7)
    (ho : w7.ownsRow w6.heap.size 68 2 (.slice Al' (k + 1) cl') (k + 1) (flat2 (fun j => two (.int .i64 (g.mv (g.L j))) (.bool (g.I j))) k ++ [.int .i64 x, .bool (g.I k)])) (ex : x = g.mv (g.L k)) :
    LAt g w6 (w7.setCell ⟨bh, 1, none⟩ (.slice Al' (k + 1) cl')) bh v2 v3 (k + 1) Al' cl' := by
  have hba := own_base h.row
  have hb3 := own_base ho
  have os := (Only.refl (fun j => j = bh) w7).setCell (p := ⟨bh, 1, none⟩) (fun _ => rfl) (.slice Al' (k + 1) cl')
  subst ex
  exact ⟨((h.only.alloc o).grew hk hba).trans os, own_only ho os (fun b c => by have := hb3 b c; omega),
    GBox.put1 (v1 := .slice Al k cl) (Arr.only (Arr.alloc h.box o) hk (fun c => by have := hba _ c; omega)) _⟩
theorem OAt.push {g : G} {w6 wr w7 : World} {bh k co co' : Nat} {v1 v2 : Value} {Ao Ao' : Option Addr} {o : Obj} {x : Int} (h : OAt g w6 wr bh v1 v2 k Ao co) (hbh : bh < w6.heap.size) (hk : Only (blockOf Ao) (wr.alloc o) w7)
    (ho : w7.ownsRow w6.heap.size 3 1 (.slice Ao' (k + 1) co') (k + 1) (((List.range k).map fun j => .int .i64 (g.mv (g.O j))) ++ [.int .i64 x])) (ex : x = g.mv (g.O k)) :
    OAt g w6 (w7.setCell ⟨bh, 3, none⟩ (.slice Ao' (k + 1) co')) bh v1 v2 (k + 1) Ao' co' := by
  have hba := own_base h.row
  have hb3 := own_base ho
  have os := (Only.refl (fun j => j = bh) w7).setCell (p := ⟨bh, 3, none⟩) (fun _ => rfl) (.slice Ao' (k + 1) co')
  exact ⟨((h.only.alloc o).grew hk hba).trans os, own_only (OwnInts.push ho (fun _ _ => rfl) ex.symm) os (fun b c => by have := hb3 b c; omega),
    GBox.put3 (v3 := .slice Ao k co) (Arr.only (Arr.alloc h.box o) hk (fun c => by have := hba _ c; omega)) _⟩

theorem RowT.at1 {p : Nat → Prop} {w : World} {e : TypeId} {A : Option Addr} {n k : Nat} {X : Nat → Int} (h : RowT p w e 1 A n (fun j _ => .int .i64 (X j))) (hk : k < n) :
    ∃ b off, A = some ⟨b, off, none⟩ ∧ p b ∧ w.cell? ⟨b, off + k, none⟩ = some (.int .i64 (X k)) := by
  obtain ⟨b, off, cur, e, hp, hh, hc⟩ := h (by omega)
  refine ⟨b, off, e, hp, ?_⟩
  rw [cell_of_row w b _ cur _ _ hh]
  simpa using hc k hk 0 (by omega)

theorem G.mv_eq (g : G) {l p : Int} (hp : (g.pos (l / 2).toNat : Int) = p) (h0 : 0 ≤ l) : 2 * p + l % 2 = g.mv l := by
  unfold G.mv
  rw [← hp, show (l / 2).toNat = l.toNat / 2 by omega]

theorem halfs {x : Int} (h0 : 0 ≤ x) (h1 : x ≤ 9223372036854775807) : IntKind.i64.wrap (x.tdiv 2) = x / 2 ∧ IntKind.i64.wrap (x.tmod 2) = x % 2 ∧ x.tmod 2 = x % 2 := by
  have e := Int.tmod_eq_emod_of_nonneg (b := 2) h0
  refine ⟨IntWalk.i64_quo _ _ (by omega), by rw [e]; exact IntWalk.i64_in _ (by omega), e⟩

set_option maxHeartbeats 20000000 in
set_option maxRecDepth 100000 in
theorem cleanRef_any (g : G) (A1 A2 A3 : Option Addr) (c1 c2 c3 : Nat) (w : World) (hg : g.At w A1 A2 A3) (hv : g.Valid) :
    Calls Try.prog 44 #[.agg #[.int .i64 g.ins, .slice A1 g.n1 c1, .slice A2 g.n2 c2, .slice A3 g.n3 c3]] w (MadeG g.clean w) := by
  have v1 := hv.i0; have v2 := hv.i1; have v3 := hv.n; have v4 := hv.n1; have v5 := hv.n3
  obtain ⟨hf, hn⟩ := hv.nums
  obtain ⟨nv, hnv⟩ : ∃ nv : Nat, nv = g.first + g.n2 := ⟨_, rfl⟩
  have hnvi : (nv : Int) = 1 + g.ins + g.n1 + g.n2 := by omega
  have HNV := Lib.hid hnv; have HNVI := Lib.hid hnvi; have HF := Lib.hid hf
  have hnv6 : nv ≤ 60000 := by omega
  have hfn : g.first + g.n2 ≤ 60000 := hn
  clear hnv hnvi hf hn
  go_enter Try.func44, Try.ntmps44
  go_upto_region 1 with (fail)
  have hbel : Below w.heap.size w ((w.alloc (.cells #[.int .i64 g.ins, .slice A1 g.n1 c1, .slice A2 g.n2 c2, .slice A3 g.n3 c3] 26)).alloc (.cells #[.int .i64 0, .slice none 0 0, .slice none 0 0, .slice none 0 0] 26)) := ((Below.refl _ _).alloc (Nat.le_refl _) _).alloc (by simp) _
  have hbx := (BoxAt.new w [.int .i64 g.ins, .slice A1 g.n1 c1, .slice A2 g.n2 c2, .slice A3 g.n3 c3] 26).keeps (Keeps.alloc _ (.cells #[.int .i64 0, .slice none 0 0, .slice none 0 0, .slice none 0 0] 26))
  have hrs := GBox.new (w.alloc (.cells #[.int .i64 g.ins, .slice A1 g.n1 c1, .slice A2 g.n2 c2, .slice A3 g.n3 c3] 26)) (.int .i64 0) (.slice none 0 0) (.slice none 0 0) (.slice none 0 0)
  rw [show (w.alloc (.cells #[.int .i64 g.ins, .slice A1 g.n1 c1, .slice A2 g.n2 c2, .slice A3 g.n3 c3] 26)).heap.size = w.heap.size + 1 by simp] at hrs
  have hsz : ((w.alloc (.cells #[.int .i64 g.ins, .slice A1 g.n1 c1, .slice A2 g.n2 c2, .slice A3 g.n3 c3] 26)).alloc (.cells #[.int .i64 0, .slice none 0 0, .slice none 0 0, .slice none 0 0] 26)).heap.size = w.heap.size + 2 := by simp
  generalize ((w.alloc (.cells #[.int .i64 g.ins, .slice A1 g.n1 c1, .slice A2 g.n2 c2, .slice A3 g.n3 c3] 26)).alloc (.cells #[.int .i64 0, .slice none 0 0, .slice none 0 0, .slice none 0 0] 26)) = w1 at *
  have HB1 := Lib.hid hbel; clear hbel
  obtain ⟨g0, g1, g2, g3⟩ := hbx.four
  have e1 : IntKind.i64.wrap (1 + g.ins + (g.n1 : Int)) = g.first := by rw [HF.out]; exact IntWalk.i64_in _ (by omega)
  go_wp2_with fail
  refine (vars_any _ _ _ _ _ _ _ _ _ _ _ (by omega) (by omega) (by omega) (by omega)).mono ?_
  rw [← HNVI.out]
  rintro e w2 ⟨rfl, hb2⟩
  have HB2 := Lib.hid (Below.then_call HB1.out hb2 (by omega))
  have hbx2 := hbx.keeps (Keeps.of_below hb2)
  have hrs2 : GBox w2 (w.heap.size + 1) (.int .i64 0) (.slice none 0 0) (.slice none 0 0) (.slice none 0 0) := Arr.below hrs hb2
  have hs2 := hb2.size
  clear hb2 hrs hbx g0 g1 g2 g3 e1
  have hmk := fun W => run_mk Try.underlying31 zeroB .i64 .i64 (nv : Int) nv (by omega) (by omega) (by omega) (by omega) W
  simp only [Int.toNat_natCast, Value.cells, Nat.mul_one] at hmk
  go_upto_region 3 with (fail)
  clear hmk
  have hbA : Below w2.heap.size w2 (w2.alloc (.cells (madeCells #[.bool false] nv) 4)) := (Below.refl _ _).alloc (Nat.le_refl _) _
  have harr : Arr (w2.alloc (.cells (madeCells #[.bool false] nv) 4)) w2.heap.size 4 nv (fun j => .bool (g.needO 0 j)) := Arr.made w2 (.bool false) nv 4
  have hsA : (w2.alloc (.cells (madeCells #[.bool false] nv) 4)).heap.size = w2.heap.size + 1 := by simp
  generalize w2.alloc (.cells (madeCells #[.bool false] nv) 4) = w3 at *
  have HB3 := Lib.hid (Below.then_call HB2.out hbA (by omega))
  have hbx3 := hbx2.keeps (Keeps.of_below hbA)
  have hrs3 : GBox w3 (w.heap.size + 1) (.int .i64 0) (.slice none 0 0) (.slice none 0 0) (.slice none 0 0) := Arr.below hrs2 hbA
  clear hbA hbx2 hrs2 HB2
  generalize w2.heap.size = bn at *
  go_wp2_with fail
  go_loopw [5] (fun i wr => ∃ k : Nat, k ≤ g.n3 ∧ i = .int .i64 k ∧ Only (fun j => j = bn) w3 wr ∧ Arr wr bn 4 nv (fun j => .bool (g.needO k j))) (fun i _ => g.n3 - (intOf i).toNat)
  case atStart => exact ⟨0, by omega, rfl, Only.refl _ _, harr⟩
  case round =>
    clear harr
    obtain ⟨k, hk, rfl, HO, HA⟩ := hrel
    have HBr := Lib.hid (HB3.out.trans (HO.below (B := w.heap.size) (fun j _ c => by omega) (by omega)))
    have hbxr := HO.box hbx3 (by omega)
    obtain ⟨g0, g1, g2, g3⟩ := hbxr.four
    by_cases hlt : k < g.n3
    · obtain ⟨b1, o1, rfl, x0⟩ := (hg.outs.keeps (Keeps.of_below HBr.out)).at_ hlt
      have hok := hv.outs k hlt
      unfold G.LitOk at hok
      have h0 : 0 ≤ g.O k := hok.1
      have h1 : g.O k / 2 < nv := by have := HNVI.out; omega
      have h2 : 0 ≤ g.O k / 2 := by omega
      have hca := HA.cell (k := (g.O k / 2).toNat) (by omega)
      have hfa := HA.thaw (g.O k / 2).toNat
      go_wp2_with fail
      refine ⟨⟨k + 1, by omega, by go_num, HO.setCell (p := ⟨bn, (g.O k / 2).toNat, none⟩) (fun _ => rfl) _, HA.mark h0⟩, by simp [intOf]; omega⟩
    · obtain rfl : k = g.n3 := by omega
      have HA' : Arr wr bn 4 nv (fun j => .bool (g.needL 0 j)) := HA
      clear HA
      go_wp2_with fail
      clear g0 g1 g2 g3
      go_loopw [6] (fun i wr => ∃ k : Nat, k ≤ g.n1 ∧ i = .int .i64 k ∧ Only (fun j => j = bn) w3 wr ∧ Arr wr bn 4 nv (fun j => .bool (g.needL k j))) (fun i _ => g.n1 - (intOf i).toNat)
      case atStart => exact ⟨0, by omega, rfl, HO, HA'⟩
      case round =>
        clear HA' HO HBr hbxr
        obtain ⟨k, hk, rfl, HO, HA⟩ := hrel
        have HBr := Lib.hid (HB3.out.trans (HO.below (B := w.heap.size) (fun j _ c => by omega) (by omega)))
        have hbxr := HO.box hbx3 (by omega)
        obtain ⟨g0, g1, g2, g3⟩ := hbxr.four
        by_cases hlt : k < g.n1
        · obtain ⟨b1, o1, rfl, x0, x1⟩ := (hg.lat.keeps (Keeps.of_below HBr.out)).at2 hlt
          simp only [two] at x0 x1
          have hok := hv.lat k hlt
          unfold G.LitOk at hok
          have h0 : 0 ≤ g.L k := hok.1
          have h1 : g.L k / 2 < nv := by have := HNVI.out; omega
          have h2 : 0 ≤ g.L k / 2 := by omega
          have hca := HA.cell (k := (g.L k / 2).toNat) (by omega)
          have hfa := HA.thaw (g.L k / 2).toNat
          go_wp2_with fail
          refine ⟨⟨k + 1, by omega, by go_num, HO.setCell (p := ⟨bn, (g.L k / 2).toNat, none⟩) (fun _ => rfl) _, HA.mark h0⟩, by simp [intOf]; omega⟩
        · obtain rfl : k = g.n1 := by omega
          have HA' : Arr wr bn 4 nv (fun j => .bool (g.needA 0 j)) := HA
          clear HA
          go_wp2_with fail
          clear g0 g1 g2 g3
          go_loopw [7] (fun i wr => ∃ k : Nat, k ≤ g.n2 ∧ i = .int .i64 ((g.n2 : Int) - 1 - k) ∧ Only (fun j => j = bn) w3 wr ∧ Arr wr bn 4 nv (fun j => .bool (g.needA k j))) (fun i _ => (intOf i + 1).toNat)
          case atStart => exact ⟨0, by omega, congrArg (Value.int .i64) (by omega), HO, HA'⟩
          case round =>
            clear HA' HO HBr hbxr
            obtain ⟨k, hk, rfl, HO, HA⟩ := hrel
            have HBr := Lib.hid (HB3.out.trans (HO.below (B := w.heap.size) (fun j _ c => by omega) (by omega)))
            have hbxr := HO.box hbx3 (by omega)
            obtain ⟨g0, g1, g2, g3⟩ := hbxr.four
            by_cases hlt : k < g.n2
            · rw [show (g.n2 : Int) - 1 - k = ((g.n2 - 1 - k : Nat) : Int) by omega]
              obtain ⟨m, hm⟩ : ∃ m, m = g.n2 - 1 - k := ⟨_, rfl⟩
              have HM := Lib.hid hm
              rw [← hm]
              have hm2 : m < g.n2 := by omega
              clear hm
              have e2 : 0 ≤ (g.first : Int) + m := by omega
              have e3 : ((g.first : Int) + m).toNat = g.first + m := by omega
              have hfm : g.first + m < nv := by have := HNV.out; omega
              have e4 : (g.first : Int) + m < nv := by omega
              have e1 : IntKind.i64.wrap ((g.first : Int) + m) = (g.first : Int) + m := IntWalk.i64_in _ (by omega)
              have hcn := HA.cell hfm
              cases hx : g.needA k (g.first + m)
              · rw [hx] at hcn
                have HA2 : Arr wr bn 4 nv (fun j => .bool (g.needA (k + 1) j)) := HA.congr (fun j _ => by simp only [G.needA, ← HM.out, hx]; rfl)
                go_wp2_with fail
                refine ⟨⟨k + 1, by omega, congrArg (Value.int .i64) (by have := HM.out; omega), HO, HA2⟩, by have := HM.out; simp [intOf]; try omega⟩
              · rw [hx] at hcn
                obtain ⟨b1, o1, rfl, x0, x1⟩ := (hg.ands.keeps (Keeps.of_below HBr.out)).at2 hm2
                simp only [two] at x0 x1
                have hok := hv.ands m hm2
                unfold G.AndOk at hok
                have h0 : 0 ≤ g.X m := hok.1.1
                have h1 : g.X m / 2 < nv := by have := HNVI.out; omega
                have h2 : 0 ≤ g.X m / 2 := by omega
                have hca := HA.cell (k := (g.X m / 2).toNat) (by omega)
                have hfa := HA.thaw (g.X m / 2).toNat
                go_upto_region 16 with (fail)
                have HO1 := HO.setCell (p := ⟨bn, (g.X m / 2).toNat, none⟩) (fun _ => rfl) (.bool true)
                have HA1 := HA.mark h0
                generalize wr.setCell ⟨bn, (g.X m / 2).toNat, none⟩ (.bool true) = ws at *
                clear HA HO hca hfa hcn x0 x1 g0 g1 g2 g3 h1 h2 h0 HBr hbxr
                have HBr := Lib.hid (HB3.out.trans (HO1.below (B := w.heap.size) (fun j _ c => by omega) (by omega)))
                have hbxr := HO1.box hbx3 (by omega)
                obtain ⟨g0, g1, g2, g3⟩ := hbxr.four
                obtain ⟨b1', o1', hAe, x0, x1⟩ := (hg.ands.keeps (Keeps.of_below HBr.out)).at2 hm2
                obtain ⟨rfl, rfl⟩ : b1 = b1' ∧ o1 = o1' := by simpa using hAe
                clear hAe
                simp only [two] at x0 x1
                have h0 : 0 ≤ g.Y m := hok.2.1
                have h1 : g.Y m / 2 < nv := by have := HNVI.out; omega
                have h2 : 0 ≤ g.Y m / 2 := by omega
                have hca := HA1.cell (k := (g.Y m / 2).toNat) (by omega)
                have hfa := HA1.thaw (g.Y m / 2).toNat
                have HA2 : Arr (ws.setCell ⟨bn, (g.Y m / 2).toNat, none⟩ (.bool true)) bn 4 nv (fun j => .bool (g.needA (k + 1) j)) := (HA1.mark h0).congr (fun j _ => by simp only [G.needA, ← HM.out, hx]; rfl)
                go_wp2_with fail
                refine ⟨⟨k + 1, by omega, congrArg (Value.int .i64) (by have := HM.out; omega), HO1.setCell (p := ⟨bn, (g.Y m / 2).toNat, none⟩) (fun _ => rfl) _, HA2⟩, by have := HM.out; simp [intOf]; try omega⟩
            · obtain rfl : k = g.n2 := by omega
              rw [show (g.n2 : Int) - 1 - g.n2 = -1 by omega]
              have hrs4 := Arr.only hrs3 HO (by omega)
              have hsz4 := HO.size
              go_upto_region 18 with (fail)
              have hbH : Below wr.heap.size wr (wr.alloc (.cells #[.int .i64 g.ins, .slice none 0 0, .slice none 0 0, .slice none 0 0] 26)) := (Below.refl _ _).alloc (Nat.le_refl _) _
              have hh : GBox (wr.alloc (.cells #[.int .i64 g.ins, .slice none 0 0, .slice none 0 0, .slice none 0 0] 26)) wr.heap.size (.int .i64 g.ins) (.slice none 0 0) (.slice none 0 0) (.slice none 0 0) := GBox.new _ _ _ _ _
              have hs5 : (wr.alloc (.cells #[.int .i64 g.ins, .slice none 0 0, .slice none 0 0, .slice none 0 0] 26)).heap.size = wr.heap.size + 1 := by simp
              generalize wr.alloc (.cells #[.int .i64 g.ins, .slice none 0 0, .slice none 0 0, .slice none 0 0] 26) = w5 at *
              have HB5 := Lib.hid (Below.then_call HBr.out hbH (by omega))
              have hbx5 := hbxr.keeps (Keeps.of_below hbH)
              have hrs5 : GBox w5 (w.heap.size + 1) (.int .i64 0) (.slice none 0 0) (.slice none 0 0) (.slice none 0 0) := Arr.below hrs4 hbH
              have hn5 : Arr w5 bn 4 nv (fun j => .bool (g.need j)) := Arr.below HA hbH
              clear hbH hrs4 HA HO HBr hbxr g0 g1 g2 g3 hrs3 hbx3 HB3
              generalize wr.heap.size = bh at *
              have hbn : bn < bh := by omega
              go_wp2_with fail
              go_loopw [9, 10] (fun v i wi => ∃ (m : Nat) (A : Option Addr) (c : Nat), m ≤ g.first ∧ i = .int .i64 m ∧ v = .slice A m c ∧ GrowI w5 A m c (fun j => (g.pos j : Int)) wi) (fun _ i _ => g.first - (intOf i).toNat)
              case atStart => exact ⟨0, _, _, by omega, rfl, rfl, GrowI.start _ _⟩
              case round =>
                obtain ⟨m, Av, cv, hm, rfl, rfl, HG⟩ := hrel
                have hszg := HG.size
                by_cases hlt : m < g.first
                · go_wp2_with (at_builtin; refine wp_append rfl (.tmp 99) (.tmp 101) _ rfl elInt w5.heap.size Av m cv _ rfl (Grow.alloc HG _).own _ 1 1 [.int .i64 m] rfl (src_new _ _ _ rfl) (by omega) (sz_alloc HG.size) ?_; intro A' c' w6 ho hk' hb')
                  go_roundw
                  case rel => exact ⟨m + 1, A', c', by omega, by go_num, rfl, GrowI.push (Grow.alloc HG _) ho hk' (fun _ _ => rfl) (by unfold G.pos; rw [if_pos hlt])⟩
                  case measure => simp [intOf]; omega
                · obtain rfl : m = g.first := by omega
                  have H0 : CAt g w5 wr bh 0 Av cv none 0 := ⟨(Only.of_below HG.bel).mono (fun k hk c => absurd c (by omega)), GrowI.own HG, World.ownsRow_nil _ _ _ _, Arr.below hh HG.bel⟩
                  clear HG
                  go_wp2_with fail
                  go_loopw [9, 11] (fun v i wi => ∃ (k : Nat) (At : Option Addr) (ct : Nat) (Aa : Option Addr) (ca : Nat), k ≤ g.n2 ∧ i = .int .i64 k ∧ v = .slice At (g.first + k) ct ∧ CAt g w5 wi bh k At ct Aa ca) (fun _ i _ => g.n2 - (intOf i).toNat)
                  case atStart => exact ⟨0, _, _, _, _, by omega, rfl, rfl, H0⟩
                  case round =>
                    clear H0
                    obtain ⟨k, At, ct, Aa, ca, hk, rfl, rfl, H⟩ := hrel
                    have HBr := Lib.hid (HB5.out.trans (H.only.below (B := w.heap.size) (fun j _ c => by omega) (by omega)))
                    have hbxr := H.only.box hbx5 (by omega)
                    have hnr := hn5.only H.only (by omega)
                    have hszr := H.only.size
                    obtain ⟨g0, g1, g2, g3⟩ := hbxr.four
                    obtain ⟨p0, p1, p2, p3⟩ := H.box.at_
                    have hck := g.cnt_le k
                    by_cases hlt : k < g.n2
                    · have e1 : IntKind.i64.wrap ((g.first : Int) + (g.cnt k : Int)) = ((g.first + g.cnt k : Nat) : Int) := by rw [IntWalk.i64_in _ (by omega)]; omega
                      have hbt := own_base H.tos
                      have hap := own_apart H.ands H.tos (by decide)
                      go_upto_region 27 with (at_builtin; refine wp_append rfl (.tmp 110) (.tmp 116) _ rfl elInt w5.heap.size At (g.first + k) ct _ rfl (World.ownsRow.alloc H.tos _) _ 1 1 [.int .i64 ((g.first + g.cnt k : Nat) : Int)] rfl (src_new _ _ _ rfl) (by omega) (sz_alloc hszr) ?_; intro At' ct' w6 ho hk' hb')
                      have H6only := (H.only.alloc (.cells #[.int .i64 ((g.first + g.cnt k : Nat) : Int)] 3)).grew hk' hbt
                      have H6to : OwnInts w6 w5.heap.size At' (g.first + (k + 1)) ct' (fun j => (g.pos j : Int)) := OwnInts.push ho (fun _ _ => rfl) (by show (g.pos (g.first + k) : Int) = _; rw [G.pos_gate])
                      have H6ands := own_only (World.ownsRow.alloc H.ands (.cells #[.int .i64 ((g.first + g.cnt k : Nat) : Int)] 3)) hk' hap
                      have H6box : GBox w6 bh (.int .i64 g.ins) (.slice none 0 0) (.slice Aa (g.cnt k) ca) (.slice none 0 0) := Arr.only (Arr.alloc H.box _) hk' (fun c => by have := hbt _ c; omega)
                      clear ho hk' hb' hbt hap H HBr hbxr hnr hszr g0 g1 g2 g3 p0 p1 p2 p3 e1
                      have HBr := Lib.hid (HB5.out.trans (H6only.below (B := w.heap.size) (fun j _ c => by omega) (by omega)))
                      have hbxr := H6only.box hbx5 (by omega)
                      have hnr := hn5.only H6only (by omega)
                      have hszr := H6only.size
                      obtain ⟨g0, g1, g2, g3⟩ := hbxr.four
                      obtain ⟨p0, p1, p2, p3⟩ := H6box.at_
                      have e2 : 0 ≤ (g.first : Int) + k := by omega
                      have e3 : ((g.first : Int) + k).toNat = g.first + k := by omega
                      have hfm : g.first + k < nv := by have := HNV.out; omega
                      have e4 : (g.first : Int) + k < nv := by omega
                      have e1 : IntKind.i64.wrap ((g.first : Int) + k) = (g.first : Int) + k := IntWalk.i64_in _ (by omega)
                      have hcn := hnr.cell hfm
                      cases hx : g.need (g.first + k)
                      · rw [hx] at hcn
                        have H7 : CAt g w5 w6 bh (k + 1) At' ct' Aa ca := ⟨H6only, H6to, by rw [G.cnt_no g hx, G.cx_no g _ hx, G.cx_no g _ hx]; exact H6ands, by rw [G.cnt_no g hx]; exact H6box⟩
                        go_wp2_with fail
                        refine ⟨⟨k + 1, At', ct', Aa, ca, by omega, by go_num, rfl, H7⟩, by simp [intOf]; omega⟩
                      · rw [hx] at hcn
                        obtain ⟨b1, o1, rfl, x0, x1⟩ := (hg.ands.keeps (Keeps.of_below HBr.out)).at2 hlt
                        simp only [two] at x0 x1
                        have hok := hv.ands k hlt
                        unfold G.AndOk at hok
                        have hlo := hv.lo hlt
                        go_upto_region 30 with (fail)
                        clear x0 x1 e1 e2 e3 e4 hcn g0 g1 g2 g3
                        -- [[gate
                        obtain ⟨bt, ot, hAt, z0, z1⟩ := Row1.pair (ints_of_rowT (rowT_of_ints H6to)) (k := (g.X k / 2).toNat) (m := (g.Y k / 2).toNat) (by omega) (by omega)
                        subst hAt
                        have hP := g.pos_le (g.X k / 2).toNat
                        have hQ := g.pos_le (g.Y k / 2).toNat
                        have HMX : Hid (2 * (g.pos (g.X k / 2).toNat : Int) + g.X k % 2 = g.mv (g.X k)) := G.mv_eq g rfl hok.1.1
                        have HMY : Hid (2 * (g.pos (g.Y k / 2).toNat : Int) + g.Y k % 2 = g.mv (g.Y k)) := G.mv_eq g rfl hok.2.1
                        generalize g.pos (g.X k / 2).toNat = P at *
                        generalize g.pos (g.Y k / 2).toNat = Q at *
                        generalize hN : g.first + k + 1 = N
                        have y1 : 0 ≤ g.X k / 2 := by omega
                        have y2 : g.X k / 2 < (N : Int) := by omega
                        have y3 : 0 ≤ g.Y k / 2 := by omega
                        have y4 : g.Y k / 2 < (N : Int) := by omega
                        have HNN := Lib.hid hN; clear hN
                        have y5 : 0 ≤ g.X k := by omega
                        have y6 : 0 ≤ g.Y k := by omega
                        have e1 : IntKind.i64.wrap (2 * (P : Int)) = 2 * (P : Int) := IntWalk.i64_in _ (by omega)
                        have e2 : IntKind.i64.wrap (2 * (Q : Int)) = 2 * (Q : Int) := IntWalk.i64_in _ (by omega)
                        have e3 : IntKind.i64.wrap (2 * (P : Int) + g.X k % 2) = 2 * (P : Int) + g.X k % 2 := IntWalk.i64_in _ (by omega)
                        have e4 : IntKind.i64.wrap (2 * (Q : Int) + g.Y k % 2) = 2 * (Q : Int) + g.Y k % 2 := IntWalk.i64_in _ (by omega)
                        have r1 := halfs hok.1.1 (by omega)
                        have r2 := halfs hok.2.1 (by omega)
                        obtain ⟨r3, r4, r5⟩ := r1
                        obtain ⟨r6, r7, r8⟩ := r2
                        have hap2 := own_apart H6to H6ands (by decide)
                        have hne : bt ≠ bh := by have := own_base H6to bt ⟨_, rfl, rfl⟩; omega
                        have hba := own_base H6ands
                        have HCB := Lib.hid (show (g.cnt k + 1) * 16 ≤ 140737488355328 by omega)
                        have p2a := Keeps.alloc w6 (.cells #[.int .i64 (2 * (P : Int) + g.X k % 2), .int .i64 (2 * (Q : Int) + g.Y k % 2)] 59) _ _ p2
                        refine wp_region_z (fun w' => w'.cell? ⟨bh, 2, none⟩ = some (.slice Aa (g.cnt k) ca) ∧ w'.cell? ⟨bt, ot + (g.X k / 2).toNat, none⟩ = some (.int .i64 (P : Int)) ∧ w'.cell? ⟨bt, ot + (g.Y k / 2).toNat, none⟩ = some (.int .i64 (Q : Int))) [0, 1, 2, 3, 4, 5, 6, 7, 8, 9, 10, 11, 12, 13, 14, 15, 16, 17, 18, 19, 20] [22, 23, 24] (by kernel_rfl) (by kernel_rfl) (by kernel_rfl) (by rfl) (fun _ _ _ _ e h => ⟨e.symm.trans h.1, h.2⟩) ⟨p2, z0, z1⟩ ?_
                        iterate 21
                          refine Heads.step (v := ?_) rfl (by rfl) (fun W hW => ?_) ?_
                          rotate_left
                          · (obtain ⟨s0, s1, s2⟩ := hW; go_simp; try with_reducible rfl)
                        refine AnyZ.one (i := 21) (by kernel_rfl) rfl (fun K hK => ?_)
                        go_simp
                        refine hK _ _ (fun _ => ⟨p2a, Keeps.alloc _ _ _ _ z0, Keeps.alloc _ _ _ _ z1⟩) ?_
                        clear hK
                        refine AnyZ.one (i := 22) (by kernel_rfl) rfl (fun K hK => ?_)
                        refine step_append (by rfl) (.tmp 137) (.tmp 157) _ (by rfl) elPair w5.heap.size Aa (g.cnt k) ca _ (by rfl) ((World.ownsRow.alloc H6ands _).drew) _ 1 1 [.int .i64 (2 * (P : Int) + g.X k % 2), .int .i64 (2 * (Q : Int) + g.Y k % 2)] (by rfl) (Src.drew (src_news w6 #[.int .i64 (2 * (P : Int) + g.X k % 2), .int .i64 (2 * (Q : Int) + g.Y k % 2)] 59 2 1 rfl (by simp [Value.oneCell']))) HCB.out (by simp; omega) ?_
                        intro Aa' ca' w7 ho hk' hb'
                        have hb7 : GBox w7 bh (.int .i64 g.ins) (.slice none 0 0) (.slice Aa (g.cnt k) ca) (.slice none 0 0) := Arr.only (Arr.alloc H6box _) hk'.drawn (fun c => by have := hba _ c; omega)
                        have hf7 : w7.frozen? ⟨bh, 2, none⟩ = false := Arr.thaw hb7 2
                        have p7 : w7.cell? ⟨bh, 2, none⟩ = some (.slice Aa (g.cnt k) ca) := hb7.at_.2.2.1
                        have H8 := CAt.gate H6only H6to H6ands H6box (by omega) hx hk'.drawn ho HMX.out HMY.out
                        refine hK _ _ (fun h => by cases h) ?_
                        clear hK hb7 ho hk' hb'
                        refine AnyZ.one (i := 23) (by kernel_rfl) rfl (fun K hK => ?_)
                        go_simp
                        refine hK _ _ (fun h => by cases h) ?_
                        clear hK
                        refine AnyZ.one (i := 24) (by kernel_rfl) rfl (fun K hK => ?_)
                        go_simp
                        refine hK _ _ (fun h => by cases h) (AnyZ.done (by kernel_rfl) ?_)
                        clear hK
                        go_wp2_with fail
                        refine ⟨⟨k + 1, _, ct', Aa', ca', by omega, by go_num, by rw [← HNN.out]; rfl, H8⟩, by simp [intOf]; omega⟩
                        -- ]]gate
                    · obtain rfl : k = g.n2 := by omega
                      have hto := (rowT_of_ints H.tos).mono (p' := fun b => w5.heap.size ≤ b ∧ b < wr.heap.size) (fun b hlt hb => ⟨hb, hlt⟩)
                      have hands := own_rows2 H.ands
                      have hbx6 : GBox wr bh (.int .i64 g.ins) (.slice none 0 0) (.slice Aa (g.cnt g.n2) ca) (.slice none 0 0) := H.box
                      have hrs6 : GBox wr (w.heap.size + 1) (.int .i64 0) (.slice none 0 0) (.slice none 0 0) (.slice none 0 0) := Arr.only hrs5 H.only (by omega)
                      clear H
                      go_wp2_with fail
                      clear g0 g1 g2 g3 p0 p1 p2 p3
                      obtain ⟨w6, rfl⟩ : ∃ w6 : World, w6 = wr := ⟨_, rfl⟩
                      have hbh6 : bh < w6.heap.size := by omega
                      go_loopw [14] (fun i wi => ∃ (k : Nat) (Al : Option Addr) (cl : Nat), k ≤ g.n1 ∧ i = .int .i64 k ∧ LAt g w6 wi bh (.slice Aa (g.cnt g.n2) ca) (.slice none 0 0) k Al cl) (fun i _ => g.n1 - (intOf i).toNat)
                      case atStart => exact ⟨0, none, 0, by omega, rfl, Only.refl _ _, World.ownsRow_nil _ _ _ _, hbx6⟩
                      case round =>
                        clear hbx6
                        obtain ⟨k, Al, cl, hk, rfl, H⟩ := hrel
                        have HBl := Lib.hid (HBr.out.trans (H.only.below (B := w.heap.size) (fun j _ c => by omega) (by omega)))
                        have hbxl := H.only.box hbxr (by omega)
                        obtain ⟨g0, g1, g2, g3⟩ := hbxl.four
                        obtain ⟨p0, p1, p2, p3⟩ := H.box.at_
                        have htl := hto.only H.only (fun b cur hb _ => by have := hb.1; omega)
                        have hszl := H.only.size
                        by_cases hlt : k < g.n1
                        · obtain ⟨b1, o1, rfl, x0w, x1w⟩ := hg.lat.at2 hlt
                          have hb1 := World.block_lt_of_cell? w _ x1w
                          have x0 := Keeps.of_below HBl.out _ _ x0w
                          have x1 := Keeps.of_below HBl.out _ _ x1w
                          simp only [two] at x0 x1
                          clear x0w x1w
                          have hok := hv.lat k hlt
                          have hlit := hv.lit hok
                          unfold G.LitOk at hok
                          go_upto_region 35 with (fail)
                          -- [[lat
                          obtain ⟨bt, ot, hAt, hbt, z0⟩ := htl.at1 (k := (g.L k / 2).toNat) (by omega)
                          subst hAt
                          have hP := g.pos_le (g.L k / 2).toNat
                          have HMX : Hid (2 * (g.pos (g.L k / 2).toNat : Int) + g.L k % 2 = g.mv (g.L k)) := G.mv_eq g rfl hok.1
                          generalize g.pos (g.L k / 2).toNat = P at *
                          generalize hN : g.first + g.n2 = N
                          have y1 : 0 ≤ g.L k / 2 := by omega
                          have y2 : g.L k / 2 < (N : Int) := by omega
                          have y5 : 0 ≤ g.L k := hok.1
                          have e1 : IntKind.i64.wrap (2 * (P : Int)) = 2 * (P : Int) := IntWalk.i64_in _ (by omega)
                          have e3 : IntKind.i64.wrap (2 * (P : Int) + g.L k % 2) = 2 * (P : Int) + g.L k % 2 := IntWalk.i64_in _ (by omega)
                          obtain ⟨r3, r4, r5⟩ := halfs hok.1 (by omega)
                          have hba := own_base H.row
                          have HCB := Lib.hid (show (k + 1) * 16 ≤ 140737488355328 by omega)
                          have HNN := Lib.hid hN
                          clear hlit hN
                          refine wp_region_z (fun w' => w'.cell? ⟨bh, 1, none⟩ = some (.slice Al k cl) ∧ w'.cell? ⟨bt, ot + (g.L k / 2).toNat, none⟩ = some (.int .i64 (P : Int)) ∧ w'.cell? ⟨w.heap.size, 1, none⟩ = some (.slice (some ⟨b1, o1, none⟩) g.n1 c1) ∧ w'.cell? ⟨b1, o1 + k * 2 + 1, none⟩ = some (.bool (g.I k))) [0, 1, 2, 3, 4, 5, 6, 7, 8, 9, 10, 11, 12, 13, 14, 15, 16, 17] [19, 20, 21] (by kernel_rfl) (by kernel_rfl) (by kernel_rfl) (by rfl) (fun _ _ _ _ e h => ⟨e.symm.trans h.1, h.2⟩) ⟨p1, z0, g1, x1⟩ ?_
                          iterate 18
                            refine Heads.step (v := ?_) rfl (by rfl) (fun W hW => ?_) ?_
                            rotate_left
                            · (obtain ⟨s0, s1, s2, s3⟩ := hW; go_simp; try with_reducible rfl)
                          refine AnyZ.one (i := 18) (by kernel_rfl) rfl (fun K hK => ?_)
                          go_simp
                          refine hK _ _ (fun _ => ⟨Keeps.alloc _ _ _ _ p1, Keeps.alloc _ _ _ _ z0, Keeps.alloc _ _ _ _ g1, Keeps.alloc _ _ _ _ x1⟩) ?_
                          clear hK
                          refine AnyZ.one (i := 19) (by kernel_rfl) rfl (fun K hK => ?_)
                          refine step_append (by rfl) (.tmp 174) (.tmp 191) _ (by rfl) elLatch w6.heap.size Al k cl _ (by rfl) ((World.ownsRow.alloc H.row _).drew) _ 1 1 [.int .i64 (2 * (P : Int) + g.L k % 2), .bool (g.I k)] (by rfl) (Src.drew (src_news wr #[.int .i64 (2 * (P : Int) + g.L k % 2), .bool (g.I k)] 68 2 1 rfl (by simp [Value.oneCell']))) HCB.out (by simp; omega) ?_
                          intro Al' cl' w7 ho hk' hb'
                          have hb7 : GBox w7 bh (.int .i64 g.ins) (.slice Al k cl) (.slice Aa (g.cnt g.n2) ca) (.slice none 0 0) := Arr.only (Arr.alloc H.box _) hk'.drawn (fun c => by have := hba _ c; omega)
                          have hf7 : w7.frozen? ⟨bh, 1, none⟩ = false := Arr.thaw hb7 1
                          have p7 : w7.cell? ⟨bh, 1, none⟩ = some (.slice Al k cl) := hb7.at_.2.1
                          have H8 := LAt.push H (by omega) hk'.drawn ho HMX.out
                          refine hK _ _ (fun h => by cases h) ?_
                          clear hK hb7 ho hk' hb'
                          refine AnyZ.one (i := 20) (by kernel_rfl) rfl (fun K hK => ?_)
                          go_simp
                          refine hK _ _ (fun h => by cases h) ?_
                          clear hK
                          refine AnyZ.one (i := 21) (by kernel_rfl) rfl (fun K hK => ?_)
                          go_simp
                          refine hK _ _ (fun h => by cases h) (AnyZ.done (by kernel_rfl) ?_)
                          clear hK
                          obtain rfl := HNN.out
                          go_wp2_with fail
                          go_roundw
                          case rel => exact ⟨k + 1, Al', cl', by omega, by go_num, H8⟩
                          case measure => simp [intOf]; omega
                          -- ]]lat
                        · obtain rfl : k = g.n1 := by omega
                          have hlat := own_rows2 H.row
                          have hbx7 : GBox wr bh (.int .i64 g.ins) (.slice Al g.n1 cl) (.slice Aa (g.cnt g.n2) ca) (.slice none 0 0) := H.box
                          have hrs7 : GBox wr (w.heap.size + 1) (.int .i64 0) (.slice none 0 0) (.slice none 0 0) (.slice none 0 0) := Arr.only hrs6 H.only (by omega)
                          have hands7 := hands.only H.only (fun b cur hb _ => by omega)
                          have htl7 := htl.mono (p' := fun b => w5.heap.size ≤ b ∧ b < wr.heap.size) (fun b hlt hb => ⟨hb.1, hlt⟩)
                          clear H htl hto hands hrs6
                          go_wp2_with fail
                          clear g0 g1 g2 g3 p0 p1 p2 p3
                          obtain ⟨w7, rfl⟩ : ∃ w7 : World, w7 = wr := ⟨_, rfl⟩
                          go_loopw [16] (fun i wi => ∃ (k : Nat) (Ao : Option Addr) (co : Nat), k ≤ g.n3 ∧ i = .int .i64 k ∧ OAt g w7 wi bh (.slice Al g.n1 cl) (.slice Aa (g.cnt g.n2) ca) k Ao co) (fun i _ => g.n3 - (intOf i).toNat)
                          case atStart => exact ⟨0, none, 0, by omega, rfl, Only.refl _ _, World.ownsRow_nil _ _ _ _, hbx7⟩
                          case round =>
                            clear hbx7
                            obtain ⟨k, Ao, co, hk, rfl, H⟩ := hrel
                            have HBo := Lib.hid (HBl.out.trans (H.only.below (B := w.heap.size) (fun j _ c => by omega) (by omega)))
                            have hbxo := H.only.box hbxl (by omega)
                            obtain ⟨g0, g1, g2, g3⟩ := hbxo.four
                            obtain ⟨p0, p1, p2, p3⟩ := H.box.at_
                            have hto := htl7.only H.only (fun b cur hb _ => by have := hb.1; omega)
                            have hszo := H.only.size
                            by_cases hlt : k < g.n3
                            · obtain ⟨b1, o1, rfl, x0⟩ := (hg.outs.keeps (Keeps.of_below HBo.out)).at_ hlt
                              have hok := hv.outs k hlt
                              have hlit := hv.lit hok
                              unfold G.LitOk at hok
                              go_upto_region 40 with (fail)
                              -- [[outs
                              obtain ⟨bt, ot, hAt, hbt, z0⟩ := hto.at1 (k := (g.O k / 2).toNat) (by omega)
                              subst hAt
                              have hP := g.pos_le (g.O k / 2).toNat
                              have HMX : Hid (2 * (g.pos (g.O k / 2).toNat : Int) + g.O k % 2 = g.mv (g.O k)) := G.mv_eq g rfl hok.1
                              generalize g.pos (g.O k / 2).toNat = P at *
                              generalize hN : g.first + g.n2 = N
                              have y1 : 0 ≤ g.O k / 2 := by omega
                              have y2 : g.O k / 2 < (N : Int) := by omega
                              have y5 : 0 ≤ g.O k := hok.1
                              have e1 : IntKind.i64.wrap (2 * (P : Int)) = 2 * (P : Int) := IntWalk.i64_in _ (by omega)
                              have e3 : IntKind.i64.wrap (2 * (P : Int) + g.O k % 2) = 2 * (P : Int) + g.O k % 2 := IntWalk.i64_in _ (by omega)
                              obtain ⟨r3, r4, r5⟩ := halfs hok.1 (by omega)
                              have hba := own_base H.row
                              have HCB := Lib.hid (show (k + 1) * 8 ≤ 140737488355328 by omega)
                              have HNN := Lib.hid hN
                              clear hlit hN
                              refine wp_region_z (fun w' => w'.cell? ⟨bh, 3, none⟩ = some (.slice Ao k co) ∧ w'.cell? ⟨bt, ot + (g.O k / 2).toNat, none⟩ = some (.int .i64 (P : Int))) [0, 1, 2, 3, 4, 5, 6, 7, 8, 9, 10] [12, 13, 14] (by kernel_rfl) (by kernel_rfl) (by kernel_rfl) (by rfl) (fun _ _ _ _ e h => ⟨e.symm.trans h.1, h.2⟩) ⟨p3, z0⟩ ?_
                              iterate 11
                                refine Heads.step (v := ?_) rfl (by rfl) (fun W hW => ?_) ?_
                                rotate_left
                                · (obtain ⟨s0, s1⟩ := hW; go_simp; try with_reducible rfl)
                              refine AnyZ.one (i := 11) (by kernel_rfl) rfl (fun K hK => ?_)
                              go_simp
                              refine hK _ _ (fun _ => ⟨Keeps.alloc _ _ _ _ p3, Keeps.alloc _ _ _ _ z0⟩) ?_
                              clear hK
                              refine AnyZ.one (i := 12) (by kernel_rfl) rfl (fun K hK => ?_)
                              refine step_append (by rfl) (.tmp 207) (.tmp 217) _ (by rfl) elInt w7.heap.size Ao k co _ (by rfl) ((World.ownsRow.alloc H.row _).drew) _ 1 1 [.int .i64 (2 * (P : Int) + g.O k % 2)] (by rfl) (Src.drew (src_new wr _ _ rfl)) HCB.out (by simp; omega) ?_
                              intro Ao' co' w8 ho hk' hb'
                              have hb7 : GBox w8 bh (.int .i64 g.ins) (.slice Al g.n1 cl) (.slice Aa (g.cnt g.n2) ca) (.slice Ao k co) := Arr.only (Arr.alloc H.box _) hk'.drawn (fun c => by have := hba _ c; omega)
                              have hf7 : w8.frozen? ⟨bh, 3, none⟩ = false := Arr.thaw hb7 3
                              have p7 : w8.cell? ⟨bh, 3, none⟩ = some (.slice Ao k co) := hb7.at_.2.2.2
                              have H8 := OAt.push H (by omega) hk'.drawn ho HMX.out
                              refine hK _ _ (fun h => by cases h) ?_
                              clear hK hb7 ho hk' hb'
                              refine AnyZ.one (i := 13) (by kernel_rfl) rfl (fun K hK => ?_)
                              go_simp
                              refine hK _ _ (fun h => by cases h) ?_
                              clear hK
                              refine AnyZ.one (i := 14) (by kernel_rfl) rfl (fun K hK => ?_)
                              go_simp
                              refine hK _ _ (fun h => by cases h) (AnyZ.done (by kernel_rfl) ?_)
                              clear hK
                              obtain rfl := HNN.out
                              go_wp2_with fail
                              go_roundw
                              case rel => exact ⟨k + 1, Ao', co', by omega, by go_num, H8⟩
                              case measure => simp [intOf]; omega
                              -- ]]outs
                            · obtain rfl : k = g.n3 := by omega
                              have hrs8 : GBox wr (w.heap.size + 1) (.int .i64 0) (.slice none 0 0) (.slice none 0 0) (.slice none 0 0) := Arr.only hrs7 H.only (by omega)
                              obtain ⟨q0, q1, q2, q3⟩ := hrs8.at_
                              have u0 := Arr.thaw hrs8 0
                              have u1 := Arr.thaw hrs8 1
                              have u2 := Arr.thaw hrs8 2
                              have u3 := Arr.thaw hrs8 3
                              go_wp2_with fail
                              have h9 := (((hrs8.put0 (.int .i64 g.ins)).put1 (.slice Al g.n1 cl)).put2 (.slice Aa (g.cnt g.n2) ca)).put3 (.slice Ao g.n3 co)
                              have hO9 := ((((Only.refl (fun j => j = w.heap.size + 1) wr).setCell (p := ⟨w.heap.size + 1, 0, none⟩) (fun _ => rfl) (.int .i64 g.ins)).setCell (p := ⟨w.heap.size + 1, 1, none⟩) (fun _ => rfl) (.slice Al g.n1 cl)).setCell (p := ⟨w.heap.size + 1, 2, none⟩) (fun _ => rfl) (.slice Aa (g.cnt g.n2) ca)).setCell (p := ⟨w.heap.size + 1, 3, none⟩) (fun _ => rfl) (.slice Ao g.n3 co)
                              generalize (((wr.setCell ⟨w.heap.size + 1, 0, none⟩ (.int .i64 g.ins)).setCell ⟨w.heap.size + 1, 1, none⟩ (.slice Al g.n1 cl)).setCell ⟨w.heap.size + 1, 2, none⟩ (.slice Aa (g.cnt g.n2) ca)).setCell ⟨w.heap.size + 1, 3, none⟩ (.slice Ao g.n3 co) = w9 at *
                              obtain ⟨q0, q1, q2, q3⟩ := h9.at_
                              have hB9 := HBo.out.trans (hO9.below (B := w.heap.size) (fun j _ c => by omega) (by omega))
                              have L9 := ((hlat.only H.only (fun b cur hb _ => by omega)).only hO9 (fun b cur hb _ => by omega)).row
                              have A9 := ((hands7.only H.only (fun b cur hb _ => by omega)).only hO9 (fun b cur hb _ => by omega)).row
                              have O9 := ints_of_rowT ((rowT_of_ints H.row).only hO9 (fun b cur hb _ => by omega))
                              refine bodyPost_ret (v := .agg #[.int .i64 g.ins, .slice Al g.n1 cl, .slice Aa (g.cnt g.n2) ca, .slice Ao g.n3 co]) ?_ rfl ?_
                              · simp [results, Try.results44, go_sem, q0, q1, q2, q3]
                              · exact ⟨Al, Aa, Ao, cl, ca, co, rfl, ⟨L9, A9, O9⟩, hB9⟩
end Go.Proofs.Ytdhgbikmaglgpaa
