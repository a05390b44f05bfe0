/- The printer's builder at this program: copyCheck, WriteString, String, put, walked over the library's own text. Conditions: the builder is the call's own; what it holds and what comes in take at most 2^47 bytes. The printer's put, and numbers: strconv.Itoa, FormatUint. Conditions: the builder is the call's own; the table of powers of ten reads as laid; what is held takes at most 2^47 bytes. Numbers as texts: strconv.Itoa, strconv.FormatUint at base 10, walked over the library's own text. Condition: the table of powers of ten reads as laid. The printer's walks: tables, laws for put and for boxes, the functions entered. No condition. -/
import Derived.Test.YtbdcpealkllfnaaDoorShelfQ
import Derived.Test.YtbdcpealkllfnaaDoorPtM
import Derived.Lib.FrozenHead2
import Derived.Shelf.RegionOpen
import Derived.Lib.AppendIntMem
import Derived.Test.YtbdcpealkllfnaaDoorUnx
namespace Go.Proofs.YtbdcpealkllfnaaDoor
open Go.RowKit Go.Deep

theorem bld_size : (Tryd.prog.info? 46).map (·.size) = some 2 := by kernel_rfl
theorem bld_lies : liesAt Tryd.prog Tryd.prog.depth 48 (2 / Tryd.prog.cellsOf 48) 0 46 1 = true := by kernel_rfl
theorem byte_info : (Tryd.prog.info? 5).map (fun i => (i.zero, i.size, i.bytes)) = some (some (.int .u8 0), 1, 1) := by kernel_rfl

set_option maxHeartbeats 1000000 in
set_option maxRecDepth 100000 in
theorem copyCheck_used (b : Nat) (w : World) (h0 : w.cell? ⟨b, 0, none⟩ = some (.pointer (some ⟨b, 0, none⟩))) :
  Calls Tryd.prog 62 #[.pointer (some ⟨b, 0, none⟩)] w fun e w' => e = .returned (.tuple #[]) ∧ w' = w := by
 obtain ⟨j, hj, _⟩ := Option.map_eq_some_iff.1 bld_size
 go_enter Tryd.func62, Tryd.ntmps62
 go_wp2
 rw [Lib.run_neq_ptr_same w _ Tryd.underlying43 hj]
 go_wp2
 go_end0
 exact ⟨rfl, rfl⟩

set_option maxHeartbeats 1000000 in
set_option maxRecDepth 100000 in
theorem copyCheck_fresh (b : Nat) (w : World) (h0 : w.cell? ⟨b, 0, none⟩ = some (.pointer none)) (hsh : w.shape? b = some (48, 2)) (hfz : w.frozen? ⟨b, 0, none⟩ = false) :
  Calls Tryd.prog 62 #[.pointer (some ⟨b, 0, none⟩)] w fun e w' => e = .returned (.tuple #[]) ∧ w' = w.setCell ⟨b, 0, none⟩ (.pointer (some ⟨b, 0, none⟩)) := by
 obtain ⟨j, hj, hjs⟩ := Option.map_eq_some_iff.1 bld_size
 go_enter Tryd.func62, Tryd.ntmps62
 go_wp2
 rw [Lib.run_to_unsafe w ⟨b, 0, none⟩ Tryd.underlying43 Tryd.underlying124 hj (by rw [hjs]; decide) hsh (Nat.zero_lt_succ 1)]
 simp only [Result.andThen]
 rw [Oper.upon_value]
 go_wp2
 rw [run_callFunc_extern Tryd.func73 (by kernel_rfl) (by kernel_rfl) (by kernel_rfl) (e := Extern.AbiNoEscape.same) (by kernel_rfl)]
 rw [Lib.run_noEscape]
 simp only [Result.andThen]
 rw [Oper.upon_value]
 go_wp2
 rw [Lib.run_from_unsafe w ⟨b, 0, none⟩ Tryd.underlying124 Tryd.underlying43 hj hsh bld_lies]
 simp only [Result.andThen]
 rw [Oper.upon_value]
 go_wp2
 go_end0
 exact ⟨rfl, rfl⟩

theorem copyCheck_k (B b : Nat) (bs : List Value) (w : World) (h : Lib.IsBuilderF 48 5 B b bs w) :
  Calls Tryd.prog 62 #[.pointer (some ⟨b, 0, none⟩)] w fun e w' => e = .returned (.tuple #[]) ∧ (Lib.BuilderAtF 48 5 B b (.pointer (some ⟨b, 0, none⟩)) bs w' ∧ Below B w w' ∧ Lib.OthersKept 5 (some b) w w') := by
 rcases h with h | h
 ·
  refine (copyCheck_fresh b w h.cell0 h.shape h.frozen0).mono ?_
  rintro e w' ⟨rfl, rfl⟩
  exact ⟨rfl, h.used _, (Below.refl B w).setCell (p := ⟨b, 0, none⟩) h.1 _, (Lib.OthersKept.refl _ _ w).setCell ⟨b, 0, none⟩ rfl _⟩
 ·
  refine (copyCheck_used b w h.cell0).mono ?_
  rintro e w' ⟨rfl, rfl⟩
  exact ⟨rfl, h, Below.refl B _, Lib.OthersKept.refl _ _ _⟩

/-- what a writer leaves: the builder holds these bytes; what lay below it, and what is no row of bytes, stands -/
structure PS (B b : Nat) (l : LB) (w w' : World) : Prop where
 bld : Lib.IsBuilderF 48 5 B b (Lib.byteCells l) w'
 bel : Below B w w'
 oth : Lib.OthersKept 5 (some b) w w'

set_option maxHeartbeats 2000000 in
set_option maxRecDepth 100000 in
theorem writeString_any (B b : Nat) (l s : LB) (w : World) (h : Lib.IsBuilderF 48 5 B b (Lib.byteCells l) w) (hlen : l.length + s.length ≤ 140737488355328) (hBw : B ≤ w.heap.size) :
  Calls Tryd.prog 39 #[.pointer (some ⟨b, 0, none⟩), .string (bstr s)] w fun e w' => e = .returned (.tuple #[.int .i64 s.length, .nilIface]) ∧ PS B b (l ++ s) w w' := by
 obtain ⟨i0, hi, hz0, hz1, hz2⟩ := info_parts byte_info
 have HBL := Lib.hid (Lib.byteCells_length l)
 have HLE := Lib.hid (show Lib.byteCells (l ++ s) = Lib.byteCells l ++ Lib.strCells (bstr s) from Lib.byteCells_append l s)
 have HSS := Lib.hid (bstr_size s)
 generalize (Lib.byteCells l) = bs at *
 have hlen' : bs.length + (bstr s).size ≤ 140737488355328 := by rw [HBL.out, HSS.out]; exact hlen
 clear hlen
 generalize bstr s = t at *
 go_enter Tryd.func39, Tryd.ntmps39
 go_wp2_with (go_at_call 62; refine (copyCheck_k B b bs _ h).mono ?_)
 rintro e w1 ⟨rfl, h1, hb1, hk1⟩
 obtain ⟨hB, v, hbk, hown, hne⟩ := h1
 have c0 : w1.cell? ⟨b, 0, none⟩ = some (.pointer (some ⟨b, 0, none⟩)) := by rw [Lib.cell_of_heap hbk]; rfl
 have c1 : w1.cell? ⟨b, 1, none⟩ = some v := by rw [Lib.cell_of_heap hbk]; rfl
 go_wp2_with (at_builtin; refine Lib.wpList_append_own_stringF _ rfl _ _ 44 9 rfl B 5 i0 Tryd.underlying44 Tryd.underlying9 hi hz0 hz1 hz2 _ _ _ rfl hown t rfl ?c3 ?c4 ?c5 ?_)
 case c3 => unfold maxLen; omega
 case c4 => omega
 case c5 => have := hb1.size; omega
 intro v' w2 hown' hgrow _
 have hlt : b < w1.heap.size := by
  rcases Nat.lt_or_ge b w1.heap.size with h' | h'
  ·
   exact h'
  ·
   simp [Array.getElem?_eq_none h'] at hbk
 have hb2 : w2.heap[b]? = some (.cells #[.pointer (some ⟨b, 0, none⟩), v] 48 (0, 0)) := by
  rw [hgrow.block b hlt (fun e => hne e.symm)]
  exact hbk
 have d0 : w2.cell? ⟨b, 0, none⟩ = some (.pointer (some ⟨b, 0, none⟩)) := by rw [Lib.cell_of_heap hb2]; rfl
 have d1 : w2.cell? ⟨b, 1, none⟩ = some v := by rw [Lib.cell_of_heap hb2]; rfl
 have f1 : w2.frozen? ⟨b, 1, none⟩ = false := Lib.frozen_of_heap hb2 1
 obtain ⟨ao, n', cap, rfl⟩ : ∃ ao n' cap, v' = .slice ao n' cap := by
  rcases hown'.2 with ⟨hv, _⟩ | ⟨g, cap, cur, fz, hv, _⟩
  ·
   exact ⟨_, _, _, hv⟩
  ·
   exact ⟨_, _, _, hv⟩
 go_wp2
 go_ret2
 refine ⟨by first | rfl | (rw [HSS.out]; rfl), ?_, ?_, (hk1.grown hgrow (Lib.ownsRowF_kind hown)).setCell ⟨b, 1, none⟩ rfl _⟩
 ·
  rw [HLE.out]
  exact .inr (Lib.BuilderAtF.put (T := 48) (e := 5) hB hb2 (bs' := bs ++ Lib.strCells t) (by simpa [Lib.strCells_length] using hown') (by decide))
 ·
  exact (hb1.grown hgrow (by have := hb1.size; omega) (fun k hk => (hown.lt k hk).1)).setCell (p := ⟨b, 1, none⟩) hB _


set_option maxHeartbeats 1000000 in
set_option maxRecDepth 100000 in
theorem string_nil (B b : Nat) (p : Value) (w : World) (hbk : w.heap[b]? = some (.cells #[p, .slice none 0 0] 48 (0, 0))) :
  Calls Tryd.prog 12 #[.pointer (some ⟨b, 0, none⟩)] w fun e w' => e = .returned (.string (bstr [])) ∧ Below B w w' := by
 have hUS : ∀ W, (Builtin.unsafeString_ #[77, 3] 9 #[.pointer none, .int .i64 0]).run Tryd.prog W = .ok (.string .empty) W := fun W => Lib.run_unsafeString_none W _ _ _ none
 have c1 : w.drew.cell? ⟨b, 1, none⟩ = some (.slice none 0 0) := by
  have : w.drew.heap[b]? = some (.cells #[p, .slice none 0 0] 48 (0, 0)) := hbk
  rw [Lib.cell_of_heap this]; rfl
 have hSD : (Builtin.unsafeSliceData_ #[44] 77 #[.slice none 0 0]).run Tryd.prog w.drew = .ok (.pointer none) w.drew := rfl
 have mixed := Tryd.lays169.mixed
 go_enter Tryd.func12, Tryd.ntmps12
 go_wp2
 go_region_o
 all_goals (go_wp2; go_ret; exact ⟨rfl, Below.drew (Below.refl B w)⟩)

set_option maxHeartbeats 1000000 in
set_option maxRecDepth 100000 in
theorem string_some (B b : Nat) (l : LB) (w : World) (h : Lib.IsBuilderF 48 5 B b (Lib.byteCells l) w) (h0 : l ≠ []) :
  Calls Tryd.prog 12 #[.pointer (some ⟨b, 0, none⟩)] w fun e w' => e = .returned (.string (bstr l)) ∧ Below B w w' := by
 obtain ⟨p, hAt⟩ : ∃ p, Lib.BuilderAtF 48 5 B b p (Lib.byteCells l) w := by
  rcases h with h | h
  ·
   exact ⟨_, h⟩
  ·
   exact ⟨_, h⟩
 obtain ⟨hB, v, hbk, hown, hne⟩ := hAt
 have hl0 : l.length ≠ 0 := by simpa using h0
 rw [Lib.byteCells_length] at hown
 obtain ⟨g, cap, cur, fz, rfl, hbg, hg, hfz, hnc, hcm, hcs, htake⟩ : ∃ g cap cur fz, v = .slice (some ⟨g, 0, none⟩) l.length cap ∧ B ≤ g ∧ w.heap[g]? = some (.cells cur 5 fz) ∧ fz.2 ≤ l.length * 1 ∧ l.length ≤ cap ∧ cap ≤ maxLen ∧ cur.size = cap * 1 ∧ cur.toList.take (l.length * 1) = Lib.byteCells l := by
  rcases hown.2 with ⟨_, hz⟩ | ⟨g, cap, cur, fz, hv, r⟩
  ·
   exact absurd hz hl0
  ·
   exact ⟨g, cap, cur, fz, hv, r⟩
 have c1 : w.drew.cell? ⟨b, 1, none⟩ = some (.slice (some ⟨g, 0, none⟩) l.length cap) := by
  have : w.drew.heap[b]? = some (.cells #[p, .slice (some ⟨g, 0, none⟩) l.length cap] 48 (0, 0)) := hbk
  rw [Lib.cell_of_heap this]; rfl
 have hSD : (Builtin.unsafeSliceData_ #[44] 77 #[.slice (some ⟨g, 0, none⟩) l.length cap]).run Tryd.prog w.drew = .ok (.pointer (some ⟨g, 0, none⟩)) w.drew :=
  Lib.run_unsafeSliceData_row _ _ _ _ _ _ (by omega)
 have hUS : (Builtin.unsafeString_ #[77, 3] 9 #[.pointer (some ⟨g, 0, none⟩), .int .i64 l.length]).run Tryd.prog w.drew = .ok (.string (bstr l)) (w.drew.freeze ⟨g, 0, none⟩ l.length) := by
  refine Lib.run_unsafeString_row w.drew 77 3 9 5 Tryd.underlying77 Tryd.Builder_Extra_169.cellsByte g cur.size (by have hg' : w.drew.heap[g]? = some (.cells cur 5 fz) := hg; simp [World.shape?, hg']) l h0 (by omega) (by unfold maxLen at hcm; omega) ?_
  intro j x hx
  have := hown.cells (g := g) rfl j (.int .u8 x.toNat) (by simp [Lib.byteCells, hx])
  exact this
 have mixed := Tryd.lays169.mixed
 have HG := Lib.hid hbg
 clear hown htake hcs hfz hg hbk hl0 h0 hnc hcm h
 go_enter Tryd.func12, Tryd.ntmps12
 go_wp2
 go_region_o
 all_goals (go_wp2; go_ret; exact ⟨rfl, Lib.below_freeze (Below.drew (Below.refl B w)) (p := ⟨g, 0, none⟩) HG.out _⟩)
end Go.Proofs.YtbdcpealkllfnaaDoor
namespace Go.Proofs.YtbdcpealkllfnaaDoor
open Go.RowKit Go.Deep

section
variable {B b g : Nat} {l l' : LB} {w w1 w2 : World}
theorem PS.refl (h : Lib.IsBuilderF 48 5 B b (Lib.byteCells l) w) : PS B b l w w := ⟨h, Below.refl _ _, Lib.OthersKept.refl _ _ _⟩
theorem PS.trans (h : PS B b l w w1) (k : PS B b l' w1 w2) : PS B b l' w w2 := ⟨k.bld, h.bel.trans k.bel, h.oth.trans k.oth⟩
theorem PS.here (h : PS B b l w w1) : PS B b l w1 w1 := .refl h.bld
theorem PS.lt (h : PS B b l w w1) : b < w1.heap.size := h.bld.elim (·.lt) (·.lt)
theorem PS.le (h : PS B b l w w1) : B ≤ b := h.bld.elim (fun ⟨h, _⟩ => h) (fun ⟨h, _⟩ => h)
theorem PS.sz (h : PS B b l w w1) : B ≤ w1.heap.size := by have := h.lt; have := h.le; omega
theorem PS.box (h : PS B b l w w1) : ∃ cur, w1.heap[b]? = some (.cells cur 48) := h.bld.elim (fun ⟨_, _, h, _⟩ => ⟨_, h⟩) (fun ⟨_, _, h, _⟩ => ⟨_, h⟩)
theorem PS.only (h : PS B b l w w1) (k : Only (fun _ => False) w1 w2) : PS B b l w w2 := by
 have hz := h.sz
 have kb : Below w1.heap.size w1 w2 := k.all (fun _ _ h => h)
 have hg : w1.grownBy w2 none := ⟨kb.os, kb.tape, kb.output, kb.size, fun i hi _ => kb.block i hi⟩
 have one : ∀ p, Lib.BuilderAtF 48 5 B b p (Lib.byteCells l) w1 → Lib.BuilderAtF 48 5 B b p (Lib.byteCells l) w2 := fun p ⟨hB, v, hb, ho, hne⟩ =>
  ⟨hB, v, by rw [kb.block b (Array.getElem?_eq_some_iff.1 hb).1]; exact hb, ho.kept hg (by cases v.ownBlock <;> simp), hne⟩
 exact ⟨h.bld.imp (one _) (one _), h.bel.trans (kb.mono hz), h.oth.trans (fun i o hi _ _ => by rw [kb.block i (Array.getElem?_eq_some_iff.1 hi).1]; exact hi)⟩
theorem PS.low (h : PS B b l w w1) : Only (fun k => B ≤ k) w w1 := ⟨h.bel.os, h.bel.tape, h.bel.output, h.bel.size, fun k _ hn => h.bel.block k (by omega)⟩
theorem PS.heap (h : PS B b l w w1) {cs : Array Value} {t : TypeId} (hk : w.heap[g]? = some (.cells cs t)) (ht : t ≠ 5) (hg : g ≠ b) : w1.heap[g]? = some (.cells cs t) :=
 h.oth g _ hk (by simpa using hg) (fun c fz e => by injection e with _ e2; exact ht e2)
theorem PS.ne (h : PS B b l w w1) {cs : Array Value} {t : TypeId} (hk : w1.heap[g]? = some (.cells cs t)) (ht : t ≠ 48) : g ≠ b := fun e => by
 subst e
 obtain ⟨cur, hb⟩ := h.box
 rw [hk] at hb
 injection hb with hb
 injection hb with _ hb
 exact ht hb
end
/-- nothing comes back; the builder holds these bytes -/
def PrO (B b : Nat) (l : LB) (w : World) (e : Ending) (w' : World) : Prop := e = .returned (.tuple #[]) ∧ PS B b l w w'
section
variable {P : Program} {B b : Nat} {l l' t : LB} {w W : World} {f : FuncId} {args : Array Value}
theorem PrO.up (hW : PS B b l w W) (h : Calls P f args W (PrO B b l' W)) : Calls P f args W (fun e w' => e = .returned (.tuple #[]) ∧ PS B b l' w w') := h.mono fun _ _ h1 => ⟨h1.1, hW.trans h1.2⟩
theorem StrO.upP (hW : PS B b l w W) (h : Calls P f args W (StrO t W)) : Calls P f args W (fun e w' => e = .returned (.string (bstr t)) ∧ PS B b l w w') := h.mono fun _ _ h1 => ⟨h1.1, hW.only h1.2⟩
end
/-- the longest text that a builder may hold -/
def BP : Nat := 140737488355328
def strV (S : List LB) : List Value := S.map (fun s => Value.string (bstr s))

set_option maxHeartbeats 2000000 in
set_option maxRecDepth 100000 in
theorem put_any {B b g c : Nat} {l : LB} {S : List LB} {w : World} (h : PS B b l w w) (hg : w.heap[g]? = some (.cells (strV S).toArray 9)) (hlen : l.length + S.flatten.length ≤ BP) (hS : S.length ≤ 1000) :
  Calls Tryd.prog 22 #[.pointer (some ⟨b, 0, none⟩), .slice (some ⟨g, 0, none⟩) S.length c] w (PrO B b (l ++ S.flatten) w) := by
 have hgb := h.ne hg (by decide)
 unfold BP at hlen
 have HG := Lib.hid hg
 have H0 := Lib.hid h
 clear h hg
 go_enter Tryd.func22, Tryd.ntmps22
 go_wp2_with fail
 go_loopw [5, 8] (fun _ vi wr => ∃ (i : Nat), i ≤ S.length ∧ vi = .int .i64 i ∧ Hid (PS B b (l ++ (S.take i).flatten) w wr)) (fun _ vi _ => S.length - (intOf vi).toNat)
 case atStart => exact ⟨0, Nat.zero_le _, rfl, Lib.hid (by simpa using H0.out)⟩
 case round =>
  obtain ⟨i, hi, rfl, HW⟩ := hrel
  by_cases hlt : i < S.length
  ·
   have hk := HW.out.heap HG.out (by decide) hgb
   have hc : wr.cell? ⟨g, i, none⟩ = some (.string (bstr S[i])) := by
    rw [cell_of_row wr g i _ _ _ hk]
    simp [strV, hlt]
   have hst : (S.take (i + 1)).flatten = (S.take i).flatten ++ S[i] := by
    rw [List.take_succ_eq_append_getElem hlt, List.flatten_append, List.flatten_singleton]
   have hle : ((S.take (i + 1)).flatten).length ≤ S.flatten.length := by
    have := congrArg List.length (congrArg List.flatten (List.take_append_drop (i + 1) S))
    simp only [List.flatten_append, List.length_append] at this
    omega
   rw [hst, List.length_append] at hle
   have HST := Lib.hid hst
   obtain ⟨s, hs⟩ : ∃ s, s = S[i] := ⟨_, rfl⟩
   rw [← hs] at hc hle
   have HS := Lib.hid hs
   clear hk hst hs
   go_wp2_with fail
   refine (writeString_any B b (l ++ (S.take i).flatten) s wr HW.out.bld (by rw [List.length_append]; omega) HW.out.sz).mono ?_
   rintro e w2 ⟨rfl, h2⟩
   have H2 := Lib.hid h2
   clear h2
   go_wp2_with fail
   go_roundw
   case rel => exact ⟨i + 1, by omega, by go_num, Lib.hid (by rw [HST.out, ← HS.out, ← List.append_assoc]; exact HW.out.trans H2.out)⟩
   case measure => simp [intOf]; omega
  ·
   obtain rfl : i = S.length := by omega
   go_wp2_with fail
   go_end0
   exact ⟨rfl, by rw [List.take_length] at HW; exact HW.out⟩
end Go.Proofs.YtbdcpealkllfnaaDoor
namespace Go.Proofs.YtbdcpealkllfnaaDoor
open Go.RowKit Go.Deep Go.Sort

abbrev PowT (w : World) : Prop := Lib.TabIs Tryd.prog w "internal/strconv.uint64pow10" .u64 Lib.pow10Tab
theorem grow_only {w : World} {k : Nat} {os : Array Obj} : Only (fun _ => False) w (grow (w.drewN k) os) :=
 ⟨rfl, rfl, rfl, by simp [grow, World.drewN], fun i hi _ => by
  show (w.heap ++ os)[i]? = _
  rw [Array.getElem?_append_left hi]⟩
theorem itoaP_any (n : Nat) (w : World) (h1 : n ≤ 9223372036854775807) (ht : PowT w) : Calls Tryd.prog 40 #[.int .i64 n] w (StrO (digL n) w) := by
 refine (Tryd.strconv_Itoa n (by omega) (by omega) w ht).mono ?_
 rintro e w' ⟨rfl, k, os, rfl⟩
 exact ⟨by rw [Lib.itoa_nonneg]; rfl, grow_only⟩

set_option maxHeartbeats 6400000 in
set_option maxRecDepth 100000 in
theorem fmtI_any (u : Nat) (w : World) (hu64 : u < 18446744073709551616) (htab : PowT w) :
  Calls Tryd.prog 64 #[.int .u64 u, .int .i64 10] w (StrO (digL u) w) := by
 by_cases hs : u < 100
 ·
  have hw : IntKind.i64.wrap (u : Int) = (u : Int) := IntWalk.i64_in _ (by omega)
  have HS := Lib.hid hs
  have h1 : (u : Int) < 100 := by omega
  go_enter Tryd.func64, Tryd.ntmps64
  go_wp2_with (refine (Tryd.internal_strconv_small u HS.out _).mono ?_; rintro e w' ⟨rfl, rfl⟩)
  go_ret
  exact ⟨rfl, Only.refl _ _⟩
 ·
  have hu1 : 1 ≤ u := by omega
  have hnd20 : Lib.nDigits u ≤ 20 := by have := Lib.numDigits_eq u hu1 hu64; split at this <;> omega
  have hb3 : Lib.nDigits u ≤ 24 := by omega
  have hi : ¬ (u : Int) < 100 := by omega
  have hal : Tryd.prog.arrayLen 127 = 24 := by simp [Program.arrayLen, Tryd.underlying127]
  have hsl1 : ∀ W, (Instr.sliceAt 127 (.pointer (some ⟨w.heap.size, 0, none⟩)) none (some (.int .i64 (Lib.nDigits u : Int))) none).run Tryd.prog W = .ok (.slice (some ⟨w.heap.size, 0, none⟩) (Lib.nDigits u) 24) W := fun W => by
   rw [run_sliceAt_array_h W 127 ⟨w.heap.size, 0, none⟩ (by simp [Program.arrayLen, Program.elem, Tryd.underlying127]) .i64 (Lib.nDigits u : Int) (by omega) (by rw [hal]; omega)]
   go_simp
  have hH0 := Lib.holds_zero0 w 127 (Lib.nDigits u) (by omega)
  have hfmt := Tryd.internal_strconv_formatBase10 w.heap.size 0 24 u (Array.replicate (Lib.nDigits u) 0) (w.alloc (.cells Lib.zeros24 127)) hH0 (by rw [Array.size_replicate]; exact Lib.lt_pow_nDigits u) hu64 (by rw [Array.size_replicate]; omega)
  rw [Array.size_replicate] at hfmt
  have HH0 := Lib.hid hH0
  clear hH0 hal hs
  go_enter Tryd.func64, Tryd.ntmps64
  go_wp2_with (go_at_call 76; refine (Tryd.internal_strconv_numDigits u hu1 hu64 _ (Lib.tabIs_alloc htab _)).mono ?_; rintro e w' ⟨rfl, rfl⟩)
  refine hfmt.mono ?_
  rintro e w' ⟨rfl, k, v', dk, rfl, hF⟩
  have HF := Lib.hid hF
  have hcv : (convert 44 9 (.slice (some ⟨w.heap.size, 0, none⟩) (Lib.nDigits u) 24)).run Tryd.prog ((putRow (fun (b : UInt8) => Value.int .u8 (b.toNat : Int)) (w.alloc (.cells Lib.zeros24 127)) w.heap.size 0 dk).drewN k) = .ok (.string (bstr (digL u))) ((putRow (fun (b : UInt8) => Value.int .u8 (b.toNat : Int)) (w.alloc (.cells Lib.zeros24 127)) w.heap.size 0 dk).drewN k) := by
   have h := run_convert_bytes_back (P := Tryd.prog) ((putRow (fun (b : UInt8) => Value.int .u8 (b.toNat : Int)) (w.alloc (.cells Lib.zeros24 127)) w.heap.size 0 dk).drewN k) 44 9 5 ⟨w.heap.size, 0, none⟩ 24 (Lib.decDigits u) Tryd.underlying44 Tryd.underlying5 Tryd.underlying9 (fun j hj => by
    rw [Lib.row_is_numeral HF.out j hj, Lib.add_plain, World.cell?_drewN]
    exact cell?_putRow (fun (b : UInt8) => Value.int .u8 (b.toNat : Int)) _ w.heap.size 0 _ dk HH0.out (by rw [HF.out.size, Array.size_replicate]) j (by rw [HF.out.size]; rw [Lib.decDigits_length] at hj; exact hj))
   rw [Lib.decDigits_length] at h
   exact h
  clear hF hfmt
  go_wp2
  go_ret
  obtain ⟨os, eo⟩ := Lib.fin_at w (.cells Lib.zeros24 127) dk k 0
  refine ⟨rfl, ?_⟩
  rw [eo]
  exact grow_only
set_option maxHeartbeats 1000000 in
theorem fmtP_any (u : Nat) (w : World) (hu64 : u < 18446744073709551616) (htab : PowT w) :
  Calls Tryd.prog 41 #[.int .u64 u, .int .i64 10] w (StrO (digL u) w) := by
 have HT := Lib.hid htab
 clear htab
 go_enter Tryd.func41, Tryd.ntmps41
 go_wp2_with (go_at_call 64; refine (fmtI_any u _ hu64 HT.out).mono ?_; rintro e w' ⟨rfl, hb⟩)
 go_ret
 exact ⟨rfl, hb⟩
end Go.Proofs.YtbdcpealkllfnaaDoor
namespace Go.Proofs.YtbdcpealkllfnaaDoor
open Go.RowKit Go.Deep

/-- what the start-up laid, below B: the signs, the powers of ten -/
structure Tabs (B : Nat) (w : World) : Prop where
 lt : 0 < B
 sg : ∀ k, k ≤ 22 → w.cell? ⟨0, k, none⟩ = some (.string (bstr (sgnL k)))
 pw : ∀ w', Below B w w' → PowT w'
theorem Tabs.next {B : Nat} {w W : World} (h : Tabs B w) (k : Only (fun i => B ≤ i) w W) (hB : B ≤ w.heap.size) : Tabs B W where
 lt := h.lt
 sg := fun i hi => k.cell (h.sg i hi) (by have := h.lt; show ¬ B ≤ 0; omega)
 pw := fun w' hb => h.pw w' (Below.trans ⟨k.os, k.tape, k.output, k.size, fun i hi => k.block i (by omega) (by omega)⟩ hb)
theorem Tabs.here {B : Nat} {w : World} (h : Tabs B w) : PowT w := h.pw w (Below.refl _ _)
section
variable {P : Program} {ops : Array Oper} {Q : Exit → Act → World → Prop} {o o1 o2 : Oper} {os : List Oper} {a : Act} {w : World} {B b : Nat} {l l' : LB}
theorem PrO.upE {f : FuncId} {args : Array Value} {W : World} {l1 l2 : LB} (hW : PS B b l w W) (he : l2 = l1) (h : Calls P f args W (PrO B b l1 W)) : Calls P f args W (fun e w' => e = .returned (.tuple #[]) ∧ PS B b l2 w w') := by
 subst he; exact PrO.up hW h
theorem PrO.upR {f : FuncId} {args : Array Value} {W : World} {x1 x2 : LB} (hx : x2 = x1) (hW : PS B b l w W) (h : Calls P f args W (PrO B b (l ++ x1) W)) : Calls P f args W (fun e w' => e = .returned (.tuple #[]) ∧ PS B b (l ++ x2) w w') := by
 subst hx; exact PrO.up hW h
/-- a struct's new box, filled, with an assignment between -/
theorem wpl_box3 (hg1 : o.guard = none) (hg3 : o1.guard = none) (hg2 : o2.guard = none) (ty : TypeId) (h1 : o.op = .alloc ty) (d : Tmp) (hd : o.dst = some d) (z : Operand) (h3 : o1.op = .assign z) (y : Operand) (h2 : o2.op = .store ty (.tmp d) y) (hd2 : o2.dst = none) {zz : Array Value} (hz : ∀ w, (zeroValue ty).run P w = .ok (.agg zz) w) {cells : Array Value}
  (v : Value) (hv : ∀ g, (a.put (some d) (.pointer (some ⟨g, 0, none⟩))).eval z = v) (hy : ∀ g, ((a.put (some d) (.pointer (some ⟨g, 0, none⟩))).put o1.dst v).eval y = .agg cells) (hx : ∀ g, ((a.put (some d) (.pointer (some ⟨g, 0, none⟩))).put o1.dst v).eval (.tmp d) = .pointer (some ⟨g, 0, none⟩))
  {sz : Nat} (hT : StT P ty sz) (hs : cells.size = sz) (hso : zz.size = sz) (hone : ∀ v ∈ cells.toList, v.oneCell' = true)
  (h : Hld (∀ w' g, Hid (w'.heap[g]? = some (.cells cells ty)) → Hid (Only (fun _ => False) w w') → w.heap.size ≤ g → g < w'.heap.size → wpList P ops Q os ((a.put (some d) (.pointer (some ⟨g, 0, none⟩))).put o1.dst v) w')) : wpList P ops Q (o :: o1 :: o2 :: os) a w := by
 refine wpl_alloc hg1 ty h1 (some d) hd hz ⟨fun w1 g hk ho hg hlt => ?_⟩
 refine wpList_plain hg3 fun K hK => ?_
 unfold Oper.wp execOp
 simp only [h3, hv g, Sem.run_pure]
 refine hK _ _ ?_
 refine wpl_store hg2 ty (.tmp d) y h2 g (hx g) (hy g) hk.out hT hs hso hone ⟨fun w2 hk2 ho2 => ?_⟩
 rw [hd2]
 exact h.out w2 g hk2 (Lib.hid (ho.out.then_ ho2.out (fun i hi (h : i = g) => by omega))) hg (Nat.lt_of_lt_of_le hlt ho2.out.size)
end
theorem enter_put (args : Array Value) (w : World) : (callFunc 22 args).run Tryd.prog w = .ok (.enter 22 args) w := by go_simp
theorem bs1 (s0 : LB) : Tryd.prog.builtSlice 9 1 [(0, .string (bstr s0))] = some (strV [s0]).toArray := by kernel_rfl
theorem bs2 (s0 s1 : LB) : Tryd.prog.builtSlice 9 2 [(0, .string (bstr s0)), (1, .string (bstr s1))] = some (strV [s0, s1]).toArray := by kernel_rfl
theorem bs3 (s0 s1 s2 : LB) : Tryd.prog.builtSlice 9 3 [(0, .string (bstr s0)), (1, .string (bstr s1)), (2, .string (bstr s2))] = some (strV [s0, s1, s2]).toArray := by kernel_rfl
/-- texts are put -/
theorem ChS.put {ops : Array Oper} {Q : Exit → Act → World → Prop} {o1 o2 : Oper} {os : List Oper} {a : Act} {w : World} {B b : Nat} {l l' : LB} {n : Nat} {parts : List (Nat × Operand)} {d : Tmp} {x : Operand} {ats : Array TypeId} (S : List LB) (hg1 : o1.guard = none) (hg2 : o2.guard = none) (h1 : o1.op = .buildSlice 85 n parts.toArray) (hd : o1.dst = some d)
  (h2 : o2.op = .call { callee := .value (.func 22), args := [x, .tmp d].toArray, argTypes := ats }) {vs : List (Nat × Value)} (hv : parts.map (fun y => (y.1, a.eval y.2)) = vs) (hS : Tryd.prog.builtSlice 9 n vs = some (strV S).toArray) (hn : n = S.length) (hn2 : S.length ≤ 1000)
  (hx : ∀ g, (a.put (some d) (.slice (some ⟨g, 0, none⟩) n n)).eval x = .pointer (some ⟨b, 0, none⟩)) (hd2 : ∀ g, (a.put (some d) (.slice (some ⟨g, 0, none⟩) n n)).eval (.tmp d) = .slice (some ⟨g, 0, none⟩) n n) (hlen : l.length + S.flatten.length ≤ BP) (hl : l' = l ++ S.flatten)
  (h : ∀ g, ChS Tryd.prog ops Q (PS B b l' w) os ((a.put (some d) (.slice (some ⟨g, 0, none⟩) n n)).put o2.dst (.tuple #[]))) : ChS Tryd.prog ops Q (PS B b l w) (o1 :: o2 :: os) a := fun W hW => by
 refine wpl_slice hg1 85 9 n parts h1 (some d) hd Tryd.underlying85 (strV S).toArray (by rw [hv]; exact hS) ⟨fun w1 g hk ho hg hlt => ?_⟩
 have hp := hW.only ho.out
 refine ChS.step (S := fun W' => W' = w1) (S' := PS B b l' w) (v := .tuple #[]) (Uni.call (args := [.pointer (some ⟨b, 0, none⟩), .slice (some ⟨g, 0, none⟩) n n]) (by unfold Region.wanted; rw [hg2]) h2 (by simp only [List.map_cons, List.map_nil, hx g, hd2 g]) (enter_put _) (fun W' e => ?_)) (h g) w1 rfl
 subst e
 subst hn
 exact PrO.upE hp hl (put_any hp.here hk.out hlen hn2)
theorem putS {ops : Array Oper} {Q : Exit → Act → World → Prop} {o1 o2 : Oper} {os : List Oper} {ts : List Value} {df : List Deferred} {w : World} {B b : Nat} {l : LB} {n : Nat} {parts : List (Nat × Operand)} {d : Tmp} {x : Operand} {ats : Array TypeId} (S : List LB) {vs : List (Nat × Value)} (hS : Tryd.prog.builtSlice 9 n vs = some (strV S).toArray) (hlen : l.length + S.flatten.length ≤ BP)
  (h : ∀ g, ChT Tryd.prog ops Q (PS B b (l ++ S.flatten) w) os (setT (ts.set d (.slice (some ⟨g, 0, none⟩) n n)) o2.dst (.tuple #[])) df) (hn : n = S.length := by rfl) (hn2 : S.length ≤ 1000 := by simp) (h1 : o1.op = .buildSlice 85 n parts.toArray := by rfl) (hd : o1.dst = some d := by rfl)
  (h2 : o2.op = .call { callee := .value (.func 22), args := [x, .tmp d].toArray, argTypes := ats } := by rfl) (hv : parts.map (fun y => (y.1, evT ts y.2)) = vs := by rfl) (hx : ∀ g, evT (ts.set d (.slice (some ⟨g, 0, none⟩) n n)) x = .pointer (some ⟨b, 0, none⟩) := by intro _; rfl) (hd2 : ∀ g, evT (ts.set d (.slice (some ⟨g, 0, none⟩) n n)) (.tmp d) = .slice (some ⟨g, 0, none⟩) n n := by intro _; rfl) (hg1 : o1.guard = none := by rfl) (hg2 : o2.guard = none := by rfl) : ChT Tryd.prog ops Q (PS B b l w) (o1 :: o2 :: os) ts df := by
 have e : ∀ g, (⟨ts.toArray, df⟩ : Act).put (some d) (.slice (some ⟨g, 0, none⟩) n n) = ⟨(ts.set d (.slice (some ⟨g, 0, none⟩) n n)).toArray, df⟩ := fun g => put_setT (some d)
 refine ChS.put S hg1 hg2 h1 hd h2 (by rw [← hv]; exact List.map_congr_left (fun y _ => by rw [evT_eq])) hS hn hn2 (fun g => ?_) (fun g => ?_) hlen rfl (fun g => ?_)
 ·
  rw [e g]; exact (evT_eq x).trans (hx g)
 ·
  rw [e g]; exact (evT_eq _).trans (hd2 g)
 ·
  rw [e g, put_setT]; exact h g
theorem enter_p_operand (args : Array Value) (w : World) : (callFunc 42 args).run Tryd.prog w = .ok (.enter 42 args) w := by go_simp
theorem enter_p_list (args : Array Value) (w : World) : (callFunc 43 args).run Tryd.prog w = .ok (.enter 43 args) w := by go_simp
theorem enter_p_expr (args : Array Value) (w : World) : (callFunc 23 args).run Tryd.prog w = .ok (.enter 23 args) w := by go_simp
theorem enter_p_loop (args : Array Value) (w : World) : (callFunc 46 args).run Tryd.prog w = .ok (.enter 46 args) w := by go_simp
theorem enter_p_stmt (args : Array Value) (w : World) : (callFunc 44 args).run Tryd.prog w = .ok (.enter 44 args) w := by go_simp
theorem enter_p_span (args : Array Value) (w : World) : (callFunc 24 args).run Tryd.prog w = .ok (.enter 24 args) w := by go_simp
theorem enter_p_binds (args : Array Value) (w : World) : (callFunc 45 args).run Tryd.prog w = .ok (.enter 45 args) w := by go_simp
theorem enter_p_item (args : Array Value) (w : World) : (callFunc 25 args).run Tryd.prog w = .ok (.enter 25 args) w := by go_simp
theorem enter_p_part (args : Array Value) (w : World) : (callFunc 47 args).run Tryd.prog w = .ok (.enter 47 args) w := by go_simp
theorem enter_p_module (args : Array Value) (w : World) : (callFunc 11 args).run Tryd.prog w = .ok (.enter 11 args) w := by go_simp
theorem enter_p_Itoa (args : Array Value) (w : World) : (callFunc 40 args).run Tryd.prog w = .ok (.enter 40 args) w := by go_simp
theorem enter_p_FormatUint (args : Array Value) (w : World) : (callFunc 41 args).run Tryd.prog w = .ok (.enter 41 args) w := by go_simp
end Go.Proofs.YtbdcpealkllfnaaDoor
