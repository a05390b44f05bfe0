/- The iterator of strings.Lines, walked: a text's lines, one behind the other. No condition. -/
import Derived.Test.YtlfjchlkooemdaaDoorLnP
import Derived.Test.YtlfjchlkooemdaaDoorRfW
import Derived.Test.YtlfjchlkooemdaaDoorIxT
import Derived.Test.YtlfjchlkooemdaaDoorDrawnF
import Derived.Test.YtlfjchlkooemdaaDoorOwn
namespace Go.Proofs.YtlfjchlkooemdaaDoor
open Go.RowKit Go.Shelf Go.Deep
attribute [local go_sem] Oper.semAt_some

theorem wide_room {n : Nat} : Fence.wide.depth.isSome = true → 1 ≤ n := fun h => by simp [Fence.wide] at h
theorem round_wide {n m : Nat} {P : Program} {l : Nat} {f : FuncId} {tmps : Array Value} {assign body : Code} {w : World} {R : Ending → World → Prop}
    (h : RoundIn Fence.wide n P l f tmps assign body w R) : RoundIn Fence.wide m P l f tmps assign body w R := by
  obtain ⟨hF, hr⟩ := h
  exact ⟨hF, fun c cs hr' => hr c cs (by simp [Fence.room, Fence.wide])⟩
/-- bytes as a string -/
def bstr (l : List UInt8) : ByteArray := ⟨l.toArray⟩
theorem bstr_list (l : List UInt8) : (bstr l).data.toList = l := rfl
theorem bstr_size (l : List UInt8) : (bstr l).size = l.length := by rw [Lib.size_eq]; rfl
theorem bstr_of (s : ByteArray) : bstr s.data.toList = s := by obtain ⟨⟨l⟩⟩ := s; rfl
theorem bstr_take (l : List UInt8) (k : Nat) : (bstr l).extract 0 k = bstr (l.take k) := by
  rw [← bstr_of ((bstr l).extract 0 k), Lib.extract_data, bstr_list, List.drop_zero, Nat.sub_zero]
theorem bstr_drop (l : List UInt8) (k : Nat) : (bstr l).extract k l.length = bstr (l.drop k) := by
  rw [← bstr_of ((bstr l).extract k l.length), ← bstr_size l, Lib.extract_to_end, bstr_list]
def boxLen (b : Nat) (w : World) : Nat := match w.heap[b]? with
  | some (Obj.cells cs _ _) => (match cs[0]? with
    | some (Value.string s) => s.size
    | _ => 0)
  | _ => 0
theorem boxLen_at {b : Nat} {w : World} {l : List UInt8} {t : TypeId} (h : w.heap[b]? = some (.cells #[.string (bstr l)] t)) : boxLen b w = l.length := by
  unfold boxLen; rw [h]; exact bstr_size l
theorem idx10 (s : ByteArray) (k : Int) (w : World) (h : Lib.indexByte s.data.toList 10 = k) : Calls Tryd.prog 20 #[.string s, .int .u8 10] w fun e w' => e = .returned (.int .i64 k) ∧ w' = w :=
  (Tryd.strings_IndexByte s 10 w).mono (by rintro e w' ⟨h1, h2⟩; exact ⟨by rw [h1, ← h]; rfl, h2⟩)
theorem grown_set {w : World} {b : Nat} (v : Value) : w.grownBy (w.setCell ⟨b, 0, none⟩ v) (some b) := by
  have h : Only (fun k => k = b) w (w.setCell ⟨b, 0, none⟩ v) := Only.setCell (p := ⟨b, 0, none⟩) (Only.refl (fun k => k = b) w) (fun _ => rfl) v
  exact ⟨h.os, h.tape, h.output, h.size, fun k hk hne => h.block k hk (fun e => hne (by rw [e]))⟩
theorem grown_drew {w w1 : World} {b : Nat} (h : w.grownBy w1 (some b)) : w.grownBy w1.drew (some b) := ⟨h.os, h.tape, h.output, h.size, h.block⟩
theorem set_box {w : World} {b : Nat} {x : Value} {t : TypeId} (h : w.heap[b]? = some (.cells #[x] t)) (v : Value) : (w.setCell ⟨b, 0, none⟩ v).heap[b]? = some (.cells #[v] t) := by
  simp [World.setCell, Array.getElem?_modify, h]

set_option maxRecDepth 100000 in
set_option maxHeartbeats 8000000 in
theorem lines_seq (txt : List UInt8) (n B0 : Nat) (hn : txt.length ≤ 4000000000) : SeqW Fence.wide n Tryd.prog 25 #[.pointer (some ⟨B0, 0, none⟩)] (fun x : List UInt8 => #[.string (bstr x)]) B0
    (fun W => W.heap[B0]? = some (.cells #[.string (bstr txt)] 9)) (linesOf txt) := by
  intro l J W hJ hY h0 hOk
  have hF : ∀ f, Fence.wide.fn f := fun _ => trivial
  have HJ := Lib.hid hJ; have HY := Lib.hid hY; have H0 := Lib.hid h0; have HOK := Lib.hid hOk
  clear hJ hY h0 hOk
  refine callsIn_of_wp Tryd.func25 rfl trivial ?_ rfl
  simp only [Tryd.ntmps25, List.size_toArray, List.length_cons, List.length_nil, Nat.reduceAdd, Nat.reduceSub, Array.replicate_succ, Array.replicate_zero, List.push_toArray, List.append_toArray, List.nil_append, List.cons_append]
  gi_wp2_with fail
  gi_loopw [] (fun wr => ∃ pre rest, Hid (linesOf txt = pre ++ linesOf rest) ∧ rest.length ≤ txt.length ∧ Hid (J pre wr) ∧ Hid (wr.heap[B0]? = some (.cells #[.string (bstr rest)] 9))) (fun wr => boxLen B0 wr)
  case atStart => exact ⟨[], txt, Lib.hid rfl, Nat.le_refl _, H0, HOK⟩
  case round =>
    obtain ⟨pre, rest, HL, hrl, HP, HB⟩ := hrel
    have hb := HB.out
    have c0 : wr.cell? ⟨B0, 0, none⟩ = some (.string (bstr rest)) := by rw [cell_of_row wr B0 _ _ _ _ hb]; rfl
    have hz : wr.frozen? ⟨B0, 0, none⟩ = false := by simp [World.frozen?, hb]
    obtain ⟨s, hs⟩ : ∃ s, s = bstr rest := ⟨_, rfl⟩
    have hsz : s.size = rest.length := by rw [hs]; exact bstr_size rest
    rw [← hs] at c0
    have HS := Lib.hid hs
    clear hb hs
    by_cases hr : rest = []
    · have h0s : s.size = 0 := by rw [hsz, hr]; rfl
      clear hsz
      gi_wp2_with fail
      go_end0
      refine ⟨⟨_, rfl⟩, ?_⟩
      rw [HL.out, hr, linesOf_nil, List.append_nil]
      exact HP.out
    · have hpos : 0 < rest.length := List.length_pos_iff.2 hr
      have hls : linesOf txt = (pre ++ [nextL rest]) ++ linesOf (restL rest) := by rw [HL.out, linesOf_cons hr]; simp
      have HLS := Lib.hid hls
      have hpx : pre ++ [nextL rest] <+: linesOf txt := by rw [hls]; exact List.prefix_append _ _
      have HPX := Lib.hid hpx
      have hrlt := rest_lt hr
      clear hls hpx
      by_cases hk : 0 ≤ Lib.indexByte rest 10
      · -- QB b
        obtain ⟨i, hki⟩ : ∃ i : Nat, Lib.indexByte rest 10 = i := ⟨(Lib.indexByte rest 10).toNat, by omega⟩
        have hil : i + 1 ≤ rest.length := by
          rcases line_split rest with ⟨h, _⟩ | ⟨body, r2, h1, _, h⟩
          · omega
          · have h2 := congrArg List.length h1
            simp only [List.length_append, List.length_cons] at h2
            omega
        have hi := fun w => idx10 s i w (by rw [HS.out, bstr_list]; exact hki)
        have hnx : nextL rest = rest.take (i + 1) := by unfold nextL; rw [if_pos hk, hki, Int.toNat_natCast]
        have hrx : restL rest = rest.drop (i + 1) := by unfold restL; rw [if_pos hk, hki, Int.toNat_natCast]
        obtain ⟨j, hj⟩ : ∃ j, j = i + 1 := ⟨_, rfl⟩
        rw [← hj] at hnx hrx hil
        have ew : IntKind.i64.wrap ((i : Int) + 1) = (j : Int) := by rw [IntKind.wrap_i64]; omega
        have e1 : s.extract 0 j = bstr (nextL rest) := by rw [HS.out, bstr_take, hnx]
        have e2 : s.extract j rest.length = bstr (restL rest) := by rw [HS.out, bstr_drop, hrx]
        have HE1 := Lib.hid e1; have HE2 := Lib.hid e2
        clear hk hki hj hnx hrx e1 e2
        gi_wp2_with (refine ⟨wide_room, (callsIn_wide.2 (hi _)).mono ?_⟩; rintro e w' ⟨rfl, hw⟩; rw [hw])
        refine wpIn_region_z (fun w' => w'.cell? ⟨B0, 0, none⟩ = some (.string s)) [0, 1, 2, 3, 4, 5, 6, 7, 8] [9] hF (by kernel_rfl) (by kernel_rfl) (by kernel_rfl) (by kernel_rfl) (by rfl) (fun _ _ _ _ e h => ⟨e.symm.trans h.1, h.2⟩) c0 ?_
        iterate 9
          refine Heads.step (v := ?_) rfl (by first | (go_simp; done) | rfl) (fun W hW => ?_) ?_
          rotate_left
          · (have t0 := hW; go_simp; try with_reducible rfl)
        replace c0 : wr.drew.cell? ⟨B0, 0, none⟩ = _ := c0
        replace hz : wr.drew.frozen? ⟨B0, 0, none⟩ = _ := hz
        refine AnyY.one (i := 9) hF (by kernel_rfl) rfl (fun K hK => ?_)
        go_simp
        refine hK _ _ (fun h => by cases h) (AnyY.done (by kernel_rfl) ?_)
        clear hK
        go_simp
        have hj1 : J pre (wr.setCell ⟨B0, 0, none⟩ (.string (s.extract j rest.length))).drew := HJ.out _ _ _ HP.out (grown_drew (grown_set _))
        obtain ⟨fn, tmps, assign, body, hy, hR⟩ := HY.out pre (nextL rest) _ hj1 HPX.out
        rw [← HE1.out] at hy
        have hbx : (wr.setCell ⟨B0, 0, none⟩ (.string (s.extract j rest.length))).drew.heap[B0]? = some (.cells #[.string (bstr (restL rest))] 9) := by rw [← HE2.out]; exact set_box HB.out _
        have HBX := Lib.hid hbx
        clear hbx hj1 c0 hz
        gi_wp2_with fail
        refine ⟨wide_room, (round_wide hR).mono ?_⟩
        rintro e w3 ⟨rfl, hj3, hb3⟩
        have hb4 := hb3.trans HBX.out
        have hm1 := boxLen_at HB.out
        have hm2 := boxLen_at hb4
        have HJ3 := Lib.hid hj3; have HB4 := Lib.hid hb4; have HM1 := Lib.hid hm1; have HM2 := Lib.hid hm2
        clear hj3 hb4 hm1 hm2 hb3 hR hy
        gi_wp2_with fail
        go_roundw
        case rel => exact ⟨pre ++ [nextL rest], restL rest, HLS, by omega, HJ3, HB4⟩
        case measure => rw [HM1.out, HM2.out]; exact hrlt
        -- QE b
      · have hk1 : Lib.indexByte rest 10 = -1 := by
          rcases line_split rest with ⟨h, _⟩ | ⟨body, r2, _, _, h⟩
          · exact h
          · omega
        have hi := fun w => idx10 s (-1) w (by rw [HS.out, bstr_list]; exact hk1)
        have hnx : nextL rest = rest := by unfold nextL; rw [if_neg hk]
        have hrx : restL rest = [] := by unfold restL; rw [if_neg hk]
        have hj1 : J pre (wr.setCell ⟨B0, 0, none⟩ (.string ⟨#[]⟩)) := HJ.out _ _ _ HP.out (grown_set _)
        obtain ⟨fn, tmps, assign, body, hy, hR⟩ := HY.out pre (nextL rest) _ hj1 HPX.out
        rw [hnx, ← HS.out] at hy
        have HNX := Lib.hid hnx; have HRX := Lib.hid hrx
        have hbx := set_box HB.out (.string ⟨#[]⟩)
        have HBX := Lib.hid hbx
        clear hbx hnx hrx hk hk1 hj1
        gi_wp2_with (refine ⟨wide_room, (callsIn_wide.2 (hi _)).mono ?_⟩; rintro e w' ⟨rfl, hw⟩; rw [hw])
        refine ⟨wide_room, (round_wide hR).mono ?_⟩
        rintro e w3 ⟨rfl, hj3, hb3⟩
        have hb4 := hb3.trans HBX.out
        have hm1 := boxLen_at HB.out
        have hm2 := boxLen_at (l := []) hb4
        have HJ3 := Lib.hid hj3; have HB4 := Lib.hid hb4; have HM1 := Lib.hid hm1; have HM2 := Lib.hid hm2
        clear hj3 hb4 hm1 hm2 hb3 hR hy
        gi_wp2_with fail
        go_roundw
        case rel => exact ⟨pre ++ [nextL rest], [], by rw [← HRX.out]; exact HLS, by simp, HJ3, HB4⟩
        case measure => rw [HM1.out, HM2.out]; exact hpos
end Go.Proofs.YtlfjchlkooemdaaDoor
