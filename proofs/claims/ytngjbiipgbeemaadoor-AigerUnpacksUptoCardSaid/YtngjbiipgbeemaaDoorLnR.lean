/- The reference's lines, walked: the lines of a text that end; is there anything behind the last one? Condition: the text is shorter than 1000000000 bytes. -/
import Derived.Test.YtngjbiipgbeemaaDoorNmA
namespace Go.Proofs.YtngjbiipgbeemaaDoor
open Go.RowKit Go.Shelf Go.Deep

theorem elSt : Elem Tryd.prog 60 9 1 16 := elem_mk Tryd.underlying60 (z := .string ⟨#[]⟩) (by kernel_rfl) rfl (by omega) (by omega)
def lsv (L : List (List UInt8)) (k : Nat) : Value := .string (bstr (L.getD k []))
theorem lsv_more (L : List (List UInt8)) (x : List UInt8) : ((List.range L.length).map (lsv L)) ++ [.string (bstr x)] = (List.range (L ++ [x]).length).map (lsv (L ++ [x])) := by
  rw [List.length_append]
  show _ = List.map _ (List.range (L.length + 1))
  rw [List.range_succ, List.map_append, List.map_congr_left (g := lsv (L ++ [x])) (fun k hk => by
    unfold lsv
    rw [getD_snoc_lt (List.mem_range.1 hk)])]
  simp [lsv]
/-- lines in memory -/
def LsAt (w : World) (A : Option Addr) (L : List (List UInt8)) : Prop := RowT (fun _ => True) w 9 1 A L.length (fun k _ => lsv L k)
theorem LsAt.below {w w1 : World} {A : Option Addr} {L : List (List UInt8)} (h : LsAt w A L) (k : Below w.heap.size w w1) : LsAt w1 A L := RowT.below h k
theorem LsAt.only {w w1 : World} {A : Option Addr} {L : List (List UInt8)} {S : Nat → Prop} (h : LsAt w A L) (k : Only S w w1) (hn : ∀ b cur, w.heap[b]? = some (.cells cur 9 (0, 0)) → ¬ S b) : LsAt w1 A L := RowT.only h k (fun b cur _ hb => hn b cur hb)
theorem lsAt_own {w : World} {z c : Nat} {L : List (List UInt8)} {A : Option Addr} (h : w.ownsRow z 9 1 (.slice A L.length c) L.length ((List.range L.length).map (lsv L))) : LsAt w A L := fun hn => by
  obtain ⟨b, off, cur, e, _, hh, hc⟩ := own_rowT h hn
  refine ⟨b, off, cur, e, trivial, hh, fun k hk j hj => ?_⟩
  obtain rfl : j = 0 := by omega
  rw [hc k hk 0 hj]
  simp [hk]
theorem lin_step {txt W : List UInt8} {i : Nat} {b : UInt8} (h : txt[i]? = some b) : linA (txt.drop i) W = (if b = 10 then W :: linA (txt.drop (i + 1)) [] else linA (txt.drop (i + 1)) (W ++ [b])) ∧ tlA (txt.drop i) W = (if b = 10 then tlA (txt.drop (i + 1)) [] else tlA (txt.drop (i + 1)) (W ++ [b])) := by
  rw [drop_at h]
  exact ⟨rfl, rfl⟩
theorem ne10 {b : UInt8} (h : b ≠ 10) : ((b.toNat : Int) == 10) = false := by
  rw [beq_eq_false_iff_ne]
  intro e
  exact h (UInt8.toNat_inj.1 (by rw [show (10 : UInt8).toNat = 10 from rfl]; omega))

set_option maxRecDepth 100000 in
set_option maxHeartbeats 8000000 in
theorem lines_any (txt : List UInt8) (w : World) (hl : txt.length ≤ 1000000000) :
    Calls Tryd.prog 23 #[.string (bstr txt)] w fun e w' => (∃ A c, e = .returned (.tuple #[.slice A (linA txt []).length c, .bool (tlA txt []).isEmpty]) ∧ LsAt w' A (linA txt [])) ∧ Below w.heap.size w w' := by
  obtain ⟨LS, hLS⟩ : ∃ L, L = linA txt [] := ⟨_, rfl⟩
  obtain ⟨T, hT⟩ : ∃ T, T = tlA txt [] := ⟨_, rfl⟩
  rw [← hLS, ← hT]
  have H0 : Hid (LS = [] ++ linA (txt.drop 0) [] ∧ T = tlA (txt.drop 0) []) := Lib.hid ⟨hLS, hT⟩
  obtain ⟨s, hse⟩ : ∃ s, s = bstr txt := ⟨_, rfl⟩
  have hsz : s.size = txt.length := by rw [hse]; exact bstr_size txt
  rw [← hse]
  have HSE := Lib.hid hse
  clear hse hLS hT
  go_enter Tryd.func23, Tryd.ntmps23
  go_wp2_with fail
  go_loopw [4, 5, 6] (fun vo vw vi wr => ∃ (i : Nat) (V : List (List UInt8)) (W : List UInt8) (A : Option Addr) (c : Nat), i ≤ txt.length ∧ V.length ≤ i ∧ W.length ≤ i ∧ vo = .slice A V.length c ∧ vw = .string (bstr W) ∧ vi = .int .i64 i ∧ Hid (LS = V ++ linA (txt.drop i) W ∧ T = tlA (txt.drop i) W) ∧ Hid (Below w.heap.size w wr) ∧ Hid (wr.ownsRow w.heap.size 9 1 (.slice A V.length c) V.length ((List.range V.length).map (lsv V)))) (fun _ _ vi _ => txt.length - (intOf vi).toNat)
  case atStart => exact ⟨0, [], [], none, 0, by omega, Nat.le_refl _, Nat.le_refl _, rfl, rfl, rfl, H0, Lib.hid (Below.refl _ _), Lib.hid (World.ownsRow_nil _ _ _ _)⟩
  case round =>
    clear H0
    obtain ⟨i, V, W, A, c, hi, hVi, hWi, rfl, rfl, rfl, HI, HB, HO⟩ := hrel
    obtain ⟨wo, hwo⟩ : ∃ x, x = wr := ⟨_, rfl⟩
    subst hwo
    obtain ⟨q, hq⟩ : ∃ q, q = bstr W := ⟨_, rfl⟩
    have hqs : q.size = W.length := by rw [hq]; exact bstr_size W
    have hqe : (q.toList == []) = W.isEmpty := by rw [hq, bstr_toL]; cases W <;> rfl
    rw [← hq]
    have HQ := Lib.hid hq
    clear hq
    by_cases hlt : i < txt.length
    · have hls : i < s.size := by omega
      obtain ⟨b, hbe⟩ : ∃ b : UInt8, s[i]'hls = b := ⟨_, rfl⟩
      have HXB : Hid (txt[i]? = some b) := Lib.hid (by
        have h := Lib.data_getElem? s i hls
        rw [hbe, HSE.out, bstr_list] at h; exact h)
      by_cases h10 : b = 10
      · subst h10
        have hzz := HB.out.size
        have HI2 : Hid (LS = (V ++ [W]) ++ linA (txt.drop (i + 1)) [] ∧ T = tlA (txt.drop (i + 1)) []) := Lib.hid (by
          obtain ⟨e1, e2⟩ := HI.out
          have h := lin_step (W := W) HXB.out
          rw [h.1, if_pos rfl] at e1
          rw [h.2, if_pos rfl] at e2
          exact ⟨by rw [e1]; simp, e2⟩)
        clear hqe
        go_wp2_with (at_builtin; refine wp_append rfl (.tmp 17) (.tmp 19) _ rfl elSt w.heap.size A V.length c _ rfl (HO.out.alloc _) _ 1 1 [.string q] rfl (src_new _ _ _ rfl) (by omega) (sz_alloc hzz) ?_; intro A' c' w4 ho hk' hb')
        have HB4 : Hid (Below w.heap.size w w4) := Lib.hid (HB.out.trans ((((Only.refl (blockOf A) wo).alloc _).trans hk').below (fun k _ hk => own_base HO.out k hk) hzz))
        have hl2 : (V ++ [W]).length = V.length + 1 := by simp
        rw [HQ.out, lsv_more] at ho
        exact ⟨⟨i + 1, V ++ [W], [], A', c', by omega, by rw [hl2]; omega, by simp, by rw [hl2], rfl, by go_num, HI2, HB4, Lib.hid (by rw [hl2] at ho ⊢; exact ho)⟩, by simp [intOf]; omega⟩
      · have hn10 := ne10 h10
        have HI2 : Hid (LS = V ++ linA (txt.drop (i + 1)) (W ++ [b]) ∧ T = tlA (txt.drop (i + 1)) (W ++ [b])) := Lib.hid (by
          obtain ⟨e1, e2⟩ := HI.out
          have h := lin_step (W := W) HXB.out
          rw [h.1, if_neg h10] at e1
          rw [h.2, if_neg h10] at e2
          exact ⟨e1, e2⟩)
        have HBS : Hid (bstr W ++ s.extract i (i + 1) = bstr (W ++ [b])) := Lib.hid (bstr_more (by rw [HSE.out, bstr_list]; exact HXB.out))
        clear h10 hqe
        go_wp2_with fail
        refine ⟨⟨i + 1, V, W ++ [b], A, c, by omega, by omega, by simp; omega, rfl, ?_, by go_num, HI2, HB, HO⟩, by simp [intOf]; omega⟩
        rw [← HBS.out, HQ.out]
        try rfl
    · obtain rfl : txt.length = i := by omega
      have HF : Hid (LS = V ∧ T = W) := Lib.hid (by
        obtain ⟨e1, e2⟩ := HI.out
        rw [List.drop_length] at e1 e2
        exact ⟨by rw [e1]; simp [linA], e2⟩)
      have HA := Lib.hid (lsAt_own HO.out)
      clear hlt
      go_wp2_with fail
      go_ret2
      refine ⟨⟨A, c, ?_, ?_⟩, HB.out⟩
      · rw [HF.out.1, HF.out.2]; rfl
      · rw [HF.out.1]; exact HA.out
end Go.Proofs.YtngjbiipgbeemaaDoor
