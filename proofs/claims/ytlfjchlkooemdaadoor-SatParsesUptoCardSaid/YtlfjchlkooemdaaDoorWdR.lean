/- The reference's words of a formula's text, walked. Condition: the text is shorter than 1000000000 bytes. -/
import Derived.Test.YtlfjchlkooemdaaDoorSwW
namespace Go.Proofs.YtlfjchlkooemdaaDoor
open Go.RowKit Go.Shelf Go.Deep

theorem elWr : Elem Tryd.prog 48 51 2 24 := elem_mk Tryd.underlying48 (show (Tryd.prog.info? 51).map (fun i => (i.zero, i.size, i.bytes)) = some (some (.agg #[.string ⟨#[]⟩, .int .i64 0]), 2, 24) by kernel_rfl) rfl (by omega) (by omega)
theorem bstr_toL (l : List UInt8) : (bstr l).toList = l := by rw [ByteArray.toList_eq]; rfl
theorem scan_end (i : Nat) (W : List UInt8) (m : Nat) : scan [] i W m = if W = [] then [] else [(W, i - W.length)] := by simp [scan]
theorem drop_at {x : List UInt8} {i : Nat} {b : UInt8} (h : x[i]? = some b) : x.drop i = b :: x.drop (i + 1) := by
  obtain ⟨hl, rfl⟩ := List.getElem?_eq_some_iff.1 h
  exact List.drop_eq_getElem_cons hl
theorem scan_ns {x : List UInt8} {i m : Nat} {b : UInt8} (W : List UInt8) (h : x[i]? = some b) (hm : m = 0 ∨ m = 1) (hb : isSp b = false) (hc : ¬ (m = 0 ∧ b = 99)) : scan (x.drop i) i W m = scan (x.drop (i + 1)) (i + 1) (W ++ [b]) 1 := by
  rw [drop_at h]
  simp only [scan]
  rw [if_neg (by omega), if_neg hc, if_pos hb]
theorem scan_sp {x : List UInt8} {i m : Nat} {b : UInt8} (W : List UInt8) (h : x[i]? = some b) (hm : m = 0 ∨ m = 1) (hb : isSp b = true) : scan (x.drop i) i W m = (if W = [] then [] else [(W, i - W.length)]) ++ scan (x.drop (i + 1)) (i + 1) [] (if b = 10 then 0 else m) := by
  rw [drop_at h]
  simp only [scan]
  rw [if_neg (by omega), if_neg (by rintro ⟨_, rfl⟩; exact absurd hb (by decide)), if_neg (by simp [hb])]
theorem scan_rem {x : List UInt8} {i : Nat} (h : x[i]? = some 99) : scan (x.drop i) i [] 0 = scan (x.drop i) i [] 2 := by
  rw [drop_at h]
  simp only [scan]
  rw [if_neg (by omega), if_pos (by simp), if_pos trivial, if_neg (by decide)]
theorem scan_in2 {x : List UInt8} {i : Nat} {b : UInt8} (h : x[i]? = some b) (hb : b ≠ 10) : scan (x.drop i) i [] 2 = scan (x.drop (i + 1)) (i + 1) [] 2 := by
  rw [drop_at h]
  simp only [scan]
  rw [if_pos trivial, if_neg hb]
theorem scan_out2 {x : List UInt8} {i : Nat} (h : x[i]? = some 10) : scan (x.drop i) i [] 2 = scan (x.drop (i + 1)) (i + 1) [] 0 := by
  rw [drop_at h]
  simp only [scan]
  rw [if_pos trivial, if_pos trivial]
theorem not_sp {b : UInt8} (h : isSp b = false) : ((b.toNat : Int) != 32) = true ∧ ((b.toNat : Int) != 9) = true ∧ ((b.toNat : Int) != 10) = true := by
  have hk : ∀ c : UInt8, isSp c = true → ((b.toNat : Int) != (c.toNat : Int)) = true := fun c hc => by
    rw [bne_iff_ne]
    intro e
    have : b = c := UInt8.toNat_inj.1 (by omega)
    rw [this, hc] at h; cases h
  exact ⟨hk 32 rfl, hk 9 rfl, hk 10 rfl⟩
theorem bstr_more {W : List UInt8} {s : ByteArray} {i : Nat} {b : UInt8} (h : s.data.toList[i]? = some b) : bstr W ++ s.extract i (i + 1) = bstr (W ++ [b]) := by
  rw [← bstr_of (bstr W ++ s.extract i (i + 1))]
  refine congrArg bstr ?_
  rw [ByteArray.data_append, Array.toList_append, Lib.extract_data, bstr_list]
  refine congrArg (W ++ ·) ?_
  rw [drop_at h, Nat.add_sub_cancel_left]; rfl
theorem sp_three {b : UInt8} (h : isSp b = true) : b = 32 ∨ b = 9 ∨ b = 10 := by
  unfold isSp at h
  simp only [Bool.or_eq_true, beq_iff_eq] at h
  rcases h with (h | h) | h
  · exact .inl h
  · exact .inr (.inl h)
  · exact .inr (.inr h)
theorem not_c {b : UInt8} (h : b ≠ 99) : ((b.toNat : Int) == 99) = false := by
  rw [beq_eq_false_iff_ne]
  intro e
  exact h (UInt8.toNat_inj.1 (by rw [show (99 : UInt8).toNat = 99 from rfl]; omega))
/-- where the scan stands -/
structure WrI (w : World) (txt : List UInt8) (i : Nat) (V : List Wd0) (W : List UInt8) (st : Bool) (A : Option Addr) (c : Nat) (wr : World) : Prop where
  emp : st = true → W = []
  len : W.length ≤ i
  num : V.length ≤ i
  eq : i ≤ txt.length → V ++ scan (txt.drop i) i W (if st = true then 0 else 1) = scan txt 0 [] 0
  fin : i = txt.length + 1 → V = scan txt 0 [] 0 ∧ W = []
  own : Grow w 51 2 A V.length c (flatF 2 (wv V) V.length) wr

theorem WrI.char {w wr : World} {txt W : List UInt8} {i c : Nat} {b : UInt8} {V : List Wd0} {st : Bool} {A : Option Addr} (h : WrI w txt i V W st A c wr) (hx : txt[i]? = some b) (hb : isSp b = false) (hr : ¬ (st = true ∧ b = 99)) : WrI w txt (i + 1) V (W ++ [b]) false A c wr := by
  have hlt := (List.getElem?_eq_some_iff.1 hx).1
  refine ⟨fun e => Bool.noConfusion e, (by have := h.len; rw [List.length_append]; exact Nat.succ_le_succ this), Nat.le_succ_of_le h.num, fun _ => ?_, fun e => by omega, h.own⟩
  rw [← h.eq (by omega), scan_ns W hx (by cases st <;> simp) hb (by
    rintro ⟨e1, e2⟩
    cases st
    · simp at e1
    · exact hr ⟨rfl, e2⟩)]
  rfl
theorem WrI.space {w wr w1 : World} {txt W : List UInt8} {i c c' : Nat} {b : UInt8} {V V' : List Wd0} {st st' : Bool} {A A' : Option Addr} (h : WrI w txt i V W st A c wr) (hx : txt[i]? = some b) (hb : isSp b = true)
    (hV : V' = V ++ (if W = [] then [] else [(W, i - W.length)])) (hst : st' = if b = 10 then true else st) (ho : Grow w 51 2 A' V'.length c' (flatF 2 (wv V') V'.length) w1) : WrI w txt (i + 1) V' [] st' A' c' w1 := by
  have hlt := (List.getElem?_eq_some_iff.1 hx).1
  refine ⟨fun _ => rfl, Nat.zero_le _, ?_, fun _ => ?_, fun e => by omega, ho⟩
  · rw [hV]; have := h.num; split <;> simp <;> omega
  · have hm : (if st' = true then 0 else 1) = (if b = 10 then 0 else if st = true then 0 else 1) := by
      subst hst
      by_cases e : b = 10
      · simp [e]
      · cases st <;> simp [e]
    rw [← h.eq (by omega), scan_sp W hx (by cases st <;> simp) hb, hV, List.append_assoc, hm]
theorem WrI.fine {w wr w1 : World} {txt W : List UInt8} {c c' : Nat} {V V' : List Wd0} {st : Bool} {A A' : Option Addr} (h : WrI w txt txt.length V W st A c wr)
    (hV : V' = V ++ (if W = [] then [] else [(W, txt.length - W.length)])) (ho : Grow w 51 2 A' V'.length c' (flatF 2 (wv V') V'.length) w1) : WrI w txt (txt.length + 1) V' [] false A' c' w1 := by
  refine ⟨fun _ => rfl, Nat.zero_le _, ?_, fun e => by omega, fun _ => ⟨?_, rfl⟩, ho⟩
  · rw [hV]; have := h.num; split <;> simp <;> omega
  · rw [← h.eq (Nat.le_refl _), List.drop_length, scan_end, hV]
theorem grow_word {w wr w1 : World} {V : List Wd0} {W : List UInt8} {A A' : Option Addr} {c c' p : Nat} {q : ByteArray} {o : Obj} (h : Grow w 51 2 A V.length c (flatF 2 (wv V) V.length) wr) (hq : q = bstr W)
    (ho : w1.ownsRow w.heap.size 51 2 (.slice A' (V.length + 1) c') (V.length + 1) (flatF 2 (wv V) V.length ++ [.string q, .int .i64 (p : Int)])) (hk : Only (blockOf A) (wr.alloc o) w1) :
    Grow w 51 2 A' (V ++ [(W, p)]).length c' (flatF 2 (wv (V ++ [(W, p)])) (V ++ [(W, p)]).length) w1 := by
  have hl : (V ++ [(W, p)]).length = V.length + 1 := by simp
  rw [hq, wv_more, hl] at ho
  rw [hl]
  exact (Grow.alloc h o).push ho hk

set_option maxRecDepth 100000 in
set_option maxHeartbeats 16000000 in
theorem refWords_any (txt : List UInt8) (w : World) (hs : txt.length ≤ 1000000000) :
    Calls Tryd.prog 13 #[.string (bstr txt)] w fun e w' => (∃ A c, e = .returned (.slice A (scan txt 0 [] 0).length c) ∧ RowT (fun _ => True) w' 51 2 A (scan txt 0 [] 0).length (wv (scan txt 0 [] 0))) ∧ Below w.heap.size w w' := by
  obtain ⟨s, hse⟩ : ∃ s, s = bstr txt := ⟨_, rfl⟩
  have hsz : s.size = txt.length := by rw [hse]; exact bstr_size txt
  rw [← hse]
  have HSE := Lib.hid hse
  clear hse
  go_enter Tryd.func13, Tryd.ntmps13
  go_wp2_with fail
  go_loopw [3, 4, 5, 6] (fun vo vw vs vi wr => ∃ (i : Nat) (V : List Wd0) (W : List UInt8) (st : Bool) (A : Option Addr) (c : Nat), i ≤ txt.length + 1 ∧ vo = .slice A V.length c ∧ vw = .string (bstr W) ∧ vs = .bool st ∧ vi = .int .i64 i ∧ Hid (WrI w txt i V W st A c wr)) (fun _ _ _ vi _ => txt.length + 1 - (intOf vi).toNat)
  case atStart => exact ⟨0, [], [], true, none, 0, by omega, rfl, rfl, rfl, rfl, Lib.hid ⟨fun _ => rfl, Nat.le_refl _, Nat.le_refl _, fun _ => rfl, fun h => by omega, Grow.start _ _ _⟩⟩
  case round =>
    obtain ⟨i, V, W, st, A, c, hi, rfl, rfl, rfl, rfl, HI⟩ := hrel
    by_cases hle : i ≤ txt.length
    · by_cases hlt : i < txt.length
      · have hls : i < s.size := by omega
        obtain ⟨b, hbe⟩ : ∃ b : UInt8, s[i]'hls = b := ⟨_, rfl⟩
        have HXB : Hid (txt[i]? = some b) := Lib.hid (by
          have h := Lib.data_getElem? s i hls
          rw [hbe, HSE.out, bstr_list] at h; exact h)
        obtain ⟨q, hq⟩ : ∃ q, q = bstr W := ⟨_, rfl⟩
        have hqs : q.size = W.length := by rw [hq]; exact bstr_size W
        have hqe : q.toList.isEmpty = W.isEmpty := by rw [hq, bstr_toL]
        have hWi : W.length ≤ i := HI.out.len
        rw [← hq]
        have HQ := Lib.hid hq
        clear hq
        by_cases hrem : st = true ∧ b = 99
        · obtain ⟨rfl, rfl⟩ := hrem
          have hW := HI.out.emp rfl
          subst hW
          have hqe2 : q.toList.isEmpty = true := by rw [hqe]; rfl
          have HE : Hid (V ++ scan (txt.drop i) i [] 2 = scan txt 0 [] 0) := Lib.hid (by rw [← scan_rem HXB.out]; exact HI.out.eq (by omega))
          have hnum := HI.out.num
          have HG := Lib.hid HI.out.own
          obtain ⟨wo, hwo⟩ : ∃ x, x = wr := ⟨_, rfl⟩
          subst hwo
          clear hqe HI HXB hle
          go_wp2_with fail
          go_loopw [6] (fun vj wr => ∃ j : Nat, j ≤ txt.length ∧ V.length ≤ j ∧ i ≤ j ∧ vj = .int .i64 j ∧ wr = wo ∧ Hid (V ++ scan (txt.drop j) j [] 2 = scan txt 0 [] 0)) (fun vj _ => txt.length - (intOf vj).toNat)
          case atStart => exact ⟨i, by omega, hnum, Nat.le_refl _, rfl, rfl, HE⟩
          case round =>
            clear HE
            obtain ⟨j, hj, hVj, hij, rfl, rfl, HE⟩ := hrel
            clear hbe hls hlt hi hnum hWi
            by_cases hlt : j < txt.length
            · have hls : j < s.size := by omega
              obtain ⟨b, hbe⟩ : ∃ b : UInt8, s[j]'hls = b := ⟨_, rfl⟩
              have HXB : Hid (txt[j]? = some b) := Lib.hid (by
                have h := Lib.data_getElem? s j hls
                rw [hbe, HSE.out, bstr_list] at h; exact h)
              by_cases h10 : b = 10
              · subst h10
                go_wp2_with fail
                refine ⟨⟨j + 1, V, [], true, A, c, by omega, rfl, rfl, rfl, by go_num, Lib.hid ⟨fun _ => rfl, Nat.zero_le _, Nat.le_succ_of_le hVj, fun _ => ?_, fun e => by omega, HG.out⟩⟩, by simp [intOf] <;> omega⟩
                rw [if_pos rfl, ← scan_out2 HXB.out]; exact HE.out
              · have hn10 : ((b.toNat : Int) != 10) = true := by
                  rw [bne_iff_ne]
                  intro e
                  exact h10 (UInt8.toNat_inj.1 (by rw [show (10 : UInt8).toNat = 10 from rfl]; omega))
                have H10 := Lib.hid h10
                clear h10
                go_wp2_with fail
                go_roundw
                case rel => exact ⟨j + 1, by omega, by omega, by omega, by go_num, trivial, Lib.hid (by rw [← scan_in2 HXB.out H10.out]; exact HE.out)⟩
                case measure => simp [intOf]; omega
            · obtain rfl : txt.length = j := by omega
              have HF : Hid (V = scan txt 0 [] 0) := Lib.hid (by
                have h := HE.out
                rw [List.drop_length, scan_end] at h
                simpa using h)
              clear HE hlt
              go_wp2_with fail
              refine ⟨⟨txt.length + 1, V, [], false, A, c, by omega, rfl, rfl, rfl, by go_num, Lib.hid ⟨fun e => Bool.noConfusion e, Nat.zero_le _, Nat.le_succ_of_le hVj, fun e => by omega, fun _ => ⟨HF.out, rfl⟩, HG.out⟩⟩, by simp [intOf] <;> omega⟩
        · have hrm2 : st = false ∨ st = true ∧ b ≠ 99 := by cases st <;> simp_all
          have HRM := Lib.hid hrem
          cases hsp : isSp b
          · obtain ⟨h32, h9, h10⟩ := not_sp hsp
            have HQE := Lib.hid hqe
            have HAD : Hid (q ++ s.extract i (i + 1) = bstr (W ++ [b])) := Lib.hid (by rw [HQ.out]; exact bstr_more (by rw [HSE.out]; exact HXB.out))
            have HSP := Lib.hid hsp
            clear hsp hqe hrem
            rcases hrm2 with rfl | ⟨rfl, h99⟩
            rotate_left
            have h99 := not_c h99
            rotate_left
            have h99 := trivial
            all_goals
              go_wp2_with fail
              refine ⟨⟨i + 1, V, W ++ [b], false, A, c, by omega, rfl, by rw [HAD.out], rfl, by go_num, Lib.hid (HI.out.char HXB.out HSP.out HRM.out)⟩, by simp [intOf] <;> omega⟩
          · have hno : ∀ m, ¬ ((st = true ∧ b = 99) ∧ m = 0) := fun m h => hrem h.1
            have h3 := sp_three hsp
            have HSP := Lib.hid hsp
            clear hsp hno hrm2 HRM hrem
            by_cases hW : W = []
            · have hqe2 : q.toList.isEmpty = true := by rw [hqe, hW]; rfl
              have HW := Lib.hid hW
              clear hqe hW
              rcases h3 with rfl | rfl | rfl
              all_goals
                cases st
                all_goals
                  go_wp2_with fail
                  refine ⟨⟨i + 1, V, [], _, A, c, by omega, rfl, rfl, rfl, by go_num, Lib.hid (HI.out.space HXB.out HSP.out (by rw [HW.out]; simp) (by decide) HI.out.own)⟩, by simp [intOf] <;> omega⟩
            · have hqe2 : q.toList.isEmpty = false := by rw [hqe]; simpa using hW
              have HW := Lib.hid hW
              obtain ⟨p, hp⟩ : ∃ p, p = i - W.length := ⟨_, rfl⟩
              have ew : IntKind.i64.wrap ((i : Int) - (W.length : Int)) = (p : Int) := by rw [IntKind.wrap_i64]; omega
              have HP := Lib.hid hp
              have hnum := HI.out.num
              have hgs := HI.out.own.size
              clear hqe hW hp
              rcases h3 with rfl | rfl | rfl
              all_goals
                cases st
                all_goals
                  go_wp2_with (at_builtin; refine wp_append rfl (.tmp 69) (.tmp 76) _ rfl elWr w.heap.size A V.length c _ rfl (Grow.alloc HI.out.own _).own _ 1 1 [.string q, .int .i64 (p : Int)] rfl (src_news wr #[.string q, .int .i64 (p : Int)] 51 2 1 rfl (by intro u hu; simp at hu; rcases hu with rfl | rfl <;> rfl)) (by omega) (sz_alloc hgs) ?_; intro A' c' w1 ho hk' hb')
                  refine ⟨⟨i + 1, V ++ [(W, p)], [], _, A', c', by omega, by simp, rfl, rfl, by go_num, Lib.hid (HI.out.space HXB.out HSP.out (by rw [if_neg HW.out, HP.out]) (by decide) (grow_word HI.out.own HQ.out ho hk'))⟩, by simp [intOf] <;> omega⟩
      · obtain rfl : i = txt.length := by omega
        obtain ⟨q, hq⟩ : ∃ q, q = bstr W := ⟨_, rfl⟩
        have hqs : q.size = W.length := by rw [hq]; exact bstr_size W
        have hqe : q.toList.isEmpty = W.isEmpty := by rw [hq, bstr_toL]
        have hWi : W.length ≤ txt.length := HI.out.len
        rw [← hq]
        have HQ := Lib.hid hq
        clear hq hlt hle hi
        by_cases hW : W = []
        · have hqe2 : q.toList.isEmpty = true := by rw [hqe, hW]; rfl
          have HW := Lib.hid hW
          clear hqe hW
          go_wp2_with fail
          refine ⟨⟨txt.length + 1, V, [], _, A, c, by omega, rfl, rfl, rfl, by go_num, Lib.hid (HI.out.fine (by rw [HW.out]; simp) HI.out.own)⟩, by simp [intOf] <;> omega⟩
        · have hqe2 : q.toList.isEmpty = false := by rw [hqe]; simpa using hW
          have HW := Lib.hid hW
          obtain ⟨p, hp⟩ : ∃ p, p = txt.length - W.length := ⟨_, rfl⟩
          have ew : IntKind.i64.wrap ((txt.length : Int) - (W.length : Int)) = (p : Int) := by rw [IntKind.wrap_i64]; omega
          have HP := Lib.hid hp
          have hnum := HI.out.num
          have hgs := HI.out.own.size
          clear hqe hW hp
          go_wp2_with (at_builtin; refine wp_append rfl (.tmp 69) (.tmp 76) _ rfl elWr w.heap.size A V.length c _ rfl (Grow.alloc HI.out.own _).own _ 1 1 [.string q, .int .i64 (p : Int)] rfl (src_news wr #[.string q, .int .i64 (p : Int)] 51 2 1 rfl (by intro u hu; simp at hu; rcases hu with rfl | rfl <;> rfl)) (by omega) (sz_alloc hgs) ?_; intro A' c' w1 ho hk' hb')
          refine ⟨⟨txt.length + 1, V ++ [(W, p)], [], _, A', c', by omega, by simp, rfl, rfl, by go_num, Lib.hid (HI.out.fine (by rw [if_neg HW.out, HP.out]) (grow_word HI.out.own HQ.out ho hk'))⟩, by simp [intOf] <;> omega⟩
    · obtain rfl : i = txt.length + 1 := by omega
      have HF := Lib.hid (HI.out.fin rfl)
      have HO := Lib.hid ((own_flat HI.out.own.own).mono (p' := fun _ => True) (fun _ _ _ => trivial))
      have HB := Lib.hid HI.out.own.bel
      clear HI hle
      have hgt : ¬ (((txt.length + 1 : Nat) : Int) ≤ (txt.length : Int)) := by omega
      clear hi
      go_wp2_with fail
      go_ret
      rw [← HF.out.1]
      exact ⟨⟨A, ⟨c, rfl⟩, HO.out⟩, HB.out⟩
end Go.Proofs.YtlfjchlkooemdaaDoor
