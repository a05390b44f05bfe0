/- fabric.Run, walked: of bytes that are a configuration it tells what the fabric shows; of others the fault. Conditions: the bytes and the trace lie in memory. -/
import Derived.Test.YtbnjbclkmjjkhaaDoorFrL
import Derived.Test.YtbnjbclkmjjkhaaDoorCpA
import Derived.Test.YtbnjbclkmjjkhaaDoorCrR
namespace Go.Proofs.YtbnjbclkmjjkhaaDoor
open Go.RowKit Go.Shelf Go.Deep

set_option maxRecDepth 100000 in
set_option maxHeartbeats 16000000 in
theorem run_any (l : List UInt8) (A AT : Option Addr) (c n ct : Nat) (len : Nat → Nat) (T : Nat → Nat → Bool) (w : World) (hm : Mem w A l) (hl : l.length ≤ 140737488355328) (hlc : l.length ≤ c) (hT : Mat w AT n len T) (hn : n * 24 ≤ 140737488355328) (hln : ∀ t, t < n → len t ≤ 140737488355328) :
    Calls Tryd.prog 17 #[.slice A l.length c, .slice AT n ct] w fun e w' =>
      ((GoodB l ∧ ∃ A' c', e = .returned (.tuple #[.slice A' n c', .nilIface]) ∧ Mat w' A' n (fun _ => (dec (body l)).no) ((dec (body l)).sho (inpAt len T))) ∨
        (¬ GoodB l ∧ ∃ z, e = .returned (.tuple #[.slice none 0 0, .iface 63 (.pointer (some ⟨z, 0, none⟩))]) ∧ w'.cell? ⟨z, 0, none⟩ = some (.int .i64 18) ∧ w'.cell? ⟨z, 1, none⟩ = some (.int .i64 0))) ∧ Below w.heap.size w w' := by
  obtain ⟨TA, TC, hT1, hT2⟩ := hT
  have HT1 := Lib.hid hT1; have HT2 := Lib.hid hT2; have HL := Lib.hid hln
  have HLD := Lib.hid (load_any l A c w hm hl hlc)
  clear hm hT1 hT2 hln
  go_enter Tryd.func17, Tryd.ntmps17
  go_wp2_with fail
  refine HLD.out.mono ?_
  rintro e w1 ⟨hres, hb1⟩
  have HB1 := Lib.hid hb1
  clear hb1 HLD
  rcases hres with ⟨hg, X, AC, cC, CA, cc, AR, cR, AO, cO, rfl, hch⟩ | ⟨hg, v, rfl⟩
  rotate_left
  · have HG := Lib.hid hg
    clear hg
    go_wp2_with fail
    have hnew := heap_alloc_new w1 (.cells #[.int .i64 18, .int .i64 0] 41)
    have hbl : Below w1.heap.size w1 (w1.alloc (.cells #[.int .i64 18, .int .i64 0] 41)) := (Below.refl _ _).alloc (Nat.le_refl _) _
    go_ret2
    exact ⟨.inr ⟨HG.out, _, rfl, by rw [cell_of_row _ _ 0 _ _ _ hnew]; rfl, by rw [cell_of_row _ _ 1 _ _ _ hnew]; rfl⟩, HB1.out.trans (hbl.mono HB1.out.size)⟩
  have HG := Lib.hid hg
  obtain ⟨I0, hI0⟩ : ∃ x, tkv (body l) 32 16 = x := ⟨_, rfl⟩
  obtain ⟨R, hR⟩ : ∃ x, tkv (body l) 80 16 = x := ⟨_, rfl⟩
  obtain ⟨C, hC⟩ : ∃ x, tkv (body l) 96 16 = x := ⟨_, rfl⟩
  obtain ⟨N2, hN2⟩ : ∃ x, tkv (body l) 64 16 = x := ⟨_, rfl⟩
  obtain ⟨N1, hN1⟩ : ∃ x, tkv (body l) 48 16 = x := ⟨_, rfl⟩
  have hok := hg.ok
  have hsh := hok.d.sh
  have eI : (dec (body l)).sh 0 = (I0 : Int) := by rw [← hI0]; rfl
  have eN1 : (dec (body l)).no = N1 := hN1
  have eN2 : (dec (body l)).nr = N2 := hN2
  have eC : (dec (body l)).nc = C := hC
  have eR : ∀ i, (dec (body l)).rows i = R := fun _ => hR
  have hi5 : I0 ≤ 500 := by have := hsh.s0; omega
  have hn2 : N2 ≤ 500 := by have := hsh.s2; have h2 : (dec (body l)).sh 2 = (N2 : Int) := (by rw [← hN2]; rfl); omega
  have hn1 : N1 ≤ 500 := by have := hsh.s1; have h2 : (dec (body l)).sh 1 = (N1 : Int) := (by rw [← hN1]; rfl); omega
  have hr5 : 1 ≤ R ∧ R ≤ 500 := by have := hsh.s3; have h2 : (dec (body l)).sh 3 = (R : Int) := (by rw [← hR]; rfl); omega
  have hc1 : 1 ≤ C ∧ C ≤ 100 := by have := hsh.s4; have h2 : (dec (body l)).sh 4 = (C : Int) := (by rw [← hC]; rfl); omega
  have hbox := fun W1 (k : Only (RunS w1 AR) w1 W1) => hch.box' k
  have hcols := fun W1 (k : Only (RunS w1 AR) w1 W1) => hch.cols' k
  have houts := fun W1 (k : Only (RunS w1 AR) w1 W1) => hch.outs' k
  have hregs := own_flatB hch.regs
  have har := fun b (h : blockOf AR b) => (show w.heap.size ≤ b ∧ b < w1.heap.size from ⟨own_base hch.regs b h, own_lt hch.regs b h⟩)
  rw [regV_S] at hregs
  simp only [hI0, hR, hC, hN2, hN1] at hbox hcols houts hregs
  have HBX := Lib.hid hbox; have HCL := Lib.hid hcols; have HOU := Lib.hid houts; have HRG := Lib.hid hregs; have HAR := Lib.hid har; have HOK := Lib.hid hok
  have HI := Lib.hid eI; have HN1 := Lib.hid eN1; have HN2 := Lib.hid eN2; have HC := Lib.hid eC; have HR := Lib.hid eR
  have hzw := HB1.out.size
  clear hg hch hok hsh eI eN1 eN2 eC eR hbox hcols houts hregs har hI0 hR hC hN2 hN1
  go_wp2_with fail
  go_loopw [8, 38] (fun vo vt wr => ∃ (t : Nat) (A : Option Addr) (cA : Nat) (RA : Nat → Option Addr) (RC : Nat → Nat), t ≤ n ∧ vt = .int .i64 t ∧ vo = .slice A t cA ∧ Hid (OwnMat wr w1.heap.size A t cA N1 ((dec (body l)).sho (inpAt len T)) RA RC) ∧ Hid (RowT (blockOf AR) wr 89 2 AR N2 (regS (body l) (((dec (body l)).stt (inpAt len T) t)))) ∧ Hid (Only (RunS w1 AR) w1 wr)) (fun _ vt _ => n - (intOf vt).toNat)
  case atStart => exact ⟨0, none, 0, fun _ => none, fun _ => 0, by omega, rfl, rfl, Lib.hid ⟨World.ownsRow_nil _ _ _ _, fun i hi => by omega⟩, HRG, Lib.hid (Only.refl _ _)⟩
  case round =>
    obtain ⟨t, AA, cA, RA, RC, ht, rfl, rfl, HM, HS, HO⟩ := hrel
    obtain ⟨wo, hwo⟩ : ∃ x, x = wr := ⟨_, rfl⟩
    subst hwo
    have hz1 : w1.heap.size ≤ wo.heap.size := HO.out.size
    by_cases hlt : t < n
    · have hbw : Below w.heap.size w wo := HB1.out.trans (HO.out.below (B := w.heap.size) (fun b _ h => by rcases h with h | h; exact (HAR.out b h).1; omega) hzw)
      obtain ⟨bT, oT, rfl, t0⟩ := (HT1.out.keeps (Keeps.of_below hbw)).at_ hlt
      obtain ⟨x0, x1, x2, x3, x4⟩ := chip_cell (HBX.out wo HO.out)
      have hmk : ∀ W : World, (Instr.makeSlice 35 (.int .i64 (2 + (I0 : Int))) (.int .i64 (2 + (I0 : Int) + (N2 : Int)))).run Tryd.prog W = .ok (.slice (some ⟨W.heap.size, 0, none⟩) (2 + I0) (2 + I0 + N2)) (W.alloc (.cells (madeCells #[.bool false] (2 + I0 + N2)) 4)) := fun W => by
        have h := mk_bools (2 + I0) (2 + I0 + N2) (by omega) (by omega) W
        push_cast at h
        exact h
      have HBW := Lib.hid hbw
      clear hbw
      have ew1 : IntKind.i64.wrap (2 + (I0 : Int)) = 2 + (I0 : Int) := by rw [IntKind.wrap_i64]; omega
      have ew2 : IntKind.i64.wrap (2 + (I0 : Int) + (N2 : Int)) = 2 + (I0 : Int) + (N2 : Int) := by rw [IntKind.wrap_i64]; omega
      go_upto_region 8 with (fail)
      clear t0
      refine wp_region_z (fun w' => w'.cell? ⟨X, 0, none⟩ = some (.int .i64 (I0 : Nat)) ∧ w'.cell? ⟨X, 3, none⟩ = some (.slice (AR) N2 cR)) [0, 1, 2, 3, 4, 5, 6, 7, 8, 9, 10, 11, 12, 13, 14, 15] [] (by kernel_rfl) (by kernel_rfl) (by kernel_rfl) (by rfl) (fun _ _ _ _ e h => ⟨e.symm.trans h.1, h.2⟩) ⟨x0, x3⟩ ?_
      iterate 16
        refine Heads.step (v := ?_) rfl (by first | (go_simp; done) | rfl) (fun W hW => ?_) ?_
        rotate_left
        · (obtain ⟨t0, t1⟩ := hW; go_simp; try with_reducible rfl)
      refine AnyZ.one (i := 16) (by kernel_rfl) rfl (fun K hK => ?_)
      go_simp
      have hA0 : Arr (wo.alloc (.cells (madeCells #[.bool false] (2 + I0 + N2)) 4)).drew wo.heap.size 4 (2 + I0 + N2) (fun _ => .bool false) := (Arr.made wo (.bool false) (2 + I0 + N2) 4).heap rfl
      have hbl : Below wo.heap.size wo (wo.alloc (.cells (madeCells #[.bool false] (2 + I0 + N2)) 4)).drew := ((Below.refl _ _).alloc (Nat.le_refl _) _).drew
      have kp := Keeps.of_below hbl
      replace x0 := kp _ _ x0; replace x3 := kp _ _ x3
      clear kp
      generalize (wo.alloc (.cells (madeCells #[.bool false] (2 + I0 + N2)) 4)).drew = wa at *
      refine hK _ _ (fun _ => ⟨x0, x3⟩) ?_
      clear hK
      refine AnyZ.mid [17] [] 0 rfl (by kernel_rfl) (by kernel_rfl) (by kernel_rfl) (fun _ _ _ _ e h => ⟨e.symm.trans h.1, h.2⟩) ⟨x0, x3⟩ ?_
      iterate 1
        refine Heads.step (v := ?_) rfl (by first | (go_simp; done) | rfl) (fun W hW => ?_) ?_
        rotate_left
        · (obtain ⟨t0, t1⟩ := hW; go_simp; try with_reducible rfl)
      refine AnyZ.done (by kernel_rfl) ?_
      go_simp
      have hcz := hA0.cell (k := 1) (by omega); have hcf := hA0.thaw 1
      have hA1 : Arr (wa.setCell ⟨wo.heap.size, 1, none⟩ (.bool true)) wo.heap.size 4 (2 + I0 + N2) (fun j => .bool (decide (j = 1))) := hA0.set (fun j _ hj => by simp [hj]) rfl
      have hO1 : Only (RunS w1 AR) w1 (wa.setCell ⟨wo.heap.size, 1, none⟩ (.bool true)) := (HO.out.call hbl).setCell (p := ⟨wo.heap.size, 1, none⟩) (fun h => by simp at h; omega) _
      have hbl1 : Below wo.heap.size wo (wa.setCell ⟨wo.heap.size, 1, none⟩ (.bool true)) := hbl.setCell (p := ⟨wo.heap.size, 1, none⟩) (Nat.le_refl _) _
      have hsr : Row1 (wa.setCell ⟨wo.heap.size, 1, none⟩ (.bool true)) (TA t) (min (len t) I0) (fun j => .bool (T t j)) := fun h0 => by
        obtain ⟨b, o, e, hc⟩ := ((HT2.out t hlt).keeps (Keeps.of_below (HBW.out.trans (hbl1.mono HBW.out.size)))) (by omega)
        exact ⟨b, o, e, fun k hk => hc k (by omega)⟩
      have HBL1 := Lib.hid hbl1; have HO1 := Lib.hid hO1
      have hle : len t ≤ 140737488355328 := HL.out t hlt
      have hw1o : ∀ w', Only (fun k => k = wo.heap.size) (wa.setCell ⟨wo.heap.size, 1, none⟩ (.bool true)) w' → Only (RunS w1 AR) w1 w' := fun w' h => HO1.out.then_ h (fun b _ e => .inr (by omega))
      have HW1O := Lib.hid hw1o
      clear hbl1 hO1 x0 x1 x2 x3 x4 hmk ew1 ew2 hw1o
      go_upto_region 10 with (fail)
      generalize wa.setCell ⟨wo.heap.size, 1, none⟩ (.bool true) = wb at *
      clear hcz hcf hA0
      go_cut [] (fun wx => Arr wx wo.heap.size 4 (2 + I0 + N2) (over (fun j => .bool (decide (j = 1))) (fun j => .bool (T t j)) 2 (min (len t) I0)) ∧ Only (fun k => k = wo.heap.size) wb wx)
      case first =>
        by_cases hz : I0 + N2 = 0
        · go_wp2_with (with_reducible refine wp_copy rfl (.tmp 62) (.tmp 63) _ _ rfl _ Tryd.underlying35 szB _ _ _ _ _ _ rfl rfl wo.heap.size 2 (2 + I0 + N2) _ _ hA1 (min (len t) I0) _ ?_ ?_ hsr ?_ ?_ ?_; rotate_left 4; intro w' hAc hOc)
          · go_meet; exact ⟨hAc, hOc⟩
          · rfl
          · intro h0; omega
          · omega
          · intro j _; rfl
        · have hlo : 2 < 2 + I0 + N2 := by omega
          go_wp2_with (with_reducible refine wp_copy rfl (.tmp 62) (.tmp 63) _ _ rfl _ Tryd.underlying35 szB _ _ _ _ _ _ rfl rfl wo.heap.size 2 (2 + I0 + N2) _ _ hA1 (min (len t) I0) _ ?_ ?_ hsr ?_ ?_ ?_; rotate_left 4; intro w' hAc hOc)
          all_goals first | (go_meet; exact ⟨hAc, hOc⟩) | rfl | (intro h0; rfl) | omega | (intro j _; rfl)
      case rest =>
        obtain ⟨hAc, hOc⟩ := hcut
        have HO2 := Lib.hid (HW1O.out _ hOc)
        have hbl2 : Below wo.heap.size wo wc := HBL1.out.trans (hOc.below (B := wo.heap.size) (fun b _ e => by omega) HBL1.out.size)
        have hsg : ∀ k, k < 2 + I0 → (over (fun j => Value.bool (decide (j = 1))) (fun j => .bool (T t j)) 2 (min (len t) I0)) k = .bool (((dec (body l)).sig ((inpAt len T) t) ((dec (body l)).stt (inpAt len T) t) 0) k) := fun k hk => by
          show _ = Value.bool (if k = 0 then false else if k = 1 then true else if k < 2 + ((dec (body l)).sh 0).toNat then inpAt len T t (k - 2) else _)
          rw [HI.out]
          unfold over inpAt
          by_cases h2 : 2 ≤ k
          · rw [if_neg (show ¬ k = 0 by omega), if_neg (show ¬ k = 1 by omega), if_pos (show k < 2 + (I0 : Int).toNat by omega)]
            by_cases h3 : k < 2 + min (len t) I0
            · rw [if_pos ⟨h2, h3⟩, if_pos (by omega)]
            · rw [if_neg (fun h => h3 h.2), if_neg (by omega)]
              exact congrArg Value.bool (decide_eq_false (by omega))
          · rw [if_neg (fun h => h2 h.1)]
            by_cases h0 : k = 0
            · subst h0; rfl
            · rw [if_neg h0, if_pos (show k = 1 by omega)]
              exact congrArg Value.bool (decide_eq_true (by omega))
        have hown : OwnBits wc wo.heap.size (some ⟨wo.heap.size, 0, none⟩) (2 + I0) (2 + I0 + N2) ((dec (body l)).sig ((inpAt len T) t) ((dec (body l)).stt (inpAt len T) t) 0) := by
          have h := Arr.own (n := 2 + I0) hAc (by omega) (by simp only [maxLen]; omega) (Nat.le_refl _)
          unfold OwnBits
          rw [List.map_congr_left (g := _) (fun k hk => (hsg k (List.mem_range.1 hk)).symm)]
          exact h
        have HG0 : Hid (GrowB wo (some ⟨wo.heap.size, 0, none⟩) (2 + I0) (2 + I0 + N2) ((dec (body l)).sig ((inpAt len T) t) ((dec (body l)).stt (inpAt len T) t) 0) wc) := Lib.hid ⟨hown, hbl2⟩
        clear hAc hOc hown hsg hbl2 hA1 hsr
        obtain ⟨x0, x1, x2, x3, x4⟩ := chip_cell (HBX.out wc HO2.out)
        obtain ⟨wx, hwx⟩ : ∃ x, x = wc := ⟨_, rfl⟩
        subst hwx
        go_wp2_with fail
        go_loopw [11, 70] (fun vv vk wr => ∃ (k : Nat) (A : Option Addr) (cV : Nat), k ≤ N2 ∧ vk = .int .i64 k ∧ vv = .slice A (2 + I0 + k) cV ∧ Hid (GrowB wo A (2 + I0 + k) cV ((dec (body l)).sig ((inpAt len T) t) ((dec (body l)).stt (inpAt len T) t) 0) wr)) (fun _ vk _ => N2 - (intOf vk).toNat)
        case atStart => exact ⟨0, _, _, by omega, rfl, rfl, HG0⟩
        case round =>
          clear HG0 x0 x1 x2 x3 x4
          obtain ⟨k, AV, cV, hk, rfl, rfl, HGv⟩ := hrel
          by_cases hlk : k < N2
          · -- QB reg
            have hrow := (HS.out.below HGv.out.bel).row
            obtain ⟨bR, oR, hAR, hcR⟩ := hrow (by omega)
            have y0 : wr.cell? ⟨bR, oR + k * 2, none⟩ = some (.bool (((dec (body l)).stt (inpAt len T) t) k)) := hcR k hlk 0 (by omega)
            have y1 : wr.cell? ⟨bR, oR + k * 2 + 1, none⟩ = some (.int .i64 (numD (body l) (.rsel k) : Nat)) := hcR k hlk 1 (by omega)
            have HSG : Hid (((dec (body l)).sig ((inpAt len T) t) ((dec (body l)).stt (inpAt len T) t) 0) (2 + I0 + k) = ((dec (body l)).stt (inpAt len T) t) k) := Lib.hid (by
              show (if 2 + I0 + k = 0 then false else if 2 + I0 + k = 1 then true else if 2 + I0 + k < 2 + ((dec (body l)).sh 0).toNat then _ else ((dec (body l)).stt (inpAt len T) t) (2 + I0 + k - 2 - ((dec (body l)).sh 0).toNat)) = _
              rw [HI.out, if_neg (by omega), if_neg (by omega), if_neg (by omega), show 2 + I0 + k - 2 - (I0 : Int).toNat = k by omega])
            have hgs := HGv.out.size
            clear hcR hrow
            generalize ((dec (body l)).stt (inpAt len T) t) k = β at *
            generalize numD (body l) (.rsel k) = sel at *
            have hbx : Below wr.heap.size wr (wr.alloc (.cells #[.bool β, .int .i64 sel] 89)) := (Below.refl _ _).alloc (Nat.le_refl _) _
            have hzx : wo.heap.size ≤ (wr.alloc (.cells #[.bool β, .int .i64 sel] 89)).heap.size := Nat.le_trans hgs hbx.size
            have HGx : Hid (GrowB wo AV (2 + I0 + k) cV ((dec (body l)).sig ((inpAt len T) t) ((dec (body l)).stt (inpAt len T) t) 0) (wr.alloc (.cells #[.bool β, .int .i64 sel] 89))) := Lib.hid (Grow.call HGv.out hbx)
            have hx := BoxAt.new wr [.bool β, .int .i64 sel] 89
            have u0 := hx 0 _ rfl
            subst hAR
            go_upto_region 14 with (fail)
            clear y0 y1 hx
            generalize wr.alloc (.cells #[.bool β, .int .i64 sel] 89) = wy at *
            go_wp2_with (at_builtin; refine wp_append rfl (.tmp 74) (.tmp 77) _ rfl elBool wo.heap.size AV (2 + I0 + k) cV _ rfl (Grow.alloc HGx.out _).own _ 1 1 [.bool β] rfl (src_new _ _ _ rfl) (by omega) (sz_alloc hzx) ?_; intro A' c' w1 ho hk' hb')
            go_roundw
            case rel => exact ⟨k + 1, A', c', by omega, by go_num, rfl, Lib.hid (GrowB.push (Grow.alloc HGx.out _) ho hk' (fun _ _ => rfl) HSG.out)⟩
            case measure => simp [intOf]; omega
            -- QE reg
          · obtain rfl : N2 = k := by omega
            have hn0 : 2 + I0 + N2 = (dec (body l)).nsig 0 := by show _ = 2 + ((dec (body l)).sh 0).toNat + (dec (body l)).nr; rw [HI.out, HN2.out]; omega
            have hns : ∀ i, (dec (body l)).nsig (i + 1) = 2 + R := fun i => by show 2 + (dec (body l)).rows i = _; rw [HR.out]
            have HV0 : Hid (RowT (fun b => wo.heap.size ≤ b) wr 4 1 AV ((dec (body l)).nsig 0) (fun j _ => .bool (((dec (body l)).sig ((inpAt len T) t) ((dec (body l)).stt (inpAt len T) t) 0) j))) := Lib.hid (by rw [← hn0]; exact rowT_of_bits HGv.out.own)
            have HB0 := Lib.hid HGv.out.bel
            have HNS := Lib.hid hns
            obtain ⟨y0, y1, y2, y3, y4⟩ := chip_cell (HBX.out wr (HO.out.call HGv.out.bel))
            rw [hn0]
            have HLB : Hid (∀ i, i < C → ∀ k, k < R → ∀ j, j < 4 → numD (body l) (.sel i k j) < (dec (body l)).nsig i) := Lib.hid (fun i hi k hk j hj => by
              have h1 := (HOK.out.l i (by rw [HC.out]; exact hi) k (by rw [HR.out]; exact hk) j hj).2
              rw [← Cf.nsig_src HOK.out (show i ≤ (dec (body l)).nc by rw [HC.out]; omega)] at h1
              have h2 : (dec (body l)).L i k j = (numD (body l) (.sel i k j) : Int) := rfl
              omega)
            clear hn0 hns HGv
            go_wp2_with fail
            clear y0 y1 y2 y3 y4
            go_loopw [11, 85] (fun vv vi wr => ∃ (i : Nat) (A : Option Addr) (cV : Nat), i ≤ C ∧ vi = .int .i64 i ∧ vv = .slice A ((dec (body l)).nsig i) cV ∧ Hid (RowT (fun b => wo.heap.size ≤ b) wr 4 1 A ((dec (body l)).nsig i) (fun j _ => .bool (((dec (body l)).sig ((inpAt len T) t) ((dec (body l)).stt (inpAt len T) t) i) j))) ∧ Hid (Below wo.heap.size wo wr)) (fun _ vi _ => C - (intOf vi).toNat)
            case atStart => exact ⟨0, _, _, by omega, rfl, rfl, HV0, HB0⟩
            case round =>
              clear HV0 HB0
              obtain ⟨i, AW, cW, hi, rfl, rfl, HV, HBo⟩ := hrel
              obtain ⟨w3, hw3⟩ : ∃ x, x = wr := ⟨_, rfl⟩
              subst hw3
              have hz3 := HBo.out.size
              have hO3 := HO.out.call HBo.out
              obtain ⟨y0, y1, y2, y3, y4⟩ := chip_cell (HBX.out w3 hO3)
              by_cases hli : i < C
              · obtain ⟨ba, oa, hAC, c0⟩ := (HCL.out w3 hO3).col hli
                subst hAC
                have hmk : ∀ W : World, (Instr.makeSlice 35 (.int .i64 (2 + (R : Int))) (.int .i64 (2 + (R : Int)))).run Tryd.prog W = .ok (.slice (some ⟨W.heap.size, 0, none⟩) (2 + R) (2 + R)) (W.alloc (.cells (madeCells #[.bool false] (2 + R)) 4)) := fun W => by
                  have h := mk_bools (2 + R) (2 + R) (by omega) (by omega) W
                  push_cast at h
                  exact h
                have ew1 : IntKind.i64.wrap (2 + (R : Int)) = 2 + (R : Int) := by rw [IntKind.wrap_i64]; omega
                have hA0 : Arr (w3.alloc (.cells (madeCells #[.bool false] (2 + R)) 4)) w3.heap.size 4 (2 + R) (fun _ => .bool false) := Arr.made w3 (.bool false) (2 + R) 4
                have hbl : Below w3.heap.size w3 (w3.alloc (.cells (madeCells #[.bool false] (2 + R)) 4)) := (Below.refl _ _).alloc (Nat.le_refl _) _
                go_upto_region 20 with (fail)
                clear hmk ew1 y0 y1 y2 y3 y4 c0
                generalize w3.alloc (.cells (madeCells #[.bool false] (2 + R)) 4) = w4 at *
                have hcz := hA0.cell (k := 1) (by omega); have hcf := hA0.thaw 1
                have hA1 : Arr (w4.setCell ⟨w3.heap.size, 1, none⟩ (.bool true)) w3.heap.size 4 (2 + R) (fun j => .bool (if j < 2 + 0 then ((dec (body l)).sig ((inpAt len T) t) ((dec (body l)).stt (inpAt len T) t) (i + 1)) j else false)) := hA0.set (fun j _ hj => by
                  by_cases h0 : j = 0
                  · subst h0; rfl
                  · simp only [if_neg (show ¬ j < 2 + 0 by omega)]) rfl
                have hbl1 : Below w3.heap.size w3 (w4.setCell ⟨w3.heap.size, 1, none⟩ (.bool true)) := hbl.setCell (p := ⟨w3.heap.size, 1, none⟩) (Nat.le_refl _) _
                have HA1 := Lib.hid hA1; have HBL := Lib.hid hbl1
                clear hA0 hbl hbl1 hA1
                go_wp2_with fail
                clear hcz hcf
                generalize w4.setCell ⟨w3.heap.size, 1, none⟩ (.bool true) = w5 at *
                have hz5 := HBL.out.size
                have hnR : (dec (body l)).rows i = R := HR.out i
                go_loopw [99] (fun vk wr => ∃ k : Nat, k ≤ R ∧ vk = .int .i64 k ∧ Hid (Arr wr w3.heap.size 4 (2 + R) (fun j => .bool (if j < 2 + k then ((dec (body l)).sig ((inpAt len T) t) ((dec (body l)).stt (inpAt len T) t) (i + 1)) j else false))) ∧ Hid (Only (fun b => b = w3.heap.size) w5 wr)) (fun vk _ => R - (intOf vk).toNat)
                case atStart => exact ⟨0, by omega, rfl, HA1, Lib.hid (Only.refl _ _)⟩
                case round =>
                  clear HA1
                  obtain ⟨k, hk, rfl, HA, HOk⟩ := hrel
                  obtain ⟨w6, hw6⟩ : ∃ x, x = wr := ⟨_, rfl⟩
                  subst hw6
                  by_cases hlk : k < R
                  · -- QB cell
                    have hO36 : Only (fun b => False) w3 w6 := ((Only.refl _ w3).call HBL.out).then_ HOk.out (fun b hb e => by omega)
                    have hb36 : Below w3.heap.size w3 w6 := hO36.below (B := w3.heap.size) (fun b _ h => h.elim) (Nat.le_refl _)
                    obtain ⟨bc, oc, hcA, c0, c1, c2, c3, c4⟩ := ((HCL.out w3 hO3).below hb36).cell hli hlk
                    rw [hcA]
                    have hm0 := HLB.out i hli k hlk 0 (by omega); have hm1 := HLB.out i hli k hlk 1 (by omega); have hm2 := HLB.out i hli k hlk 2 (by omega); have hm3 := HLB.out i hli k hlk 3 (by omega)
                    have HSG : Hid (bitAt (numD (body l) (.bits i k) : Nat) (rowB (fun j => ((dec (body l)).sig ((inpAt len T) t) ((dec (body l)).stt (inpAt len T) t) i) (if j = 0 then numD (body l) (.sel i k 0) else if j = 1 then numD (body l) (.sel i k 1) else if j = 2 then numD (body l) (.sel i k 2) else numD (body l) (.sel i k 3))) 4) = ((dec (body l)).sig ((inpAt len T) t) ((dec (body l)).stt (inpAt len T) t) (i + 1)) (2 + k)) := Lib.hid (by
                      show _ = (if 2 + k = 0 then false else if 2 + k = 1 then true else bitAt ((dec (body l)).B i (2 + k - 2)) (rowB (fun j => ((dec (body l)).sig ((inpAt len T) t) ((dec (body l)).stt (inpAt len T) t) i) ((dec (body l)).L i (2 + k - 2) j).toNat) 4))
                      rw [if_neg (by omega), if_neg (by omega), show 2 + k - 2 = k by omega]
                      have e : ∀ j, ((dec (body l)).L i k j).toNat = numD (body l) (.sel i k j) := fun j => Int.toNat_natCast _
                      simp only [rowB, e]
                      rfl)
                    have hBb : numD (body l) (.bits i k) < 65536 := by have h1 := (HOK.out.b i (by rw [HC.out]; exact hli) k (by rw [HR.out]; exact hlk)).2; have h2 : (dec (body l)).B i k = (numD (body l) (.bits i k) : Int) := rfl; omega
                    generalize numD (body l) (.sel i k 0) = l0 at *
                    generalize numD (body l) (.sel i k 1) = l1 at *
                    generalize numD (body l) (.sel i k 2) = l2 at *
                    generalize numD (body l) (.sel i k 3) = l3 at *
                    generalize numD (body l) (.bits i k) = B at *
                    obtain ⟨bV, oV, cur, hAV, hbV, hhV, hcV⟩ := (HV.out.below hb36) (by omega)
                    subst hAV
                    have hvv : ∀ m, m < (dec (body l)).nsig i → w6.cell? ⟨bV, oV + m, none⟩ = some (.bool (((dec (body l)).sig ((inpAt len T) t) ((dec (body l)).stt (inpAt len T) t) i) m)) := fun m hm => by
                      rw [cell_of_row w6 bV _ cur _ _ hhV]
                      have := hcV m hm 0 (by omega)
                      rwa [Nat.mul_one, Nat.add_zero] at this
                    have hx := BoxAt.new w6 [.int .i64 B, .int .i64 l0, .int .i64 l1, .int .i64 l2, .int .i64 l3] 92
                    have hblx : Below w6.heap.size w6 (w6.alloc (.cells #[.int .i64 B, .int .i64 l0, .int .i64 l1, .int .i64 l2, .int .i64 l3] 92)) := (Below.refl _ _).alloc (Nat.le_refl _) _
                    go_upto_region 24 with (fail)
                    have z0 := hx 0 _ rfl; have z1 := hx 1 _ rfl; have z2 := hx 2 _ rfl; have z3 := hx 3 _ rfl; have z4 := hx 4 _ rfl
                    have kx := Keeps.of_below hblx
                    have hvx : ∀ m, m < (dec (body l)).nsig i → (w6.alloc (.cells #[.int .i64 B, .int .i64 l0, .int .i64 l1, .int .i64 l2, .int .i64 l3] 92)).cell? ⟨bV, oV + m, none⟩ = some (.bool (((dec (body l)).sig ((inpAt len T) t) ((dec (body l)).stt (inpAt len T) t) i) m)) := fun m hm => kx _ _ (hvv m hm)
                    have HAx := Lib.hid (HA.out.below hblx); have HOx := Lib.hid (HOk.out.call hblx)
                    clear hvv hcV hhV hx hblx kx c0 c1 c2 c3 c4 hb36 hO36 HA HOk
                    generalize w6.alloc (.cells #[.int .i64 B, .int .i64 l0, .int .i64 l1, .int .i64 l2, .int .i64 l3] 92) = w7 at *
                    obtain ⟨V, hV⟩ : ∃ V, ((dec (body l)).sig ((inpAt len T) t) ((dec (body l)).stt (inpAt len T) t) i) = V := ⟨_, rfl⟩
                    rw [hV] at HSG hvx
                    have HVX := Lib.hid hvx
                    obtain ⟨Lf, hLf⟩ : ∃ Lf : Nat → Nat, Lf = fun j => if j = 0 then l0 else if j = 1 then l1 else if j = 2 then l2 else l3 := ⟨_, rfl⟩
                    have HSG2 : Hid (bitAt (B : Int) (rowB (fun j => V (Lf j)) 4) = ((dec (body l)).sig ((inpAt len T) t) ((dec (body l)).stt (inpAt len T) t) (i + 1)) (2 + k)) := Lib.hid (by rw [hLf]; exact HSG.out)
                    have HLm : Hid (∀ j, j < 4 → Lf j < (dec (body l)).nsig i) := Lib.hid (fun j hj => by
                      rw [hLf]
                      obtain rfl | rfl | rfl | rfl : j = 0 ∨ j = 1 ∨ j = 2 ∨ j = 3 := by omega
                      · exact hm0
                      · exact hm1
                      · exact hm2
                      · exact hm3)
                    have HLI : Hid (∀ j, j < 4 → ∀ W, (Instr.index 51 (.agg #[.int .i64 (l0 : Nat), .int .i64 (l1 : Nat), .int .i64 (l2 : Nat), .int .i64 (l3 : Nat)]) (.int .i64 (j : Nat))).run Tryd.prog W = .ok (.int .i64 (Lf j : Nat)) W) := Lib.hid (fun j hj W => by
                      rw [four_index _ _ _ _ _ _ hj, hLf]
                      obtain rfl | rfl | rfl | rfl : j = 0 ∨ j = 1 ∨ j = 2 ∨ j = 3 := by omega
                      all_goals rfl)
                    clear hV hvx hLf hm0 hm1 hm2 hm3 HSG
                    go_wp2_with fail
                    go_loop [19, 106] (fun vk vj => ∃ j : Nat, j ≤ 4 ∧ vj = .int .i64 j ∧ vk = .int .i64 (rowB (fun j => V (Lf j)) j : Nat)) (fun _ vj => 4 - (intOf vj).toNat)
                    case atStart => exact ⟨0, by omega, rfl, rfl⟩
                    case round =>
                      obtain ⟨j, hj, rfl, rfl⟩ := hrel
                      have hrb := rowB_lt (fun j => V (Lf j)) j
                      by_cases hlj : j < 4
                      · have hfi := HLI.out j hlj w7
                        have v0 := HVX.out (Lf j) (HLm.out j hlj)
                        have hml := HLm.out j hlj
                        have hnx : rowB (fun j => V (Lf j)) (j + 1) = rowB (fun j => V (Lf j)) j + if V (Lf j) then 2 ^ j else 0 := rfl
                        generalize Lf j = m at *
                        generalize hβ : V m = β at *
                        cases β
                        · have HNX : Hid (rowB (fun j => V (Lf j)) (j + 1) = rowB (fun j => V (Lf j)) j) := Lib.hid (by rw [hnx]; simp)
                          clear hnx hrb
                          go_wp2_with fail
                          go_round
                          case rel => exact ⟨j + 1, by omega, by go_num, by rw [HNX.out]⟩
                          case measure => simp [intOf]; omega
                        · have HNX : Hid (rowB (fun j => V (Lf j)) j + 2 ^ j = rowB (fun j => V (Lf j)) (j + 1)) := Lib.hid (by rw [hnx]; simp)
                          have hor := or_pw4 hrb hlj
                          have hw64 : wrap64 ((2 : Int) ^ j) = ((2 ^ j : Nat) : Int) := by
                            obtain rfl | rfl | rfl | rfl : j = 0 ∨ j = 1 ∨ j = 2 ∨ j = 3 := by omega
                            all_goals (unfold wrap64; decide)
                          have hr4 : rowB (fun j => V (Lf j)) j < 16 := Nat.lt_of_lt_of_le hrb (show 2 ^ j ≤ 2 ^ 4 from Nat.pow_le_pow_right (by omega) (by omega))
                          generalize rowB (fun j => V (Lf j)) j = r at *
                          clear hnx hrb
                          go_wp2_with fail
                          go_round
                          case rel => exact ⟨j + 1, by omega, by go_num, by rw [← HNX.out, ← hor]; first | rfl | (push_cast; rfl)⟩
                          case measure => simp [intOf]; omega
                      · obtain rfl : j = 4 := by omega
                        rw [show ((4 : Nat) : Int) = 4 from rfl]
                        obtain ⟨r, hr⟩ : ∃ r, rowB (fun j => V (Lf j)) 4 = r := ⟨_, rfl⟩
                        have hr16 : r < 16 := by rw [← hr]; exact hrb
                        rw [hr] at HSG2 ⊢
                        have hand : bits .and .i64 ((B : Int) / 2 ^ r) 1 = (B : Int) / 2 ^ r % 2 := and_one_i64 (Int.ediv_nonneg (by omega) (Int.le_of_lt (Int.pow_pos (by omega)))) (Int.lt_of_le_of_lt (Int.ediv_le_self _ (by omega)) (by omega))
                        have hcz := HAx.out.cell (k := 2 + k) (by omega); have hcf := HAx.out.thaw (2 + k)
                        have ew2 : IntKind.i64.wrap (2 + (k : Int)) = 2 + (k : Int) := by rw [IntKind.wrap_i64]; omega
                        clear hr hrb
                        go_wp2_with fail
                        have hset := HAx.out.set (k := 2 + k) (x := .bool ((B : Int) / 2 ^ r % 2 == 1)) (V' := fun j => .bool (if j < 2 + (k + 1) then ((dec (body l)).sig ((inpAt len T) t) ((dec (body l)).stt (inpAt len T) t) (i + 1)) j else false)) (fun j _ hne => by
                          by_cases h : j < 2 + k
                          · simp only [if_pos h, if_pos (show j < 2 + (k + 1) by omega)]
                          · simp only [if_neg h, if_neg (show ¬ j < 2 + (k + 1) by omega)]) (by simp only [if_pos (show 2 + k < 2 + (k + 1) by omega)]; rw [← HSG2.out]; rfl)
                        have hos := HOx.out.setCell (p := ⟨w3.heap.size, 2 + k, none⟩) (fun _ => rfl) (.bool ((B : Int) / 2 ^ r % 2 == 1))
                        go_roundw
                        case rel => exact ⟨k + 1, by omega, by go_num, Lib.hid hset, Lib.hid hos⟩
                        case measure => simp [intOf]; omega
                    -- QE cell
                  · obtain rfl : R = k := by omega
                    go_wp2_with fail
                    go_roundw
                    case rel => exact ⟨i + 1, some ⟨w3.heap.size, 0, none⟩, 2 + R, by omega, by go_num, by rw [HNS.out], Lib.hid (fun h0 => by
                      obtain ⟨cur, hh, hs, hcc⟩ := HA.out
                      refine ⟨w3.heap.size, 0, cur, rfl, by omega, hh, fun j hj i2 hi2 => ?_⟩
                      rw [HNS.out] at hj
                      obtain rfl : i2 = 0 := by omega
                      rw [Nat.zero_add, Nat.mul_one, Nat.add_zero, hcc j hj]
                      simp only [if_pos hj]), Lib.hid ((HBo.out.trans (HBL.out.mono hz3)).trans (HOk.out.below (B := wo.heap.size) (fun b _ e => by omega) (by omega)))⟩
                    case measure => simp [intOf]; omega
              · obtain rfl : C = i := by omega
                obtain ⟨w8, hw8⟩ : ∃ x, x = w3 := ⟨_, rfl⟩
                subst hw8
                obtain ⟨bO, oO, eO⟩ : ∃ bO oO, 0 < N1 → AO = some ⟨bO, oO, none⟩ := by
                  by_cases h0 : 0 < N1
                  · obtain ⟨b, o, e, _⟩ := HOU.out w8 hO3 h0
                    exact ⟨b, o, fun _ => e⟩
                  · exact ⟨0, 0, fun h => absurd h h0⟩
                have hmk : ∀ W : World, (Instr.makeSlice 35 (.int .i64 0) (.int .i64 (N1 : Int))).run Tryd.prog W = .ok (.slice (some ⟨W.heap.size, 0, none⟩) 0 N1) (W.alloc (.cells (madeCells #[.bool false] N1) 4)) := fun W => mk_bools 0 N1 (by omega) (by omega) W
                have hrow0 : GrowB w8 (some ⟨w8.heap.size, 0, none⟩) 0 N1 ((dec (body l)).sho (inpAt len T) t) (w8.alloc (.cells (madeCells #[.bool false] N1) 4)) :=
                  ⟨World.ownsRow_made w8 _ _ (Nat.le_refl _) (by simp [maxLen]; omega) (by simp [madeCells]), (Below.refl _ _).alloc (Nat.le_refl _) _⟩
                go_upto_region 36 with (fail)
                clear hmk y0 y1 y2 y3 y4
                generalize w8.alloc (.cells (madeCells #[.bool false] N1) 4) = wh at *
                have HR0 := Lib.hid hrow0
                obtain ⟨y0, y1, y2, y3, y4⟩ := chip_cell (HBX.out wh (hO3.call hrow0.bel))
                clear hrow0
                have HSH : Hid (∀ k, k < N1 → numD (body l) (.out k) < (dec (body l)).nsig C ∧ (dec (body l)).sho (inpAt len T) t k = ((dec (body l)).sig ((inpAt len T) t) ((dec (body l)).stt (inpAt len T) t) C) (numD (body l) (.out k))) := Lib.hid (fun k hk => by
                  have h1 := (HOK.out.o k (by rw [HN1.out]; exact hk)).2
                  rw [Cf.src_end HOK.out, HC.out] at h1
                  have h2 : (dec (body l)).O k = (numD (body l) (.out k) : Int) := rfl
                  refine ⟨by omega, ?_⟩
                  show (dec (body l)).sig _ _ (dec (body l)).nc (numD (body l) (.out k) : Int).toNat = _
                  rw [HC.out, Int.toNat_natCast])
                go_wp2_with fail
                clear y0 y1 y2 y3 y4
                go_loopw [22, 143] (fun vo vk wr => ∃ (k : Nat) (A : Option Addr) (cR : Nat), k ≤ N1 ∧ vk = .int .i64 k ∧ vo = .slice A k cR ∧ Hid (GrowB w8 A k cR ((dec (body l)).sho (inpAt len T) t) wr)) (fun _ vk _ => N1 - (intOf vk).toNat)
                case atStart => exact ⟨0, _, _, by omega, rfl, rfl, HR0⟩
                case round =>
                  clear HR0
                  obtain ⟨k, AQ, cQ, hk, rfl, rfl, HGq⟩ := hrel
                  have hgs := HGq.out.size
                  by_cases hlk : k < N1
                  · -- QB out
                    obtain ⟨bO', oO', eAO, z0⟩ := (HOU.out wr (hO3.call HGq.out.bel)).at_ hlk
                    subst eAO
                    obtain ⟨hmb, hsho⟩ := HSH.out k hlk
                    have HSO := Lib.hid hsho
                    obtain ⟨bV, oV, hAW, v0⟩ := ((bits_of_rowT HV.out).keeps (Grow.keeps HGq.out)).at_ hmb
                    subst hAW
                    generalize numD (body l) (.out k) = m at *
                    clear hsho
                    go_wp2_with (at_builtin; refine wp_append rfl (.tmp 147) (.tmp 152) _ rfl elBool w8.heap.size AQ k cQ _ rfl (Grow.alloc HGq.out _).own _ 1 1 [.bool (((dec (body l)).sig ((inpAt len T) t) ((dec (body l)).stt (inpAt len T) t) C) m)] rfl (src_new _ _ _ rfl) (by omega) (sz_alloc hgs) ?_; intro A' c' w9 ho hk' hb')
                    go_roundw
                    case rel => exact ⟨k + 1, A', c', by omega, by go_num, rfl, Lib.hid (GrowB.push (Grow.alloc HGq.out _) ho hk' (fun _ _ => rfl) HSO.out)⟩
                    case measure => simp [intOf]; omega
                    -- QE out
                  · obtain rfl : N1 = k := by omega
                    obtain ⟨w9, hw9⟩ : ∃ x, x = wr := ⟨_, rfl⟩
                    subst hw9
                    have hbo9 : Below wo.heap.size wo w9 := HBo.out.trans (HGq.out.bel.mono hz3)
                    have hM9 := (HM.out.below hbo9).alloc (.cells #[.slice AQ N1 cQ] 35)
                    have hz9 : w1.heap.size ≤ w9.heap.size := by have := hbo9.size; omega
                    have hba9 : Below w9.heap.size w9 (w9.alloc (.cells #[.slice AQ N1 cQ] 35)) := (Below.refl _ w9).alloc (Nat.le_refl _) _
                    have hrw := ((rowT_of_bits HGq.out.own).mono (p' := fun b => w1.heap.size ≤ b) (fun b _ hb => by omega)).below hba9
                    have hO9 := (HO.out.call hbo9).call hba9
                    have HM9 := Lib.hid hM9; have HRW := Lib.hid hrw; have HO9 := Lib.hid hO9
                    have HV9 := Lib.hid ((HV.out.below HGq.out.bel).below hba9)
                    have HS9 := Lib.hid ((HS.out.below hbo9).below hba9)
                    have hrb9 := fun b => own_base HM9.out.own b
                    clear hM9 hrw hO9 HV HM HGq HBo hbo9 hba9 hO3 HO2 HSH
                    go_wp2_with (at_builtin; refine wp_append rfl (.tmp 155) (.tmp 157) _ rfl elBoolRow w1.heap.size AA t cA _ rfl HM9.out.own _ 1 1 [.slice AQ N1 cQ] rfl (src_new _ _ _ rfl) (by omega) (sz_alloc hz9) ?_; intro A' c' wp ho hk' hb'; have hOp := HO9.out.then_ hk' (fun b _ hb => .inr (hrb9 b hb)); have y3 := (chip_cell (HBX.out wp hOp)).2.2.2.1)
                    have HMP := Lib.hid (HM9.out.push ho hk' HRW.out)
                    have HOP := Lib.hid hOp
                    have HSP : Hid (RowT (blockOf AR) wp 89 2 AR N2 (regS (body l) (((dec (body l)).stt (inpAt len T) t)))) := Lib.hid (HS9.out.only hk' (fun b cur hb _ h => by have := (HAR.out b hb).2; have := hrb9 b h; omega))
                    have HVP := Lib.hid (HV9.out.only hk' (fun b cur _ hc h => own_type (e' := 4) HM9.out.own (by decide) b cur hc h))
                    have hzp : w1.heap.size ≤ wp.heap.size := hOp.size
                    clear ho hk' hb' hOp y3 HM9 HRW HO9 HV9 HS9 hrb9
                    have HNX : Hid (∀ k, k < N2 → numD (body l) (.rsel k) < (dec (body l)).nsig C ∧ ((dec (body l)).stt (inpAt len T) (t + 1)) k = ((dec (body l)).sig ((inpAt len T) t) ((dec (body l)).stt (inpAt len T) t) C) (numD (body l) (.rsel k))) := Lib.hid (fun k hk => by
                      have h1 := (HOK.out.r k (by rw [HN2.out]; exact hk)).2
                      rw [Cf.src_end HOK.out, HC.out] at h1
                      have h2 : (dec (body l)).RS k = (numD (body l) (.rsel k) : Int) := rfl
                      refine ⟨by omega, ?_⟩
                      show (dec (body l)).sig _ _ (dec (body l)).nc (numD (body l) (.rsel k) : Int).toNat = _
                      rw [HC.out, Int.toNat_natCast])
                    go_loopw [164] (fun vk wr => ∃ k : Nat, k ≤ N2 ∧ vk = .int .i64 k ∧ Hid (RowT (blockOf AR) wr 89 2 AR N2 (regS (body l) (fun j => if j < k then ((dec (body l)).stt (inpAt len T) (t + 1)) j else ((dec (body l)).stt (inpAt len T) t) j))) ∧ Hid (Only (blockOf AR) wp wr)) (fun vk _ => N2 - (intOf vk).toNat)
                    case atStart => exact ⟨0, by omega, rfl, by simpa using HSP, Lib.hid (Only.refl _ _)⟩
                    case round =>
                      clear HSP
                      obtain ⟨k, hk, rfl, HSr, HOr⟩ := hrel
                      obtain ⟨wr0, hwr0⟩ : ∃ x, x = wr := ⟨_, rfl⟩
                      subst hwr0
                      have hOR : Only (RunS w1 AR) w1 wr0 := HOP.out.then_ HOr.out (fun b _ h => .inl h)
                      by_cases hlk : k < N2
                      · -- QB st
                        obtain ⟨bR, oR, cur, hAR, hpR, hhR, hcR⟩ := HSr.out (by omega)
                        obtain ⟨hmb, hst⟩ := HNX.out k hlk
                        have hVr := HVP.out.only HOr.out (fun b cur h1 _ h2 => by have := (HAR.out b h2).2; omega)
                        obtain ⟨bV, oV, hAW, v0⟩ := (bits_of_rowT hVr).at_ hmb
                        have x3 := (chip_cell (HBX.out wr0 hOR)).2.2.2.1
                        have y0 : wr0.cell? ⟨bR, oR + k * 2, none⟩ = some (.bool (((dec (body l)).stt (inpAt len T) t) k)) := by
                          rw [cell_of_row wr0 bR _ cur _ _ hhR]
                          have := hcR k hlk 0 (by omega)
                          rw [Nat.add_zero] at this
                          rw [this]
                          simp [regS]
                        have y1 : wr0.cell? ⟨bR, oR + k * 2 + 1, none⟩ = some (.int .i64 (numD (body l) (.rsel k) : Nat)) := by
                          rw [cell_of_row wr0 bR _ cur _ _ hhR]
                          exact hcR k hlk 1 (by omega)
                        have y2 : wr0.frozen? ⟨bR, oR + k * 2, none⟩ = false := by simp [World.frozen?, hhR]
                        have HST := Lib.hid hst
                        have HSx := HSr; have HOx := HOr
                        subst hAW
                        rw [hAR] at x3
                        have HSy : Hid (RowT (blockOf AR) wr0 89 2 (some ⟨bR, oR, none⟩) N2 (regS (body l) (fun j => if j < k then ((dec (body l)).stt (inpAt len T) (t + 1)) j else ((dec (body l)).stt (inpAt len T) t) j))) := Lib.hid (by rw [← hAR]; exact HSr.out)
                        have HARE := Lib.hid hAR
                        clear hcR hhR hst hVr HSr HSx HOx hAR
                        generalize numD (body l) (.rsel k) = m at *
                        generalize ((dec (body l)).sig ((inpAt len T) t) ((dec (body l)).stt (inpAt len T) t) C) m = β at *
                        go_wp2_with fail
                        refine wp_region_z (fun w' => w'.cell? ⟨X, 3, none⟩ = some (.slice (some ⟨bR, oR, none⟩) N2 cR) ∧ w'.cell? ⟨bR, oR + k * 2 + 1, none⟩ = some (.int .i64 (m : Nat)) ∧ w'.cell? ⟨bV, oV + m, none⟩ = some (.bool β)) [0, 1, 2, 3, 4, 5, 6, 7, 8, 9, 10, 11, 12, 13, 14, 15, 16, 17] [18] (by kernel_rfl) (by kernel_rfl) (by kernel_rfl) (by rfl) (fun _ _ _ _ e h => ⟨e.symm.trans h.1, h.2⟩) ⟨x3, y1, v0⟩ ?_
                        iterate 18
                          refine Heads.step (v := ?_) rfl (by first | (go_simp; done) | rfl) (fun W hW => ?_) ?_
                          rotate_left
                          · (obtain ⟨t0, t1, t2⟩ := hW; go_simp; try with_reducible rfl)
                        replace y0 : wr0.drew.cell? ⟨bR, oR + k * 2, none⟩ = _ := y0
                        replace y2 : wr0.drew.frozen? ⟨bR, oR + k * 2, none⟩ = _ := y2
                        refine AnyZ.one (i := 18) (by kernel_rfl) rfl (fun K hK => ?_)
                        go_simp
                        refine hK _ _ (fun h => by cases h) (AnyZ.done (by kernel_rfl) ?_)
                        clear hK
                        go_simp
                        have hset := (RowT.setR (k := k) (v := β) (S' := fun j => if j < k + 1 then ((dec (body l)).stt (inpAt len T) (t + 1)) j else ((dec (body l)).stt (inpAt len T) t) j) HSy.out (fun j hj hne => by
                          by_cases h : j < k
                          · simp only [if_pos h, if_pos (show j < k + 1 by omega)]
                          · simp only [if_neg h, if_neg (show ¬ j < k + 1 by omega)]) (by simp only [if_pos (show k < k + 1 by omega)]; exact HST.out)).below (Below.refl _ (wr0.setCell ⟨bR, oR + k * 2, none⟩ (.bool β))).drew
                        have hos := (HOr.out.setCell (p := ⟨bR, oR + k * 2, none⟩) (fun _ => ⟨_, HARE.out, rfl⟩) (.bool β)).drew
                        have HSN := Lib.hid hset; have HON := Lib.hid hos
                        clear hset hos y0 y1 y2 x3 v0
                        have e := HARE.out
                        subst e
                        go_wp2_with fail
                        go_roundw
                        case rel => exact ⟨k + 1, by omega, by go_num, HSN, HON⟩
                        case measure => simp [intOf]; omega
                        -- QE st
                      · obtain rfl : N2 = k := by omega
                        go_wp2_with fail
                        go_roundw
                        case rel => exact ⟨t + 1, A', c', _, _, by omega, by go_num, rfl, Lib.hid (HMP.out.only HOr.out (fun b hb h => by have := (HAR.out b h).2; omega)), Lib.hid (fun h0 => by
                          obtain ⟨b, o, cur, e, hp, hh, hcc⟩ := HSr.out h0
                          exact ⟨b, o, cur, e, hp, hh, fun j hj i hi => by rw [hcc j hj i hi]; unfold regS; simp only [if_pos hj]⟩), Lib.hid hOR⟩
                        case measure => simp [intOf]; omega
    · obtain rfl : t = n := by omega
      go_wp2_with fail
      go_ret2
      exact ⟨.inl ⟨HG.out, AA, cA, rfl, by rw [HN1.out]; exact HM.out.mat⟩, HB1.out.trans (HO.out.below (B := w.heap.size) (fun b _ h => by rcases h with h | h; exact (HAR.out b h).1; omega) hzw)⟩
end Go.Proofs.YtbnjbclkmjjkhaaDoor
