/- stream.Decode, walked. Condition: the bytes lie in memory. -/
import Derived.Test.YtbnjbclkmjjkhaaDoorDkY
namespace Go.Proofs.YtbnjbclkmjjkhaaDoor
open Go.RowKit Go.Shelf Go.Deep
attribute [local go_sem] Oper.semAt_some

set_option maxRecDepth 100000 in
set_option maxHeartbeats 16000000 in
theorem decode_any (l : List UInt8) (A : Option Addr) (c : Nat) (w : World) (hm : Mem w A l) (hl : l.length ≤ 100000000) (hlc : l.length ≤ c) :
    Calls Tryd.prog 9 #[.slice A l.length c] w fun e w' =>
      ((GoodB l ∧ ∃ AC AR AO cC cR cO CA cc, ((dec (body l)).lay AC AR AO cC cR cO CA cc).At w' ∧ e = .returned (.tuple #[.agg #[.int .i64 (shD (body l) 0), .int .i64 (shD (body l) 1), .int .i64 (shD (body l) 2), .int .i64 (shD (body l) 3), .int .i64 (shD (body l) 4), .slice AC (dec (body l)).nc cC, .slice AR (dec (body l)).nr cR, .slice AO (dec (body l)).no cO], .nilIface])) ∨
       (¬ GoodB l ∧ ∃ b, e = .returned (.tuple #[cfgZero, .iface 63 (.pointer (some ⟨b, 0, none⟩))]) ∧ w'.cell? ⟨b, 0, none⟩ = some (.int .i64 18) ∧ w'.cell? ⟨b, 1, none⟩ = some (.int .i64 0))) ∧ Below w.heap.size w w' := by
  have hF : ∀ f, Fence.wide.fn f := fun _ => trivial
  have HM := Lib.hid hm
  clear hm
  refine (callsIn_wide (n := 10)).1 ?_
  refine callsIn_of_wp_marks Tryd.func9 rfl trivial ?_ rfl
  simp only [Tryd.ntmps9, List.size_toArray, List.length_cons, List.length_nil, Nat.reduceAdd, Nat.reduceSub, Array.replicate_succ, Array.replicate_zero, List.push_toArray, List.append_toArray, List.nil_append, List.cons_append]
  gi_wp2_with fail
  have hbb : Boxed (w.alloc (.cells #[.slice A l.length c] 22)) w.heap.size 22 (.slice A l.length c) := Boxed.new _ _ _
  have hz1 : (w.alloc (.cells #[.slice A l.length c] 22)).heap.size = w.heap.size + 1 := by simp
  have hb1 := (Below.refl w.heap.size w).alloc (Nat.le_refl _) (.cells #[.slice A l.length c] 22)
  have hm1 : Mem (w.alloc (.cells #[.slice A l.length c] 22)) A l := HM.out.keeps (Keeps.alloc _ _)
  generalize w.alloc (.cells #[.slice A l.length c] 22) = v1 at *
  have hrb : (v1.alloc (.cells #[.int .i64 0, .int .i64 0, .int .i64 0, .int .i64 0, .int .i64 0, .slice none 0 0, .slice none 0 0, .slice none 0 0] 31)).heap[w.heap.size + 1]? = some (.cells #[.int .i64 0, .int .i64 0, .int .i64 0, .int .i64 0, .int .i64 0, .slice none 0 0, .slice none 0 0, .slice none 0 0] 31) := by rw [← hz1]; exact heap_alloc_new v1 _
  have hbb2 := hbb.alloc (.cells #[.int .i64 0, .int .i64 0, .int .i64 0, .int .i64 0, .int .i64 0, .slice none 0 0, .slice none 0 0, .slice none 0 0] 31)
  have hz2 : (v1.alloc (.cells #[.int .i64 0, .int .i64 0, .int .i64 0, .int .i64 0, .int .i64 0, .slice none 0 0, .slice none 0 0, .slice none 0 0] 31)).heap.size = w.heap.size + 1 + 1 := by simp [hz1]
  have hb2 := hb1.alloc (by omega) (.cells #[.int .i64 0, .int .i64 0, .int .i64 0, .int .i64 0, .int .i64 0, .slice none 0 0, .slice none 0 0, .slice none 0 0] 31)
  have hm2 := hm1.keeps (Keeps.alloc v1 (.cells #[.int .i64 0, .int .i64 0, .int .i64 0, .int .i64 0, .int .i64 0, .slice none 0 0, .slice none 0 0, .slice none 0 0] 31))
  clear hbb hz1 hb1 hm1
  generalize v1.alloc (.cells #[.int .i64 0, .int .i64 0, .int .i64 0, .int .i64 0, .int .i64 0, .slice none 0 0, .slice none 0 0, .slice none 0 0] 31) = v2 at *
  have hfb : (v2.alloc (.cells #[.int .i64 18, .int .i64 0] 41)).heap[w.heap.size + 1 + 1]? = some (.cells #[.int .i64 18, .int .i64 0] 41) := by rw [← hz2]; exact heap_alloc_new v2 _
  have hbl : Below v2.heap.size v2 (v2.alloc (.cells #[.int .i64 18, .int .i64 0] 41)) := (Below.refl _ _).alloc (Nat.le_refl _) _
  have hbb3 := hbb2.alloc (.cells #[.int .i64 18, .int .i64 0] 41)
  have hrb3 := heap_below hbl hrb
  have hz3 : (v2.alloc (.cells #[.int .i64 18, .int .i64 0] 41)).heap.size = w.heap.size + 1 + 1 + 1 := by simp [hz2]
  have hb3 := hb2.alloc (by omega) (.cells #[.int .i64 18, .int .i64 0] 41)
  have hm3 := hm2.keeps (Keeps.alloc v2 (.cells #[.int .i64 18, .int .i64 0] 41))
  clear hbb2 hz2 hb2 hm2 hrb hbl HM
  generalize v2.alloc (.cells #[.int .i64 18, .int .i64 0] 41) = v3 at *
  have HBB := Lib.hid hbb3; have HRB := Lib.hid hrb3; have HFB := Lib.hid hfb; have HZ := Lib.hid hz3; have HB := Lib.hid hb3; have HM := Lib.hid hm3
  have x0 := hbb3.cell
  have hzv : w.heap.size + 1 + 1 + 1 ≤ v3.heap.size := by omega
  clear hbb3 hrb3 hfb hz3 hb3 hm3
  by_cases h18 : 18 ≤ l.length
  case neg =>
    have hd : decide ((l.length : Int) < 18) = true := decide_eq_true (by omega)
    have HG : Hid (¬ GoodB l) := Lib.hid (fun h => h18 h.len)
    clear h18
    refine wpIn_noDef ?_
    refine wpIn_region_z (fun w' => w'.cell? ⟨w.heap.size, 0, none⟩ = some (.slice A l.length c)) [0, 1, 2, 3, 4, 5, 6, 7, 8, 9, 10, 11, 12, 13, 14, 15, 16, 17, 18, 19, 20, 21, 22, 23] [] hF (by kernel_rfl) (by kernel_rfl) (by kernel_rfl) (by kernel_rfl) (by rfl) (fun _ _ _ _ e h => ⟨e.symm.trans h.1, panicM (e.symm.trans h.1) h.1 h.2⟩) x0 ?_
    iterate 4
      refine Heads.step (v := ?_) rfl (by first | (go_simp; done) | rfl) (fun W hW => ?_) ?_
      rotate_left
      · (have t0 := hW; go_simp; try with_reducible rfl)
    iterate 5
      refine Heads.skip rfl (by first | (go_simp; done) | rfl) ?_
    iterate 2
      refine Heads.step (v := ?_) rfl (by first | (go_simp; done) | rfl) (fun W hW => ?_) ?_
      rotate_left
      · (have t0 := hW; go_simp; try with_reducible rfl)
    iterate 12
      refine Heads.skip rfl (by first | (go_simp; done) | rfl) ?_
    iterate 1
      refine Heads.step (v := ?_) rfl (by first | (go_simp; done) | rfl) (fun W hW => ?_) ?_
      rotate_left
      · (have t0 := hW; go_simp; try with_reducible rfl)
    refine AnyY.done (by kernel_rfl) ?_
    simp only [noDef]
    go_simp
    obtain ⟨⟨c0, c1, c2, c3, c4, c5, c6, c7⟩, hz⟩ := cells8 HRB.out
    gi_wp2_with fail
    have hh := zap_heap HRB.out
    rw [fold_zap]
    refine leaves0 (v := .tuple #[cfgZero, .iface 63 (.pointer (some ⟨w.heap.size + 1 + 1, 0, none⟩))]) ?hres ?_
    case hres =>
      generalize zap v3 (w.heap.size + 1) = WW at *
      exact outs9d rfl rfl hh
    exact told_no HG.out HFB.out (zap_only _ _).drew (zap_below HB.out (by omega)).drew
  have hd : decide ((l.length : Int) < 18) = false := decide_eq_false (by omega)
  by_cases hmg : l.take 4 = [71, 87, 66, 49]
  case neg =>
    have HG : Hid (¬ GoodB l) := Lib.hid (fun h => hmg h.magic)
    have HP := Lib.hid (prefix_no hmg)
    clear hmg
    refine wpIn_noDef ?_
    refine wpIn_region_z (fun w' => w'.cell? ⟨w.heap.size, 0, none⟩ = some (.slice A l.length c)) [0, 1, 2, 3, 4] [] hF (by kernel_rfl) (by kernel_rfl) (by kernel_rfl) (by kernel_rfl) (by rfl) (fun _ _ _ _ e h => ⟨e.symm.trans h.1, panicM (e.symm.trans h.1) h.1 h.2⟩) x0 ?_
    iterate 5
      refine Heads.step (v := ?_) rfl (by first | (go_simp; done) | rfl) (fun W hW => ?_) ?_
      rotate_left
      · (have t0 := hW; go_simp; try with_reducible rfl)
    refine AnyY.one (i := 5) hF (by kernel_rfl) rfl (fun K hK => ?_)
    go_simp
    obtain ⟨w4, hcv, hb4, hm4, hz4⟩ := magic_lay v3
    have e1 : (v3.alloc (.cells #[.int .u8 71, .int .u8 87, .int .u8 66, .int .u8 49] 5)).drew = v3.drew.alloc (.cells #[.int .u8 71, .int .u8 87, .int .u8 66, .int .u8 49] 5) := rfl
    have xa : (v3.alloc (.cells #[.int .u8 71, .int .u8 87, .int .u8 66, .int .u8 49] 5)).drew.cell? ⟨w.heap.size, 0, none⟩ = some (.slice A l.length c) := (Keeps.alloc _ _ _ _ x0).trans rfl
    refine hK _ _ (fun _ => xa) ?_
    clear hK xa e1
    refine AnyY.one (i := 6) hF (by kernel_rfl) rfl (fun K hK => ?_)
    go_simp
    have xb := (Keeps.of_below hb4) _ _ x0
    refine hK _ _ (fun _ => xb) ?_
    clear hK hcv
    refine AnyY.one (i := 7) hF (by kernel_rfl) rfl (fun K hK => ?_)
    go_simp
    have hm5 := HM.out.keeps (Keeps.of_below hb4)
    have hcall := (callsIn_wide (n := 9)).2 (prefix4_any A (some ⟨v3.heap.size, 0, none⟩) l c w4 hm5 hm4 hlc)
    refine CallsIn.mono hcall ?_
    clear hcall
    rintro e w5 ⟨rfl, rfl⟩
    have hpn := HP.out
    rw [hpn]
    refine hK _ _ (fun _ => xb) ?_
    clear hK
    refine AnyY.mid [8, 9, 10, 11, 12, 13, 14, 15, 16, 17, 18, 19, 20, 21, 22, 23] [] 0 rfl hF (by kernel_rfl) (by kernel_rfl) (by kernel_rfl) (by kernel_rfl) (fun _ _ _ _ e h => ⟨e.symm.trans h.1, panicM (e.symm.trans h.1) h.1 h.2⟩) xb ?_
    iterate 3
      refine Heads.step (v := ?_) rfl (by first | (go_simp; done) | rfl) (fun W hW => ?_) ?_
      rotate_left
      · (have t0 := hW; go_simp; try with_reducible rfl)
    iterate 12
      refine Heads.skip rfl (by first | (go_simp; done) | rfl) ?_
    iterate 1
      refine Heads.step (v := ?_) rfl (by first | (go_simp; done) | rfl) (fun W hW => ?_) ?_
      rotate_left
      · (have t0 := hW; go_simp; try with_reducible rfl)
    refine AnyY.done (by kernel_rfl) ?_
    simp only [noDef]
    go_simp
    have hRB := heap_below hb4 HRB.out
    have hFB := heap_below hb4 HFB.out
    have hBW := HB.out.trans (hb4.mono (by omega))
    clear hb4 xb hm4 hm5 hpn HP
    obtain ⟨⟨c0, c1, c2, c3, c4, c5, c6, c7⟩, hz⟩ := cells8 hRB
    gi_wp2_with fail
    have hh := zap_heap hRB
    rw [fold_zap]
    refine leaves0 (v := .tuple #[cfgZero, .iface 63 (.pointer (some ⟨w.heap.size + 1 + 1, 0, none⟩))]) ?hres ?_
    case hres =>
      generalize zap w5 (w.heap.size + 1) = WW at *
      exact outs9 rfl rfl hh
    exact told_no HG.out hFB (zap_only _ _) (zap_below hBW (by omega))
  have HMG := Lib.hid hmg
  have HP := Lib.hid (prefix_yes hmg)
  clear hmg
  refine wpIn_noDef ?_
  refine wpIn_region_z (fun w' => w'.cell? ⟨w.heap.size, 0, none⟩ = some (.slice A l.length c)) [0, 1, 2, 3, 4] [] hF (by kernel_rfl) (by kernel_rfl) (by kernel_rfl) (by kernel_rfl) (by rfl) (fun _ _ _ _ e h => ⟨e.symm.trans h.1, panicM (e.symm.trans h.1) h.1 h.2⟩) x0 ?_
  iterate 5
    refine Heads.step (v := ?_) rfl (by first | (go_simp; done) | rfl) (fun W hW => ?_) ?_
    rotate_left
    · (have t0 := hW; go_simp; try with_reducible rfl)
  refine AnyY.one (i := 5) hF (by kernel_rfl) rfl (fun K hK => ?_)
  go_simp
  obtain ⟨w4, hcv, hb4, hm4, hz4⟩ := magic_lay v3
  have xa : (v3.alloc (.cells #[.int .u8 71, .int .u8 87, .int .u8 66, .int .u8 49] 5)).drew.cell? ⟨w.heap.size, 0, none⟩ = some (.slice A l.length c) := (Keeps.alloc _ _ _ _ x0).trans rfl
  refine hK _ _ (fun _ => xa) ?_
  clear hK xa
  refine AnyY.one (i := 6) hF (by kernel_rfl) rfl (fun K hK => ?_)
  go_simp
  have xb := (Keeps.of_below hb4) _ _ x0
  refine hK _ _ (fun _ => xb) ?_
  clear hK hcv
  refine AnyY.one (i := 7) hF (by kernel_rfl) rfl (fun K hK => ?_)
  go_simp
  have hm5 := HM.out.keeps (Keeps.of_below hb4)
  have hcall := (callsIn_wide (n := 9)).2 (prefix4_any A (some ⟨v3.heap.size, 0, none⟩) l c w4 hm5 hm4 hlc)
  refine CallsIn.mono hcall ?_
  clear hcall
  rintro e w5 ⟨rfl, e5⟩
  subst e5
  have hpn := HP.out
  rw [hpn]
  refine hK _ _ (fun _ => xb) ?_
  clear hK
  have ew : IntKind.i64.wrap ((l.length : Int) - 4) = ((body l).length : Int) := by rw [body_len, IntKind.wrap_i64]; omega
  have hmc : (body l).length ≤ c := by rw [body_len]; omega
  refine AnyY.mid [8, 9, 10, 11, 12, 13, 14, 15, 16, 17, 18, 20] [] 4 rfl hF (by kernel_rfl) (by kernel_rfl) (by kernel_rfl) (by kernel_rfl) (fun _ _ _ _ e h => ⟨e.symm.trans h.1, panicM (e.symm.trans h.1) h.1 h.2⟩) xb ?_
  iterate 12
    refine Heads.step (v := ?_) rfl (by first | (go_simp; done) | rfl) (fun W hW => ?_) ?_
    rotate_left
    · (have t0 := hW; go_simp; try with_reducible rfl)
  refine AnyY.one (i := 19) hF (by kernel_rfl) rfl (fun K hK => ?_)
  go_simp
  have hb0 : 0 < (body l).length := by rw [body_len]; omega
  have hmb : Mem w5 A (body l) := mem_body hm5
  refine CallsIn.mono ((callsIn_wide (n := 9)).2 (sealed_full (body l) A w5 hmb hb0 (by rw [body_len]; omega))) ?_
  rintro e w6 ⟨⟨A6, c6, rfl, hby⟩, hb6⟩
  have hb46 : Below v3.heap.size v3 w6 := hb4.trans (hb6.mono (by omega))
  have xc := (Keeps.of_below hb46) _ _ x0
  refine hK _ _ (fun _ => xc) ?_
  clear hK
  refine AnyY.one (i := 21) hF (by kernel_rfl) rfl (fun K hK => ?_)
  go_simp
  have hm6 := HM.out.keeps (Keeps.of_below hb46)
  refine CallsIn.mono ((callsIn_wide (n := 9)).2 (equaln_any A6 A (body l ++ be4 (crcF (body l))) l _ c6 c w6 (by simp [be4]) (Byt.mem hby) hm6)) ?_
  rintro e w7 ⟨⟨q, rfl, HQ⟩, e7⟩
  subst e7
  refine hK _ _ (fun _ => xc) ?_
  clear hK
  refine AnyY.mid [22, 23] [] 0 rfl hF (by kernel_rfl) (by kernel_rfl) (by kernel_rfl) (by kernel_rfl) (fun _ _ _ _ e h => ⟨e.symm.trans h.1, panicM (e.symm.trans h.1) h.1 h.2⟩) xc ?_
  iterate 2
    refine Heads.step (v := ?_) rfl (by first | (go_simp; done) | rfl) (fun W hW => ?_) ?_
    rotate_left
    · (have t0 := hW; go_simp; try with_reducible rfl)
  refine AnyY.done (by kernel_rfl) ?_
  simp only [noDef]
  go_simp
  have HRB7 := Lib.hid (heap_below hb46 HRB.out)
  have HFB7 := Lib.hid (heap_below hb46 HFB.out)
  have HB7 := Lib.hid (HB.out.trans (hb46.mono (by omega)))
  have HM7 := Lib.hid hm6
  have hz7 : w.heap.size + 1 + 1 + 1 ≤ w7.heap.size := by have := hb46.size; omega
  clear hb46 hb6 hby hb4 xb hm4 hm5 hpn HP HRB HFB HB HM x0 hmb hm6 hz4
  cases q
  case false =>
    have HG : Hid (¬ GoodB l) := Lib.hid (fun h => by have := HQ.out.2 h.crc.symm; cases this)
    obtain ⟨⟨c0, c1, c2, c3, c4, c5, c6, c7⟩, hz⟩ := cells8 HRB7.out
    gi_wp2_with fail
    have hh := zap_heap HRB7.out
    rw [fold_zap]
    refine leaves0 (v := .tuple #[cfgZero, .iface 63 (.pointer (some ⟨w.heap.size + 1 + 1, 0, none⟩))]) ?hres ?_
    case hres =>
      generalize zap w7 (w.heap.size + 1) = WW at *
      exact outs9 rfl rfl hh
    exact told_no HG.out HFB7.out (zap_only _ _) (zap_below HB7.out (by omega))
  have HCR := Lib.hid (HQ.out.1 rfl)
  clear HQ
  simp only [Bool.not_true]
  have e8 : IntKind.i64.wrap (8 * ((body l).length : Int)) = ((8 * (l.length - 4) : Nat) : Int) := by rw [body_len, IntKind.wrap_i64]; omega
  have xb1 : (w7.alloc (.cells #[.int .i64 32] 3)).cell? ⟨w.heap.size, 0, none⟩ = some (.slice A l.length c) := Keeps.alloc _ _ _ _ xc
  gi_wp2_with fail
  clear xb1 e8 ew
  obtain ⟨h8, hb8, hz8⟩ := lay8 HM7.out xc
  generalize ((((w7.alloc (.cells #[.int .i64 32] 3)).alloc (.cells #[.int .i64 (8 * ((l.length - 4 : Nat) : Int))] 3)).alloc (.cells #[.func (.func 23) #[] #[.pointer (some ⟨w7.heap.size, 0, none⟩), .pointer (some ⟨w7.heap.size + 1, 0, none⟩), .pointer (some ⟨w.heap.size, 0, none⟩)]] 54)).alloc (.cells #[.int .i64 0, .int .i64 0, .int .i64 0, .int .i64 0, .int .i64 0] 26)) = w8 at *
  have hA7 : Hid (∀ b, blockOf A b → b < w7.heap.size) := Lib.hid (mem_block HM7.out (by omega))
  have HRB8 := Lib.hid (heap_below hb8 HRB7.out)
  have HFB8 := Lib.hid (heap_below hb8 HFB7.out)
  have HB8 := Lib.hid (HB7.out.trans (hb8.mono (by omega)))
  have H8 := Lib.hid h8
  clear h8 hb8 HRB7 HFB7 HB7 HM7 xc
  gi_loopw [54] (fun vi wr => ∃ k : Nat, k ≤ 5 ∧ vi = .int .i64 k ∧ Hid (Lay8 l A c w.heap.size w7.heap.size k wr) ∧ Hid (Only (fun b => w7.heap.size ≤ b) w8 wr)) (fun vi _ => 5 - (intOf vi).toNat)
  case atStart => exact ⟨0, by omega, rfl, H8, Lib.hid (Only.refl _ _)⟩
  case round =>
    obtain ⟨k, hk, rfl, HL, HO⟩ := hrel
    by_cases hlt : k < 5
    · have hix := ptr_index (w7.heap.size + 1 + 1 + 1) k wr hlt
      have xf := HL.out.fn
      gi_wp2_with fail
      refine CallsIn.mono ((callsIn_wide (n := 9)).2 (take_any l A c w7.heap.size (w7.heap.size + 1) w.heap.size (32 + 16 * k) 16 wr HL.out.take (by omega) (by omega) (fun h => by have := hA7.out _ h; omega) (by omega) (by omega) (by omega))) ?_
      rintro e w9 ⟨rfl, hT, hO⟩
      obtain ⟨⟨v, hv⟩, hf, hL⟩ := HL.out.next (by omega) hA7.out hT hO hlt
      have HL9 := Lib.hid hL
      have HO9 := Lib.hid (((HO.out.then_ hO.only (fun i _ hi => by omega))).setCell (p := ⟨w7.heap.size + 1 + 1 + 1, k, none⟩) (fun _ => by show w7.heap.size ≤ w7.heap.size + 1 + 1 + 1; omega) (.int .i64 (tkv (body l) (32 + 16 * k) 16)))
      clear hL hO hT hix xf
      gi_wp2_with fail
      go_roundw
      case rel => exact ⟨k + 1, by omega, by go_num, HL9, HO9⟩
      case measure => simp [intOf]; omega
    · obtain rfl : k = 5 := by omega
      have s0 : wr.cell? ⟨w7.heap.size + 1 + 1 + 1, 0, none⟩ = some (.int .i64 (shD (body l) 0)) := HL.out.sh.cell (by omega)
      have s1 : wr.cell? ⟨w7.heap.size + 1 + 1 + 1, 1, none⟩ = some (.int .i64 (shD (body l) 1)) := HL.out.sh.cell (by omega)
      have s2 : wr.cell? ⟨w7.heap.size + 1 + 1 + 1, 2, none⟩ = some (.int .i64 (shD (body l) 2)) := HL.out.sh.cell (by omega)
      have s3 : wr.cell? ⟨w7.heap.size + 1 + 1 + 1, 3, none⟩ = some (.int .i64 (shD (body l) 3)) := HL.out.sh.cell (by omega)
      have s4 : wr.cell? ⟨w7.heap.size + 1 + 1 + 1, 4, none⟩ = some (.int .i64 (shD (body l) 4)) := HL.out.sh.cell (by omega)
      rw [show ((5 : Nat) : Int) = 5 from rfl]
      gi_wp2_with fail
      refine CallsIn.mono ((callsIn_wide (n := 9)).2 (shapeOk_any (shD (body l)) wr)) ?_
      rintro e wa ⟨rfl, hba⟩
      have hOa := HO.out.call hba
      have HRBa := Lib.hid ((hOa.block _ (Array.getElem?_eq_some_iff.1 HRB8.out).1 (by omega)).trans HRB8.out)
      have HFBa := Lib.hid ((hOa.block _ (Array.getElem?_eq_some_iff.1 HFB8.out).1 (by omega)).trans HFB8.out)
      have HBa := Lib.hid (HB8.out.trans (hOa.below (B := w.heap.size) (fun i _ hi => by omega) (by omega)))
      have kp := Keeps.of_below hba
      replace s0 := kp _ _ s0; replace s1 := kp _ _ s1; replace s2 := kp _ _ s2; replace s3 := kp _ _ s3; replace s4 := kp _ _ s4
      have HLa := Lib.hid (HL.out.below hba)
      clear kp hba hOa HL HO HRB8 HFB8 HB8 H8
      by_cases hsh : ShOk (shD (body l))
      case neg =>
        rw [tf_no hsh]
        have HG : Hid (¬ GoodB l) := Lib.hid (fun h => hsh h.sh)
        clear hsh
        obtain ⟨⟨c0, c1, c2, c3, c4, c5, c6, c7⟩, hz⟩ := cells8 HRBa.out
        gi_wp2_with fail
        have hh := zap_heap HRBa.out
        rw [fold_zap]
        refine leaves0 (v := .tuple #[cfgZero, .iface 63 (.pointer (some ⟨w.heap.size + 1 + 1, 0, none⟩))]) ?hres ?_
        case hres =>
          generalize zap wa (w.heap.size + 1) = WW at *
          exact outs9 rfl rfl hh
        exact told_no HG.out HFBa.out (zap_only _ _) (zap_below HBa.out (by omega))
      rw [tf_yes hsh]
      have g0 := hsh.s0; have g1 := hsh.s1; have g2 := hsh.s2; have g3 := hsh.s3; have g4 := hsh.s4
      have HSH := Lib.hid hsh
      clear hsh
      obtain ⟨R, hR⟩ : ∃ R, R = tkv (body l) 80 16 := ⟨_, rfl⟩
      obtain ⟨C, hC⟩ : ∃ C, C = tkv (body l) 96 16 := ⟨_, rfl⟩
      have hs3 : shD (body l) 3 = (R : Int) := by rw [hR]; rfl
      have hs4 : shD (body l) 4 = (C : Int) := by rw [hC]; rfl
      obtain ⟨P, hP⟩ : ∃ P, P = R * C := ⟨_, rfl⟩
      have hPb : P ≤ 50000 := by rw [hP]; exact Nat.mul_le_mul (show R ≤ 500 by omega) (show C ≤ 100 by omega)
      obtain ⟨Q, hQ⟩ : ∃ Q, Q = 16 * P := ⟨_, rfl⟩
      obtain ⟨E, hE⟩ : ∃ E, E = 8 * (l.length - 4) := ⟨_, rfl⟩
      have e1 : IntKind.i64.wrap (shD (body l) 3 * shD (body l) 4) = (P : Int) := by rw [hs3, hs4, hP, ← Int.natCast_mul, ← hP, IntKind.wrap_i64]; omega
      have e2 : IntKind.i64.wrap ((P : Int) * 16) = (Q : Int) := by rw [IntKind.wrap_i64]; omega
      have xe : wa.cell? ⟨w7.heap.size + 1, 0, none⟩ = some (.int .i64 (E : Int)) := by rw [hE]; exact HLa.out.take.pe
      have HR := Lib.hid hR; have HC := Lib.hid hC; have HS3 := Lib.hid hs3; have HS4 := Lib.hid hs4
      have HQ : Hid (Q = 16 * (R * C)) := Lib.hid (by rw [hQ, hP])
      have HE := Lib.hid hE
      clear hR hC hs3 hs4 hQ hE hP
      by_cases hfit : Q ≤ E
      case neg =>
        have HG : Hid (¬ GoodB l) := Lib.hid (fun h => by
          have h1 := h.fits
          have h2 := bitsD_ge (body l)
          rw [← HR.out, ← HC.out, ← HQ.out] at h2
          have := HE.out; omega)
        have hd2 : decide (E < Q) = true := decide_eq_true (by omega)
        clear hfit
        obtain ⟨⟨c0, c1, c2, c3, c4, c5, c6, c7⟩, hz⟩ := cells8 HRBa.out
        gi_wp2_with fail
        have hh := zap_heap HRBa.out
        rw [fold_zap]
        refine leaves0 (v := .tuple #[cfgZero, .iface 63 (.pointer (some ⟨w.heap.size + 1 + 1, 0, none⟩))]) ?hres ?_
        case hres =>
          generalize zap wa (w.heap.size + 1) = WW at *
          exact outs9 rfl rfl hh
        exact told_no HG.out HFBa.out (zap_only _ _) (zap_below HBa.out (by omega))
      have hd2 : decide (E < Q) = false := decide_eq_false (by omega)
      have HFT := Lib.hid hfit
      clear hfit
      gi_wp2_with fail
      obtain ⟨Nr, hNr⟩ : ∃ Nr, Nr = (dec (body l)).nr := ⟨_, rfl⟩
      obtain ⟨No, hNo⟩ : ∃ No, No = (dec (body l)).no := ⟨_, rfl⟩
      have hs2 : shD (body l) 2 = (Nr : Int) := by rw [hNr]; rfl
      have hs1 : shD (body l) 1 = (No : Int) := by rw [hNo]; rfl
      have hmr := fun W => mk_regs (shD (body l) 2) Nr hs2 (by omega) W
      have hmo := fun W => mk_outs (shD (body l) 1) No hs1 (by omega) W
      have HNR := Lib.hid hNr; have HNO := Lib.hid hNo; have HS1 := Lib.hid hs1; have HS2 := Lib.hid hs2
      clear hNr hNo hs1 hs2 xe e1 e2 hd2
      have sx := s0
      rename_i K1 a1
      have hEnd : ∀ (bR bO bX : Nat) (W : World), Below wa.heap.size wa W → Arr W bR 57 (Nr * 2) regZ → Arr W bO 3 No (fun _ => .int .i64 0) → W.heap[bX]? = some (.cells #[.int .i64 0, .int .i64 0, .int .i64 0, .int .i64 0, .int .i64 0, .slice none 0 0, .slice none 0 0, .slice none 0 0] 31) → wa.heap.size ≤ bR → wa.heap.size ≤ bO → wa.heap.size ≤ bX →
          K1 { tmps := #[.slice A l.length c, .pointer (some ⟨w.heap.size, 0, none⟩), .pointer (some ⟨w.heap.size + 1, 0, none⟩), .nilIface, .pointer (some ⟨w.heap.size + 1 + 1, 0, none⟩), .pointer (some ⟨w7.heap.size, 0, none⟩), .pointer (some ⟨w7.heap.size + 1, 0, none⟩), .pointer (some ⟨w7.heap.size + 1 + 1, 0, none⟩), .pointer (some ⟨w7.heap.size + 1 + 1 + 1, 0, none⟩), undef, u10, .pointer (some ⟨bX, 0, none⟩), undef, undef, .agg #[.int .i64 18, .int .i64 0], .pointer (some ⟨w.heap.size + 1 + 1, 0, none⟩), .slice A l.length c, .int .i64 ↑l.length, .bool false, .bool false, .slice A l.length c, .slice (some ⟨v3.heap.size, 0, none⟩) 4 4, .slice (some ⟨v3.heap.size, 0, none⟩) 4 4, .bool true, .bool false, .bool false, .bool false, .slice A l.length c, .slice A l.length c, .int .i64 ↑l.length, .int .i64 ↑(body l).length, .slice A l.length c, .int .i64 ↑l.length, .int .i64 ↑(body l).length, .slice A (body l).length (body l).length, .slice A6 ((body l).length + 4) c6, .slice A l.length c, .bool true, .bool false, .bool false, undef, undef, undef, .slice A l.length c, .int .i64 ↑l.length, .int .i64 ↑(body l).length, .int .i64 (8 * ↑(l.length - 4)), .func (.func 23) #[] #[.pointer (some ⟨w7.heap.size, 0, none⟩), .pointer (some ⟨w7.heap.size + 1, 0, none⟩), .pointer (some ⟨w.heap.size, 0, none⟩)], .pointer (some ⟨w7.heap.size + 1 + 1 + 1, 0, none⟩), .pointer (some ⟨w7.heap.size + 1 + 1 + 1, 1, none⟩), .pointer (some ⟨w7.heap.size + 1 + 1 + 1, 2, none⟩), .pointer (some ⟨w7.heap.size + 1 + 1 + 1, 3, none⟩), .pointer (some ⟨w7.heap.size + 1 + 1 + 1, 4, none⟩), .agg #[.pointer (some ⟨w7.heap.size + 1 + 1 + 1, 0, none⟩), .pointer (some ⟨w7.heap.size + 1 + 1 + 1, 1, none⟩), .pointer (some ⟨w7.heap.size + 1 + 1 + 1, 2, none⟩), .pointer (some ⟨w7.heap.size + 1 + 1 + 1, 3, none⟩), .pointer (some ⟨w7.heap.size + 1 + 1 + 1, 4, none⟩)], .int .i64 5, .bool false, u56, u57, u58, u59, u60, u61, .agg #[.int .i64 (shD (body l) 0), .int .i64 (shD (body l) 1), .int .i64 (shD (body l) 2), .int .i64 (shD (body l) 3), .int .i64 (shD (body l) 4)], .bool true, .bool false, .bool false, .pointer (some ⟨w7.heap.size + 1 + 1 + 1, 3, none⟩), .int .i64 (shD (body l) 3), .pointer (some ⟨w7.heap.size + 1 + 1 + 1, 4, none⟩), .int .i64 (shD (body l) 4), .int .i64 ↑P, .int .i64 ↑Q, .int .i64 ↑E, .bool false, .bool false, undef, undef, undef, .agg #[.int .i64 (shD (body l) 0), .int .i64 (shD (body l) 1), .int .i64 (shD (body l) 2), .int .i64 (shD (body l) 3), .int .i64 (shD (body l) 4)], .pointer (some ⟨w7.heap.size + 1 + 1 + 1, 2, none⟩), .int .i64 (shD (body l) 2), .slice (some ⟨bR, 0, none⟩) Nr Nr, .pointer (some ⟨w7.heap.size + 1 + 1 + 1, 1, none⟩), .int .i64 (shD (body l) 1), .slice (some ⟨bO, 0, none⟩) No No, .agg #[.int .i64 (shD (body l) 0), .int .i64 (shD (body l) 1), .int .i64 (shD (body l) 2), .int .i64 (shD (body l) 3), .int .i64 (shD (body l) 4), .slice none 0 0, .slice (some ⟨bR, 0, none⟩) Nr Nr, .slice (some ⟨bO, 0, none⟩) No No], undef, undef, undef, undef, undef, undef, undef, undef, undef, undef, undef, undef, undef, undef, undef, undef, undef, undef, undef, undef, undef, undef, undef, undef, undef, undef, undef, undef, undef, undef, undef, undef, undef, undef, undef, undef, undef, undef, undef, undef, undef, undef, undef, undef, undef, undef, undef, undef, undef, undef], defers := [] } (set8 W bX (.int .i64 (shD (body l) 0)) (.int .i64 (shD (body l) 1)) (.int .i64 (shD (body l) 2)) (.int .i64 (shD (body l) 3)) (.int .i64 (shD (body l) 4)) (.slice none 0 0) (.slice (some ⟨bR, 0, none⟩) Nr Nr) (.slice (some ⟨bO, 0, none⟩) No No)) := by
        clear s0 s1 s2 s3 s4 hmr hmo sx
        intro bR bO bX W hbW fR fO fX h1 h2 h3
        refine a1 _ _ ?_
        have ho := set8_only (Only.refl (fun k => k = bX) W) (fun _ => rfl) (.int .i64 (shD (body l) 0)) (.int .i64 (shD (body l) 1)) (.int .i64 (shD (body l) 2)) (.int .i64 (shD (body l) 3)) (.int .i64 (shD (body l) 4)) (.slice none 0 0) (.slice (some ⟨bR, 0, none⟩) Nr Nr) (.slice (some ⟨bO, 0, none⟩) No No)
        have gX := set8_heap fX (.int .i64 (shD (body l) 0)) (.int .i64 (shD (body l) 1)) (.int .i64 (shD (body l) 2)) (.int .i64 (shD (body l) 3)) (.int .i64 (shD (body l) 4)) (.slice none 0 0) (.slice (some ⟨bR, 0, none⟩) Nr Nr) (.slice (some ⟨bO, 0, none⟩) No No)
        have gR := fR.box ho fX (by decide)
        have gO := fO.box ho fX (by decide)
        have hoa : Only (fun k => wa.heap.size ≤ k) wa (set8 W bX (.int .i64 (shD (body l) 0)) (.int .i64 (shD (body l) 1)) (.int .i64 (shD (body l) 2)) (.int .i64 (shD (body l) 3)) (.int .i64 (shD (body l) 4)) (.slice none 0 0) (.slice (some ⟨bR, 0, none⟩) Nr Nr) (.slice (some ⟨bO, 0, none⟩) No No)) := (Only.of_below hbW).then_ ho (fun i _ hi => by omega)
        generalize set8 W bX (.int .i64 (shD (body l) 0)) (.int .i64 (shD (body l) 1)) (.int .i64 (shD (body l) 2)) (.int .i64 (shD (body l) 3)) (.int .i64 (shD (body l) 4)) (.slice none 0 0) (.slice (some ⟨bR, 0, none⟩) Nr Nr) (.slice (some ⟨bO, 0, none⟩) No No) = wb at *
        have hba : Below wa.heap.size wa wb := hoa.below (fun k _ h => h) (Nat.le_refl _)
        have HLb := Lib.hid (HLa.out.below hba)
        have HRBb := Lib.hid (heap_below hba HRBa.out)
        have HFBb := Lib.hid (heap_below hba HFBa.out)
        have HBb := Lib.hid (HBa.out.trans (hba.mono HBa.out.size))
        have GX := Lib.hid gX; have GR := Lib.hid gR; have GO := Lib.hid gO
        have hzab := hba.size
        have hS5 : w7.heap.size + 1 + 1 + 1 < wa.heap.size := HLa.out.sh.lt
        clear ho hoa hba gX gR gO fR fO fX hbW HLa HRBa HFBa HBa
        clear W
        have s4 : wb.cell? ⟨w7.heap.size + 1 + 1 + 1, 4, none⟩ = some (.int .i64 (C : Int)) := by rw [← HS4.out]; exact HLb.out.sh.cell (by omega)
        have hC100 : C ≤ 100 := by have := HS4.out; omega
        gi_wp2_with fail
        gi_loopw [88] (fun vi wr => ∃ (i : Nat) (AC : Option Addr) (cC : Nat) (CB : Nat → Nat), i ≤ C ∧ vi = .int .i64 i ∧ Hid (ColsZ wr wb.heap.size AC i cC R CB) ∧ Hid (wr.heap[bX]? = some (.cells #[.int .i64 (shD (body l) 0), .int .i64 (shD (body l) 1), .int .i64 (shD (body l) 2), .int .i64 (shD (body l) 3), .int .i64 (shD (body l) 4), .slice AC i cC, .slice (some ⟨bR, 0, none⟩) Nr Nr, .slice (some ⟨bO, 0, none⟩) No No] 31)) ∧ Hid (Only (fun b => b = bX ∨ wb.heap.size ≤ b) wb wr)) (fun vi _ => C - (intOf vi).toNat)
        case atStart => exact ⟨0, none, 0, fun _ => 0, by omega, rfl, Lib.hid (ColsZ.nil _ _ _ _), GX, Lib.hid (Only.refl _ _)⟩
        case round =>
          obtain ⟨i, AC, cC, CB, hi, rfl, HCO, HGX, HO⟩ := hrel
          by_cases hlt : i < C
          · have xc : wr.cell? ⟨bX, 5, none⟩ = some (.slice AC i cC) := by rw [cell_of_row wr bX 5 _ _ _ HGX.out]; rfl
            have xs3 : wr.cell? ⟨w7.heap.size + 1 + 1 + 1, 3, none⟩ = some (.int .i64 (shD (body l) 3)) := HO.out.cell (HLb.out.sh.cell (by omega)) (by show ¬ (w7.heap.size + 1 + 1 + 1 = bX ∨ wb.heap.size ≤ w7.heap.size + 1 + 1 + 1); omega)
            have hmc := mk_col (shD (body l) 3) R HS3.out (by have := HS3.out; omega)
            gi_wp2_with fail
            refine wpIn_noDef ?_
            refine wpIn_region_z (fun w' => w'.cell? ⟨bX, 5, none⟩ = some (.slice AC i cC) ∧ w'.cell? ⟨w7.heap.size + 1 + 1 + 1, 3, none⟩ = some (.int .i64 (shD (body l) 3))) [0, 1, 2, 3] [8] hF (by kernel_rfl) (by kernel_rfl) (by kernel_rfl) (by kernel_rfl) (by rfl) (fun _ _ _ _ e h => ⟨e.symm.trans h.1, panicM (e.symm.trans h.1) h.1 h.2⟩) ⟨xc, xs3⟩ ?_
            iterate 4
              refine Heads.step (v := ?_) rfl (by first | (go_simp; done) | rfl) (fun W hW => ?_) ?_
              rotate_left
              · (obtain ⟨t0, t1⟩ := hW; go_simp; try with_reducible rfl)
            refine AnyY.one (i := 4) hF (by kernel_rfl) rfl (fun K hK => ?_)
            go_simp
            have bc : Below wr.heap.size wr (wr.alloc (.cells (madeCells #[.int .i64 0, .int .i64 0, .int .i64 0, .int .i64 0, .int .i64 0] (R * 5)) 53)).drew := ((Below.refl _ _).alloc (Nat.le_refl _) _).drew
            have fC : Arr (wr.alloc (.cells (madeCells #[.int .i64 0, .int .i64 0, .int .i64 0, .int .i64 0, .int .i64 0] (R * 5)) 53)).drew wr.heap.size 53 (R * 5) (fun _ => .int .i64 0) := Arr.heap (col_made wr R) rfl
            have zc : Hid ((wr.alloc (.cells (madeCells #[.int .i64 0, .int .i64 0, .int .i64 0, .int .i64 0, .int .i64 0] (R * 5)) 53)).drew.heap.size = wr.heap.size + 1) := Lib.hid (by simp)
            replace xc := (Keeps.of_below bc) _ _ xc; replace xs3 := (Keeps.of_below bc) _ _ xs3
            generalize (wr.alloc (.cells (madeCells #[.int .i64 0, .int .i64 0, .int .i64 0, .int .i64 0, .int .i64 0] (R * 5)) 53)).drew = w1 at *
            refine hK _ _ (fun _ => ⟨xc, xs3⟩) ?_
            clear hK hmc
            refine AnyY.one (i := 5) hF (by kernel_rfl) rfl (fun K hK => ?_)
            go_simp
            have b1 : Below w1.heap.size w1 (w1.alloc (.cells #[.slice (some ⟨wr.heap.size, 0, none⟩) R R] 50)) := (Below.refl _ _).alloc (Nat.le_refl _) _
            have hv : (w1.alloc (.cells #[.slice (some ⟨wr.heap.size, 0, none⟩) R R] 50)).cell? ⟨w1.heap.size, 0, none⟩ = some (.slice (some ⟨wr.heap.size, 0, none⟩) R R) := by rw [World.cell?_alloc_new]; rfl
            replace xc := (Keeps.of_below b1) _ _ xc; replace xs3 := (Keeps.of_below b1) _ _ xs3
            replace fC := fC.below b1
            have b2 : Below wr.heap.size wr (w1.alloc (.cells #[.slice (some ⟨wr.heap.size, 0, none⟩) R R] 50)) := bc.trans (b1.mono bc.size)
            generalize w1.alloc (.cells #[.slice (some ⟨wr.heap.size, 0, none⟩) R R] 50) = w2 at *
            refine hK _ _ (fun _ => ⟨xc, xs3⟩) ?_
            clear hK b1
            have hzw := b2.size
            have hzr := HO.out.size
            obtain ⟨A', c', w3, hap, hown, hon⟩ := run_append_col 27 (HCO.out.below b2).own ⟨w1.heap.size, 0, none⟩ 1 (.slice (some ⟨wr.heap.size, 0, none⟩) R R) (by rw [add_eq]; exact hv) rfl (by omega) (by omega)
            obtain ⟨hX3, hC4, hX4, hO4⟩ := HCO.out.more HGX.out b2 fC (by omega) hown hon
            have xc3 : w3.cell? ⟨bX, 5, none⟩ = some (.slice AC i cC) := by rw [cell_of_row w3 bX 5 _ _ _ hX3]; rfl
            have xs33 : w3.cell? ⟨w7.heap.size + 1 + 1 + 1, 3, none⟩ = some (.int .i64 (shD (body l) 3)) := hon.cell xs3 (fun h => by have := own_base (HCO.out.below b2).own _ h; simp only at this; omega)
            have hz5 : w3.frozen? ⟨bX, 5, none⟩ = false := by simp [World.frozen?, hX3]
            have HC4 := Lib.hid hC4; have HX4 := Lib.hid hX4
            have HO4 := Lib.hid (HO.out.then_ hO4 (fun _ _ h => h))
            clear hC4 hX4 hO4 hX3 hown hon fC
            refine AnyY.one (i := 6) hF (by kernel_rfl) rfl (fun K hK => ?_)
            rw [if_pos (by rfl)]
            refine wpIn_append1 hF (.tmp 91) (.tmp 95) 27 rfl rfl rfl hap ?_
            go_simp
            refine hK _ _ (fun _ => ⟨xc3, xs33⟩) ?_
            clear hK hap
            refine AnyY.mid [7] [8] 1 rfl hF (by kernel_rfl) (by kernel_rfl) (by kernel_rfl) (by kernel_rfl) (fun _ _ _ _ e h => ⟨e.symm.trans h.1, panicM (e.symm.trans h.1) h.1 h.2⟩) ⟨xc3, xs33⟩ ?_
            iterate 1
              refine Heads.step (v := ?_) rfl (by first | (go_simp; done) | rfl) (fun W hW => ?_) ?_
              rotate_left
              · (obtain ⟨t0, t1⟩ := hW; go_simp; try with_reducible rfl)
            refine AnyY.one (i := 8) hF (by kernel_rfl) rfl (fun K hK => ?_)
            go_simp
            refine hK _ _ (fun h => by cases h) (AnyY.done (by kernel_rfl) ?_)
            clear hK
            simp only [noDef]
            go_simp
            gi_wp2_with fail
            go_roundw
            case rel => exact ⟨i + 1, A', c', _, by omega, by go_num, HC4, HX4, HO4⟩
            case measure => simp [intOf]; omega
          · obtain rfl : i = C := by omega
            gi_wp2_with fail
            refine CallsIn.mono ((callsIn_wide (n := 9)).2 (fields_any bX wr)) ?_
            rintro e wf ⟨rfl, ewf⟩
            subst ewf
            obtain ⟨hJ, hDB, hAP, hRow⟩ := dkJ0 (c := c) (n0 := w.heap.size) (m := w7.heap.size) (na := wa.heap.size) HLb.out HO.out (by have h := HGX.out; rw [HC.out, HNR.out, HNO.out] at h; exact h) (by have h := HCO.out; rw [HC.out, HR.out] at h; exact h) (by have h := GR.out; rw [HNR.out] at h; exact h) (by have h := GO.out; rw [HNO.out] at h; exact h) HRBb.out HFBb.out ⟨_, GX.out⟩ (by omega) hS5 h3 h1 h2 hzab hA7.out
            obtain ⟨cf, hcf⟩ : ∃ cf, cf = blankC (body l) AC cC bR bO CB := ⟨_, rfl⟩
            have HSC : Hid (ShOk cf.sh) := Lib.hid (by rw [hcf]; exact HSH.out)
            have HFI : Hid cf.Fits := Lib.hid (by rw [hcf]; exact blank_fits HSH.out)
            have HPT : Hid cf.Ptr := Lib.hid (by rw [hcf]; exact blank_ptr)
            have HDI : Hid cf.Dims := Lib.hid (by rw [hcf]; exact blank_dims HSH.out)
            have HACB : Hid (∀ k, blockOf cf.AC k → w.heap.size + 1 < k) := Lib.hid (fun k hk => by
              have h := own_base HCO.out.own k (by rw [hcf] at hk; exact hk)
              omega)
            have HCF := Lib.hid hcf
            rw [← hcf] at hJ hAP
            clear hcf
            have HDB := Lib.hid hDB; have HAP := Lib.hid hAP; have HRow := Lib.hid hRow
            have hbl : Below wr.heap.size wr (wr.alloc (.cells #[.pointer (some ⟨bX, 0, none⟩)] 72)) := (Below.refl _ _).alloc (Nat.le_refl _) _
            have hJ1 := hJ.below hbl
            have hzr := HO.out.size
            have hB1 : Below w.heap.size w (wr.alloc (.cells #[.pointer (some ⟨bX, 0, none⟩)] 72)) := (HBb.out.trans (HO.out.below (B := w.heap.size) (fun i _ hi => by omega) (by omega))).trans (hbl.mono (by omega))
            have hfp := Firm.new w.heap.size wr (.pointer (some ⟨bX, 0, none⟩)) 72 (.inr (.inl rfl))
            have HJ1 := Lib.hid hJ1; have HB1 := Lib.hid hB1; have HFP := Lib.hid hfp
            clear hJ hDB hAP hRow hbl hJ1 hB1 hfp HLb HO HCO GR GO GX HGX HRBb HFBb HBb s4
            gi_wp2_with fail
            --RF
            refine wpIn_rangeFunc_ownH rfl (by omega) (gf := 37) (lb := #[.pointer (some ⟨wr.heap.size, 0, none⟩)]) rfl trivial (enters_of Tryd.func37 (by kernel_rfl) rfl)
              (fields_stops cf _ w.heap.size wr.heap.size bX _ HSC.out HFI.out HPT.out HJ1.out.hdr HFP.out) (fun h k => h.trans k) (kept_b (by simp; omega)) (Below.refl _ _) (fun _ => rfl)
              (fun pre W => DkJ l A c w7.heap.size (w7.heap.size + 1) w.heap.size (w7.heap.size + 1 + 1) (w.heap.size + 1) bX cf w.heap.size wa.heap.size (pre.map Subtype.val) W ∧ Below w.heap.size w W)
              (fun _ _ _ => False)
              (OwnFrom.and (Own.from (fun s A B row hs hg hr => hs.grown hg hr) _) (ownFrom_below (Nat.le_refl _) (by simp; omega)))
              (fun _ _ _ _ _ hs _ _ => hs)
              ⟨HJ1.out, HB1.out⟩
              (fun x a' W => ∃ Bx Pp Qq m d, cf.fv x.1 = .agg #[.pointer Pp, .pointer Qq, .int .i64 m, .int .i64 d] ∧ W.heap[Bx]? = some (.cells #[.pointer Pp, .pointer Qq, .int .i64 m, .int .i64 d] 75 (0, 0)) ∧ a' = { tmps := #[.slice A l.length c, .pointer (some ⟨w.heap.size, 0, none⟩), .pointer (some ⟨w.heap.size + 1, 0, none⟩), .nilIface, .pointer (some ⟨w.heap.size + 1 + 1, 0, none⟩), .pointer (some ⟨w7.heap.size, 0, none⟩), .pointer (some ⟨w7.heap.size + 1, 0, none⟩), .pointer (some ⟨w7.heap.size + 1 + 1, 0, none⟩), .pointer (some ⟨w7.heap.size + 1 + 1 + 1, 0, none⟩), undef, u10, .pointer (some ⟨bX, 0, none⟩), .pointer (some ⟨Bx, 0, none⟩), undef, .agg #[.int .i64 18, .int .i64 0], .pointer (some ⟨w.heap.size + 1 + 1, 0, none⟩), .slice A l.length c, .int .i64 ↑l.length, .bool false, .bool false, .slice A l.length c, .slice (some ⟨v3.heap.size, 0, none⟩) 4 4, .slice (some ⟨v3.heap.size, 0, none⟩) 4 4, .bool true, .bool false, .bool false, .bool false, .slice A l.length c, .slice A l.length c, .int .i64 ↑l.length, .int .i64 ↑(body l).length, .slice A l.length c, .int .i64 ↑l.length, .int .i64 ↑(body l).length, .slice A (body l).length (body l).length, .slice A6 ((body l).length + 4) c6, .slice A l.length c, .bool true, .bool false, .bool false, undef, undef, undef, .slice A l.length c, .int .i64 ↑l.length, .int .i64 ↑(body l).length, .int .i64 (8 * ↑(l.length - 4)), .func (.func 23) #[] #[.pointer (some ⟨w7.heap.size, 0, none⟩), .pointer (some ⟨w7.heap.size + 1, 0, none⟩), .pointer (some ⟨w.heap.size, 0, none⟩)], .pointer (some ⟨w7.heap.size + 1 + 1 + 1, 0, none⟩), .pointer (some ⟨w7.heap.size + 1 + 1 + 1, 1, none⟩), .pointer (some ⟨w7.heap.size + 1 + 1 + 1, 2, none⟩), .pointer (some ⟨w7.heap.size + 1 + 1 + 1, 3, none⟩), .pointer (some ⟨w7.heap.size + 1 + 1 + 1, 4, none⟩), .agg #[.pointer (some ⟨w7.heap.size + 1 + 1 + 1, 0, none⟩), .pointer (some ⟨w7.heap.size + 1 + 1 + 1, 1, none⟩), .pointer (some ⟨w7.heap.size + 1 + 1 + 1, 2, none⟩), .pointer (some ⟨w7.heap.size + 1 + 1 + 1, 3, none⟩), .pointer (some ⟨w7.heap.size + 1 + 1 + 1, 4, none⟩)], .int .i64 5, .bool false, u56, u57, u58, u59, u60, u61, .agg #[.int .i64 (shD (body l) 0), .int .i64 (shD (body l) 1), .int .i64 (shD (body l) 2), .int .i64 (shD (body l) 3), .int .i64 (shD (body l) 4)], .bool true, .bool false, .bool false, .pointer (some ⟨w7.heap.size + 1 + 1 + 1, 3, none⟩), .int .i64 (shD (body l) 3), .pointer (some ⟨w7.heap.size + 1 + 1 + 1, 4, none⟩), .int .i64 (shD (body l) 4), .int .i64 ↑P, .int .i64 ↑Q, .int .i64 ↑E, .bool false, .bool false, undef, undef, undef, .agg #[.int .i64 (shD (body l) 0), .int .i64 (shD (body l) 1), .int .i64 (shD (body l) 2), .int .i64 (shD (body l) 3), .int .i64 (shD (body l) 4)], .pointer (some ⟨w7.heap.size + 1 + 1 + 1, 2, none⟩), .int .i64 (shD (body l) 2), .slice (some ⟨bR, 0, none⟩) Nr Nr, .pointer (some ⟨w7.heap.size + 1 + 1 + 1, 1, none⟩), .int .i64 (shD (body l) 1), .slice (some ⟨bO, 0, none⟩) No No, .agg #[.int .i64 (shD (body l) 0), .int .i64 (shD (body l) 1), .int .i64 (shD (body l) 2), .int .i64 (shD (body l) 3), .int .i64 (shD (body l) 4), .slice none 0 0, .slice (some ⟨bR, 0, none⟩) Nr Nr, .slice (some ⟨bO, 0, none⟩) No No], .pointer (some ⟨w7.heap.size + 1 + 1 + 1, 4, none⟩), .int .i64 ↑i, .int .i64 ↑i, .bool false, u90, u91, u92, u93, u94, u95, u96, u97, u98, .func (.func 37) #[] #[.pointer (some ⟨wr.heap.size, 0, none⟩)], .agg #[.pointer Pp, .pointer Qq, .int .i64 m, .int .i64 d], undef, undef, undef, undef, undef, undef, undef, undef, undef, undef, undef, undef, undef, undef, undef, undef, undef, undef, undef, undef, undef, undef, undef, undef, undef, undef, undef, undef, undef, undef, undef, undef, undef, undef, undef], defers := [] })
              (fun x a' s A B row hs hg hr => by
                obtain ⟨Bx, Pp, Qq, m, d, h1, h2, h3⟩ := hs
                exact ⟨Bx, Pp, Qq, m, d, h1, heap_kept hg (fun r e => (hr r e).2) h2, h3⟩) ?assign ?body ?done ?stop
            case assign =>
              rintro l pre x W K ⟨hJ, hB⟩ hK
              obtain ⟨Pp, Qq, m, d, e⟩ : ∃ Pp Qq m d, cf.fv x.1 = .agg #[.pointer Pp, .pointer Qq, .int .i64 m, .int .i64 d] := by
                obtain ⟨b, o, _, h⟩ := Cf.fv_slot HPT.out HSC.out x
                rcases h with ⟨m, h, _⟩ | ⟨h, _⟩
                · exact ⟨_, _, _, _, h⟩
                · exact ⟨_, _, _, _, h⟩
              simp only [e]
              have hKE := Lib.hid e; have HJJ := Lib.hid hJ; have HBB := Lib.hid hB
              clear e hJ hB
              gi_wp2
              exact hK _ _ ((KeepsOthers.alloc _ _).from _) (Kept.below ((Below.refl _ _).alloc (Nat.le_refl _) _)) ⟨HJJ.out.below ((Below.refl _ _).alloc (Nat.le_refl _) _), HBB.out.alloc HBB.out.size _⟩ ⟨W.heap.size, Pp, Qq, m, d, hKE.out, heap_alloc_new W _, rfl⟩
            case body =>
              rintro l' pre x a' W hl' hrec ⟨hJ, hB⟩ ⟨Bx, Pp, Qq, m, d, he, hbx, rfl⟩ hlt
              have hF : ∀ f, (Fence.wide.inRound l').fn f := fun _ => trivial
              obtain ⟨b, o, hsl, hcase⟩ := Cf.fv_slot HPT.out HSC.out x
              have x0 : W.cell? ⟨Bx, 0, none⟩ = some (.pointer Pp) := by rw [cell_of_row W Bx 0 _ _ _ hbx]; rfl
              have x1 : W.cell? ⟨Bx, 1, none⟩ = some (.pointer Qq) := by rw [cell_of_row W Bx 1 _ _ _ hbx]; rfl
              have x3 : W.cell? ⟨Bx, 3, none⟩ = some (.int .i64 d) := by rw [cell_of_row W Bx 3 _ _ _ hbx]; rfl
              have xf := hJ.fn
              have hne : Bx ≠ w7.heap.size := fun e => by
                obtain ⟨cur, z, hc⟩ := hJ.at_
                rw [← e, hbx] at hc
                injection hc with hc; injection hc with _ h; exact absurd h (by decide)
              have hwl := cf.wf_le HSC.out x.1
              have hpl : 112 + cf.wsum (pre.map Subtype.val) ≤ 1000000000000 := Cf.part_bits HDI.out (by simpa using hlt)
              have HJJ := Lib.hid hJ; have HBB := Lib.hid hB; have HRE := Lib.hid hrec; have HSL := Lib.hid hsl; have HPL := Lib.hid hpl; have HWL := Lib.hid hwl; have HNE := Lib.hid hne
              obtain ⟨wd', hwd⟩ : ∃ n, n = cf.wf x.1 := ⟨_, rfl⟩
              have HWD := Lib.hid hwd
              rw [← hwd] at hcase
              clear hbx hJ hB hrec hsl hpl hwl hwd
              rcases hcase with ⟨mm, hfv, hval⟩ | ⟨hfv, hval⟩
              · rw [he] at hfv
                obtain ⟨rfl, rfl, rfl, rfl⟩ : Pp = some ⟨b, o, none⟩ ∧ Qq = none ∧ m = mm ∧ d = (wd' : Int) := by simpa using hfv
                have HVAL := Lib.hid hval
                clear hfv he hval x1 hne
                gi_wp2_with fail
                refine CallsIn.mono (CallsIn.inRound l' (callsIn_wide.2 (take_any l A c w7.heap.size (w7.heap.size + 1) w.heap.size (112 + cf.wsum (pre.map Subtype.val)) wd' W HJJ.out.take HDB.out.e HDB.out.b HDB.out.a (by omega) HPL.out (by have := HWL.out; rw [← HWD.out] at this; exact this)))) ?_
                rintro e w5 ⟨rfl, hT, hO⟩
                obtain ⟨b', o', e', hf, ⟨v, hv⟩, hN⟩ := HJJ.out.next HDB.out HAP.out x.2 HWD.out hT hO
                have e2 := HSL.out.symm.trans e'
                injection e2 with e2; injection e2 with e3 e4; subst e3 e4
                replace x0 := hO.only.cell x0 HNE.out
                have hBw : Below w.heap.size W w5 := hO.only.below (fun k _ hk => by have := HDB.out.n; omega) HBB.out.size
                obtain ⟨N1, N2, N3, N4⟩ := hN _ (HVAL.out _).symm
                have HN1 := Lib.hid N1; have HN2 := Lib.hid N2; have HN3 := Lib.hid N3; have HN4 := Lib.hid N4; have HBw := Lib.hid hBw
                clear hN hT hO e' N1 N2 N3 N4 hBw x3 xf
                gi_wp2
                exact ⟨HN3.out _, HN2.out, by rw [List.map_append]; exact HN1.out, (HBB.out.trans HBw.out).setCell (p := ⟨b, o, none⟩) HN4.out _⟩
              · rw [he] at hfv
                obtain ⟨rfl, rfl, rfl, rfl⟩ : Pp = none ∧ Qq = some ⟨b, o, none⟩ ∧ m = 2 ∧ d = (wd' : Int) := by simpa using hfv
                have HVAL := Lib.hid hval
                clear hfv he hval hne
                gi_wp2_with fail
                refine CallsIn.mono (CallsIn.inRound l' (callsIn_wide.2 (take_any l A c w7.heap.size (w7.heap.size + 1) w.heap.size (112 + cf.wsum (pre.map Subtype.val)) wd' W HJJ.out.take HDB.out.e HDB.out.b HDB.out.a (by omega) HPL.out (by have := HWL.out; rw [← HWD.out] at this; exact this)))) ?_
                rintro e w5 ⟨rfl, hT, hO⟩
                obtain ⟨b', o', e', hf, ⟨v, hv⟩, hN⟩ := HJJ.out.next HDB.out HAP.out x.2 HWD.out hT hO
                have e2 := HSL.out.symm.trans e'
                injection e2 with e2; injection e2 with e3 e4; subst e3 e4
                replace x0 := hO.only.cell x0 HNE.out
                replace x1 := hO.only.cell x1 HNE.out
                have hBw : Below w.heap.size W w5 := hO.only.below (fun k _ hk => by have := HDB.out.n; omega) HBB.out.size
                obtain ⟨N1, N2, N3, N4⟩ := hN _ (HVAL.out _).symm
                have HN1 := Lib.hid N1; have HN2 := Lib.hid N2; have HN3 := Lib.hid N3; have HN4 := Lib.hid N4; have HBw := Lib.hid hBw
                clear hN hT hO e' N1 N2 N3 N4 hBw x3 xf
                gi_wp2_with fail
                exact ⟨HN3.out _, HN2.out, by rw [List.map_append]; exact HN1.out, (HBB.out.trans HBw.out).setCell (p := ⟨b, o, none⟩) HN4.out _⟩
            case done =>
              rintro D ys W hD hS ⟨hJ, hB⟩ hK
              rw [hS] at hJ
              have xa := hJ.take.pa
              have xe : W.cell? ⟨w7.heap.size + 1, 0, none⟩ = some (.int .i64 (E : Int)) := by rw [HE.out]; exact hJ.take.pe
              have xb := hJ.take.pb
              have hTb := dk_bits HCF.out
              obtain ⟨T, hT⟩ : ∃ T, T = 112 + cf.wsum cf.flds := ⟨_, rfl⟩
              rw [← hT] at xa hTb
              have x0 : W.cell? ⟨bX, 0, none⟩ = some (.int .i64 (cf.sh 0)) := (hJ.hdr.box 0 _ rfl).1
              have x1 : W.cell? ⟨bX, 1, none⟩ = some (.int .i64 (cf.sh 1)) := (hJ.hdr.box 1 _ rfl).1
              have x2 : W.cell? ⟨bX, 2, none⟩ = some (.int .i64 (cf.sh 2)) := (hJ.hdr.box 2 _ rfl).1
              have x3 : W.cell? ⟨bX, 3, none⟩ = some (.int .i64 (cf.sh 3)) := (hJ.hdr.box 3 _ rfl).1
              have x4 : W.cell? ⟨bX, 4, none⟩ = some (.int .i64 (cf.sh 4)) := (hJ.hdr.box 4 _ rfl).1
              have x5 : W.cell? ⟨bX, 5, none⟩ = some (.slice cf.AC cf.nc cf.cC) := (hJ.hdr.box 5 _ rfl).1
              have x6 : W.cell? ⟨bX, 6, none⟩ = some (.slice cf.AR cf.nr cf.cR) := (hJ.hdr.box 6 _ rfl).1
              have x7 : W.cell? ⟨bX, 7, none⟩ = some (.slice cf.AO cf.no cf.cO) := (hJ.hdr.box 7 _ rfl).1
              have HAT := Lib.hid (dk_at HCF.out hJ)
              have HOW := Lib.hid hJ.own
              have HMW := Lib.hid hJ.take.mem
              have HRBW := Lib.hid hJ.res; have HFBW := Lib.hid hJ.flt; have HKW := Lib.hid hK; have HBW := Lib.hid hB; have HTB := Lib.hid hTb
              have HDD : Hid (w.heap.size ≤ D) := Lib.hid (by simp at hD; omega)
              have hzW : w.heap.size ≤ W.heap.size := hB.size
              clear hJ hB hK hS hTb hT hD
              by_cases hov : T ≤ E
              case neg =>
                have HG : Hid (¬ GoodB l) := Lib.hid (fun h => by have h1 := h.fits; rw [← HTB.out, ← HE.out] at h1; exact hov h1)
                have hd5 : decide (E < T) = true := decide_eq_true (by omega)
                gi_wp2_with fail
                refine wpIn_noPan ?_
                refine wpIn_region_z (fun w' => w'.cell? ⟨w7.heap.size, 0, none⟩ = some (.int .i64 (T : Int)) ∧ w'.cell? ⟨w7.heap.size + 1, 0, none⟩ = some (.int .i64 (E : Int))) [0, 1, 2, 3, 4, 5, 6, 7, 8, 9, 10, 11, 12, 13, 14] [] hF (by kernel_rfl) (by kernel_rfl) (by kernel_rfl) (by kernel_rfl) (by rfl) (fun _ _ _ _ _ h => h) ⟨xa, xe⟩ ?_
                iterate 4
                  refine Heads.step (v := ?_) rfl (by first | (go_simp; done) | rfl) (fun W hW => ?_) ?_
                  rotate_left
                  · (obtain ⟨t0, t1⟩ := hW; go_simp; try with_reducible rfl)
                iterate 3
                  refine Heads.skip rfl (by first | (go_simp; done) | rfl) ?_
                iterate 2
                  refine Heads.step (v := ?_) rfl (by first | (go_simp; done) | rfl) (fun W hW => ?_) ?_
                  rotate_left
                  · (obtain ⟨t0, t1⟩ := hW; go_simp; try with_reducible rfl)
                iterate 5
                  refine Heads.skip rfl (by first | (go_simp; done) | rfl) ?_
                iterate 1
                  refine Heads.step (v := ?_) rfl (by first | (go_simp; done) | rfl) (fun W hW => ?_) ?_
                  rotate_left
                  · (obtain ⟨t0, t1⟩ := hW; go_simp; try with_reducible rfl)
                refine AnyY.done (by kernel_rfl) ?_
                simp only [noPan]
                go_simp
                replace HRBW := Lib.hid (show W.drew.heap[w.heap.size + 1]? = _ from HRBW.out); replace HFBW := Lib.hid (show W.drew.heap[w.heap.size + 1 + 1]? = _ from HFBW.out); replace HKW := Lib.hid (show W.drew.heap[D]? = _ from HKW.out); replace HBW := Lib.hid HBW.out.drew
                clear xa xe xb x0 x1 x2 x3 x4 x5 x6 x7 HAT HMW
                generalize W.drew = Wd at *
                obtain ⟨⟨c0, c1, c2, c3, c4, c5, c6, c7⟩, hz⟩ := cells8 HRBW.out
                gi_wp2_with fail
                have hh := zap_heap HRBW.out
                have hK' := ((zap_only Wd (w.heap.size + 1)).block D (Array.getElem?_eq_some_iff.1 HKW.out).1 (fun e => by have h1 := HKW.out; have e : D = w.heap.size + 1 := e; rw [e, HRBW.out] at h1; cases h1)).trans HKW.out
                have hFF := ((zap_only Wd (w.heap.size + 1)).block _ (Array.getElem?_eq_some_iff.1 HFBW.out).1 (by show ¬ (w.heap.size + 1 + 1 = w.heap.size + 1); omega)).trans HFBW.out
                have hBB := zap_below HBW.out (b := w.heap.size + 1) (by omega)
                rw [fold_zap]
                generalize zap Wd (w.heap.size + 1) = WW at *
                refine ⟨by simp, .inl ⟨_, _, rfl, run_takeDeferred hK', ?_⟩⟩
                refine leaves0 (v := .tuple #[cfgZero, .iface 63 (.pointer (some ⟨w.heap.size + 1 + 1, 0, none⟩))]) ?hres ?_
                case hres =>
                  exact outs9 rfl rfl (put_row hK' hh _)
                exact told_no2 HG.out (put_row hK' hFF _) (hBB.trans (belowK_b (w := w) (Nat.le_refl _) WW D _ _ HDD.out hK' rfl rfl))
              have hd5 : decide (E < T) = false := decide_eq_false (by omega)
              have HOV := Lib.hid hov
              clear hov
              gi_wp2_with fail
              refine wpIn_noPan ?_
              refine wpIn_region_z (fun w' => w'.cell? ⟨w7.heap.size, 0, none⟩ = some (.int .i64 (T : Int)) ∧ w'.cell? ⟨w7.heap.size + 1, 0, none⟩ = some (.int .i64 (E : Int)) ∧ w'.cell? ⟨w.heap.size, 0, none⟩ = some (.slice A l.length c) ∧ w'.cell? ⟨bX, 0, none⟩ = some (.int .i64 (cf.sh 0)) ∧ w'.cell? ⟨bX, 1, none⟩ = some (.int .i64 (cf.sh 1)) ∧ w'.cell? ⟨bX, 2, none⟩ = some (.int .i64 (cf.sh 2)) ∧ w'.cell? ⟨bX, 3, none⟩ = some (.int .i64 (cf.sh 3)) ∧ w'.cell? ⟨bX, 4, none⟩ = some (.int .i64 (cf.sh 4)) ∧ w'.cell? ⟨bX, 5, none⟩ = some (.slice cf.AC cf.nc cf.cC) ∧ w'.cell? ⟨bX, 6, none⟩ = some (.slice cf.AR cf.nr cf.cR) ∧ w'.cell? ⟨bX, 7, none⟩ = some (.slice cf.AO cf.no cf.cO)) [0, 1, 2, 3, 4] [] hF (by kernel_rfl) (by kernel_rfl) (by kernel_rfl) (by kernel_rfl) (by rfl) (fun _ _ _ _ _ h => h) ⟨xa, xe, xb, x0, x1, x2, x3, x4, x5, x6, x7⟩ ?_
              iterate 5
                refine Heads.step (v := ?_) rfl (by first | (go_simp; done) | rfl) (fun W hW => ?_) ?_
                rotate_left
                · (obtain ⟨t0, t1, t2, t3, t4, t5, t6, t7, t8, t9, t10⟩ := hW; go_simp; try with_reducible rfl)
              refine AnyY.one (i := 5) hF (by kernel_rfl) rfl (fun K hK => ?_)
              go_simp
              refine CallsIn.mono ((callsIn_wide (n := 9)).2 (valid_any cf cf.AC cf.AR cf.AO W.drew (HAT.out.keeps (Keeps.of_below (Below.refl _ W).drew)) HFI.out rfl rfl rfl)) ?_
              rintro e wv ⟨rfl, hbv⟩
              have hbv' : Below W.heap.size W wv := ((Below.refl _ W).drew).trans hbv
              have kp := Keeps.of_below hbv'
              replace xa := kp _ _ xa; replace xe := kp _ _ xe; replace xb := kp _ _ xb; replace x0 := kp _ _ x0; replace x1 := kp _ _ x1; replace x2 := kp _ _ x2; replace x3 := kp _ _ x3; replace x4 := kp _ _ x4; replace x5 := kp _ _ x5; replace x6 := kp _ _ x6; replace x7 := kp _ _ x7
              replace HAT := Lib.hid (HAT.out.keeps kp); replace HMW := Lib.hid (HMW.out.keeps kp)
              replace HRBW := Lib.hid (heap_below hbv' HRBW.out); replace HFBW := Lib.hid (heap_below hbv' HFBW.out); replace HKW := Lib.hid (heap_below hbv' HKW.out); replace HBW := Lib.hid (HBW.out.trans (hbv'.mono hzW))
              replace hzW := Nat.le_trans hzW hbv'.size
              clear kp hbv hbv'
              by_cases hok : cf.Ok
              case neg =>
                rw [tf_no hok]
                have HG : Hid (¬ GoodB l) := Lib.hid (fun h => hok ((dk_ok HCF.out).1.2 h.ok))
                clear hok
                refine hK _ _ (fun _ => ⟨xa, xe, xb, x0, x1, x2, x3, x4, x5, x6, x7⟩) ?_
                clear hK
                refine AnyY.mid [6, 7, 8, 9, 10, 11, 12, 13, 14] [] 0 rfl hF (by kernel_rfl) (by kernel_rfl) (by kernel_rfl) (by kernel_rfl) (fun _ _ _ _ _ h => h) ⟨xa, xe, xb, x0, x1, x2, x3, x4, x5, x6, x7⟩ ?_
                iterate 3
                  refine Heads.step (v := ?_) rfl (by first | (go_simp; done) | rfl) (fun W hW => ?_) ?_
                  rotate_left
                  · (obtain ⟨t0, t1, t2, t3, t4, t5, t6, t7, t8, t9, t10⟩ := hW; go_simp; try with_reducible rfl)
                iterate 5
                  refine Heads.skip rfl (by first | (go_simp; done) | rfl) ?_
                iterate 1
                  refine Heads.step (v := ?_) rfl (by first | (go_simp; done) | rfl) (fun W hW => ?_) ?_
                  rotate_left
                  · (obtain ⟨t0, t1, t2, t3, t4, t5, t6, t7, t8, t9, t10⟩ := hW; go_simp; try with_reducible rfl)
                refine AnyY.done (by kernel_rfl) ?_
                simp only [noPan]
                go_simp
                clear xa xe xb x0 x1 x2 x3 x4 x5 x6 x7 HAT HMW
                obtain ⟨⟨c0, c1, c2, c3, c4, c5, c6, c7⟩, hz⟩ := cells8 HRBW.out
                gi_wp2_with fail
                have hh := zap_heap HRBW.out
                have hK' := ((zap_only wv (w.heap.size + 1)).block D (Array.getElem?_eq_some_iff.1 HKW.out).1 (fun e => by have h1 := HKW.out; have e : D = w.heap.size + 1 := e; rw [e, HRBW.out] at h1; cases h1)).trans HKW.out
                have hFF := ((zap_only wv (w.heap.size + 1)).block _ (Array.getElem?_eq_some_iff.1 HFBW.out).1 (by show ¬ (w.heap.size + 1 + 1 = w.heap.size + 1); omega)).trans HFBW.out
                have hBB := zap_below HBW.out (b := w.heap.size + 1) (by omega)
                rw [fold_zap]
                generalize zap wv (w.heap.size + 1) = WW at *
                refine ⟨by simp, .inl ⟨_, _, rfl, run_takeDeferred hK', ?_⟩⟩
                refine leaves0 (v := .tuple #[cfgZero, .iface 63 (.pointer (some ⟨w.heap.size + 1 + 1, 0, none⟩))]) ?hres ?_
                case hres =>
                  exact outs9 rfl rfl (put_row hK' hh _)
                exact told_no2 HG.out (put_row hK' hFF _) (hBB.trans (belowK_b (w := w) (Nat.le_refl _) WW D _ _ HDD.out hK' rfl rfl))
              rw [tf_yes hok]
              have HOK := Lib.hid hok
              clear hok
              refine hK _ _ (fun _ => ⟨xa, xe, xb, x0, x1, x2, x3, x4, x5, x6, x7⟩) ?_
              clear hK
              refine AnyY.mid [6, 7, 8, 9, 11] [] 4 rfl hF (by kernel_rfl) (by kernel_rfl) (by kernel_rfl) (by kernel_rfl) (fun _ _ _ _ _ h => h) ⟨xa, xe, xb, x0, x1, x2, x3, x4, x5, x6, x7⟩ ?_
              iterate 5
                refine Heads.step (v := ?_) rfl (by first | (go_simp; done) | rfl) (fun W hW => ?_) ?_
                rotate_left
                · (obtain ⟨t0, t1, t2, t3, t4, t5, t6, t7, t8, t9, t10⟩ := hW; go_simp; try with_reducible rfl)
              refine AnyY.one (i := 10) hF (by kernel_rfl) rfl (fun K hK => ?_)
              go_simp
              refine CallsIn.mono ((callsIn_wide (n := 9)).2 (encode_any cf cf.AC cf.AR cf.AO wv HAT.out HFI.out HOK.out rfl rfl rfl)) ?_
              rintro e wn ⟨⟨An, cn, rfl, hby⟩, hbn⟩
              have kp := Keeps.of_below hbn
              replace xa := kp _ _ xa; replace xe := kp _ _ xe; replace xb := kp _ _ xb; replace x0 := kp _ _ x0; replace x1 := kp _ _ x1; replace x2 := kp _ _ x2; replace x3 := kp _ _ x3; replace x4 := kp _ _ x4; replace x5 := kp _ _ x5; replace x6 := kp _ _ x6; replace x7 := kp _ _ x7
              replace HAT := Lib.hid (HAT.out.keeps kp); replace HMW := Lib.hid (HMW.out.keeps kp)
              replace HRBW := Lib.hid (heap_below hbn HRBW.out); replace HFBW := Lib.hid (heap_below hbn HFBW.out); replace HKW := Lib.hid (heap_below hbn HKW.out); replace HBW := Lib.hid (HBW.out.trans (hbn.mono hzW))
              replace hzW := Nat.le_trans hzW hbn.size
              clear kp hbn
              refine hK _ _ (fun _ => ⟨xa, xe, xb, x0, x1, x2, x3, x4, x5, x6, x7⟩) ?_
              clear hK
              refine AnyY.one (i := 12) hF (by kernel_rfl) rfl (fun K hK => ?_)
              go_simp
              refine CallsIn.mono ((callsIn_wide (n := 9)).2 (equaln_any An A cf.text l _ cn c wn rfl (Byt.mem hby) HMW.out)) ?_
              rintro e we ⟨⟨q, rfl, HQQ⟩, ewe⟩
              subst ewe
              clear hby
              refine hK _ _ (fun _ => ⟨xa, xe, xb, x0, x1, x2, x3, x4, x5, x6, x7⟩) ?_
              clear hK
              refine AnyY.mid [13, 14] [] 0 rfl hF (by kernel_rfl) (by kernel_rfl) (by kernel_rfl) (by kernel_rfl) (fun _ _ _ _ _ h => h) ⟨xa, xe, xb, x0, x1, x2, x3, x4, x5, x6, x7⟩ ?_
              iterate 2
                refine Heads.step (v := ?_) rfl (by first | (go_simp; done) | rfl) (fun W hW => ?_) ?_
                rotate_left
                · (obtain ⟨t0, t1, t2, t3, t4, t5, t6, t7, t8, t9, t10⟩ := hW; go_simp; try with_reducible rfl)
              refine AnyY.done (by kernel_rfl) ?_
              simp only [noPan]
              go_simp
              cases q
              case false =>
                have HG : Hid (¬ GoodB l) := Lib.hid (fun h => by have := HQQ.out.2 ((dk_ok HCF.out).2.trans h.text); cases this)
                clear xa xe xb x0 x1 x2 x3 x4 x5 x6 x7 HAT HMW
                obtain ⟨⟨c0, c1, c2, c3, c4, c5, c6, c7⟩, hz⟩ := cells8 HRBW.out
                gi_wp2_with fail
                have hh := zap_heap HRBW.out
                have hK' := ((zap_only we (w.heap.size + 1)).block D (Array.getElem?_eq_some_iff.1 HKW.out).1 (fun e => by have h1 := HKW.out; have e : D = w.heap.size + 1 := e; rw [e, HRBW.out] at h1; cases h1)).trans HKW.out
                have hFF := ((zap_only we (w.heap.size + 1)).block _ (Array.getElem?_eq_some_iff.1 HFBW.out).1 (by show ¬ (w.heap.size + 1 + 1 = w.heap.size + 1); omega)).trans HFBW.out
                have hBB := zap_below HBW.out (b := w.heap.size + 1) (by omega)
                rw [fold_zap]
                generalize zap we (w.heap.size + 1) = WW at *
                refine ⟨by simp, .inl ⟨_, _, rfl, run_takeDeferred hK', ?_⟩⟩
                refine leaves0 (v := .tuple #[cfgZero, .iface 63 (.pointer (some ⟨w.heap.size + 1 + 1, 0, none⟩))]) ?hres ?_
                case hres =>
                  exact outs9 rfl rfl (put_row hK' hh _)
                exact told_no2 HG.out (put_row hK' hFF _) (hBB.trans (belowK_b (w := w) (Nat.le_refl _) WW D _ _ HDD.out hK' rfl rfl))
              have HTX := Lib.hid (HQQ.out.1 rfl)
              clear HQQ xa xe xb
              obtain ⟨⟨c0, c1, c2, c3, c4, c5, c6, c7⟩, hz⟩ := cells8 HRBW.out
              gi_wp2_with fail
              have hh := set8_heap HRBW.out (.int .i64 (cf.sh 0)) (.int .i64 (cf.sh 1)) (.int .i64 (cf.sh 2)) (.int .i64 (cf.sh 3)) (.int .i64 (cf.sh 4)) (.slice cf.AC cf.nc cf.cC) (.slice cf.AR cf.nr cf.cR) (.slice cf.AO cf.no cf.cO)
              have ho := set8_only (Only.refl (fun k => k = w.heap.size + 1) we) (fun _ => rfl) (.int .i64 (cf.sh 0)) (.int .i64 (cf.sh 1)) (.int .i64 (cf.sh 2)) (.int .i64 (cf.sh 3)) (.int .i64 (cf.sh 4)) (.slice cf.AC cf.nc cf.cC) (.slice cf.AR cf.nr cf.cR) (.slice cf.AO cf.no cf.cO)
              have hBB := set8_below (b := w.heap.size + 1) HBW.out (by omega) (.int .i64 (cf.sh 0)) (.int .i64 (cf.sh 1)) (.int .i64 (cf.sh 2)) (.int .i64 (cf.sh 3)) (.int .i64 (cf.sh 4)) (.slice cf.AC cf.nc cf.cC) (.slice cf.AR cf.nr cf.cR) (.slice cf.AO cf.no cf.cO)
              rw [fold8]
              have hK' := (ho.block D (Array.getElem?_eq_some_iff.1 HKW.out).1 (fun e => by have h1 := HKW.out; have e : D = w.heap.size + 1 := e; rw [e, HRBW.out] at h1; cases h1)).trans HKW.out
              have hAT2 := (HAT.out.apart (n1 := wa.heap.size) HACB.out HOW.out (by omega) ho).put hK' (.deferred none)
              generalize set8 we (w.heap.size + 1) (.int .i64 (cf.sh 0)) (.int .i64 (cf.sh 1)) (.int .i64 (cf.sh 2)) (.int .i64 (cf.sh 3)) (.int .i64 (cf.sh 4)) (.slice cf.AC cf.nc cf.cC) (.slice cf.AR cf.nr cf.cR) (.slice cf.AO cf.no cf.cO) = WW at *
              refine ⟨by simp, .inl ⟨_, _, rfl, run_takeDeferred hK', ?_⟩⟩
              refine leaves0 (v := .tuple #[.agg #[.int .i64 (cf.sh 0), .int .i64 (cf.sh 1), .int .i64 (cf.sh 2), .int .i64 (cf.sh 3), .int .i64 (cf.sh 4), .slice cf.AC cf.nc cf.cC, .slice cf.AR cf.nr cf.cR, .slice cf.AO cf.no cf.cO], .nilIface]) ?hres ?_
              case hres =>
                exact outs9 rfl rfl (put_row hK' hh _)
              have HG : GoodB l := ⟨h18, HMG.out, HCR.out.symm, HSH.out, by rw [← HTB.out, ← HE.out]; exact HOV.out, (dk_ok HCF.out).1.1 HOK.out, (dk_ok HCF.out).2.symm.trans HTX.out⟩
              have e := HCF.out
              subst e
              exact ⟨.inl ⟨HG, _, _, _, _, _, _, _, _, hAT2, rfl⟩, hBB.trans (belowK_b (w := w) (Nat.le_refl _) WW D _ _ HDD.out hK' rfl rfl)⟩
            case stop =>
              rintro D cc pre W _ _ h _
              exact h.elim
            --RFE
      refine wpIn_noDef ?_
      refine wpIn_region_z (fun w' => w'.cell? ⟨w7.heap.size + 1 + 1 + 1, 0, none⟩ = some (.int .i64 (shD (body l) 0)) ∧ w'.cell? ⟨w7.heap.size + 1 + 1 + 1, 1, none⟩ = some (.int .i64 (shD (body l) 1)) ∧ w'.cell? ⟨w7.heap.size + 1 + 1 + 1, 2, none⟩ = some (.int .i64 (shD (body l) 2)) ∧ w'.cell? ⟨w7.heap.size + 1 + 1 + 1, 3, none⟩ = some (.int .i64 (shD (body l) 3)) ∧ w'.cell? ⟨w7.heap.size + 1 + 1 + 1, 4, none⟩ = some (.int .i64 (shD (body l) 4))) [0, 1, 2, 4, 5] [] hF (by kernel_rfl) (by kernel_rfl) (by kernel_rfl) (by kernel_rfl) (by rfl) (fun _ _ _ _ e h => ⟨e.symm.trans h.1, panicM (e.symm.trans h.1) h.1 h.2⟩) ⟨s0, s1, s2, s3, s4⟩ ?_
      iterate 5
        refine Heads.step (v := ?_) rfl (by first | (go_simp; done) | rfl) (fun W hW => ?_) ?_
        rotate_left
        · (obtain ⟨t0, t1, t2, t3, t4⟩ := hW; go_simp; try with_reducible rfl)
      --R15
      refine AnyY.three (i := 3) (j := 6) (k := 8) hF (by kernel_rfl) rfl rfl rfl (fun K hK => ?_) (fun K hK => ?_) (fun K hK => ?_)
      · skip
        go_simp
        have hb0 : Below wa.heap.size wa (wa.alloc (.cells (madeCells #[.int .i64 0, .bool false] (Nr * 2)) 57)).drew := ((Below.refl _ _).alloc (Nat.le_refl _) _).drew
        have z0 : Hid ((wa.alloc (.cells (madeCells #[.int .i64 0, .bool false] (Nr * 2)) 57)).drew.heap.size = wa.heap.size + 1) := Lib.hid (by simp)
        have fR : Arr (wa.alloc (.cells (madeCells #[.int .i64 0, .bool false] (Nr * 2)) 57)).drew wa.heap.size 57 (Nr * 2) regZ := Arr.heap (regs_made wa Nr) rfl
        replace s0 := (Keeps.of_below hb0) _ _ s0; replace s1 := (Keeps.of_below hb0) _ _ s1; replace s2 := (Keeps.of_below hb0) _ _ s2; replace s3 := (Keeps.of_below hb0) _ _ s3; replace s4 := (Keeps.of_below hb0) _ _ s4
        generalize (wa.alloc (.cells (madeCells #[.int .i64 0, .bool false] (Nr * 2)) 57)).drew = wb at *
        refine hK _ _ (fun _ => ⟨s0, s1, s2, s3, s4⟩) ?_
        clear hK
        refine AnyY.two (i := 6) (j := 8) hF (by kernel_rfl) rfl rfl (fun K hK => ?_) (fun K hK => ?_)
        · skip
          go_simp
          have hb1 : Below wb.heap.size wb (wb.alloc (.cells (madeCells #[.int .i64 0] No) 3)) := ((Below.refl _ _).alloc (Nat.le_refl _) _)
          have z1 : Hid ((wb.alloc (.cells (madeCells #[.int .i64 0] No) 3)).heap.size = wb.heap.size + 1) := Lib.hid (by simp)
          have fO : Arr (wb.alloc (.cells (madeCells #[.int .i64 0] No) 3)) wb.heap.size 3 No (fun _ => .int .i64 0) := outs_made wb No
          replace s0 := (Keeps.of_below hb1) _ _ s0; replace s1 := (Keeps.of_below hb1) _ _ s1; replace s2 := (Keeps.of_below hb1) _ _ s2; replace s3 := (Keeps.of_below hb1) _ _ s3; replace s4 := (Keeps.of_below hb1) _ _ s4
          replace fR := fR.below hb1
          generalize (wb.alloc (.cells (madeCells #[.int .i64 0] No) 3)) = wc at *
          refine hK _ _ (fun _ => ⟨s0, s1, s2, s3, s4⟩) ?_
          clear hK
          refine AnyY.mid [7] [] 2 rfl hF (by kernel_rfl) (by kernel_rfl) (by kernel_rfl) (by kernel_rfl) (fun _ _ _ _ e h => ⟨e.symm.trans h.1, panicM (e.symm.trans h.1) h.1 h.2⟩) ⟨s0, s1, s2, s3, s4⟩ ?_
          iterate 1
            refine Heads.step (v := ?_) rfl (by first | (go_simp; done) | rfl) (fun W hW => ?_) ?_
            rotate_left
            · (obtain ⟨t0, t1, t2, t3, t4⟩ := hW; go_simp; try with_reducible rfl)
          refine AnyY.one (i := 8) hF (by kernel_rfl) rfl (fun K hK => ?_)
          go_simp
          have hb2 : Below wc.heap.size wc (wc.alloc (.cells #[.int .i64 0, .int .i64 0, .int .i64 0, .int .i64 0, .int .i64 0, .slice none 0 0, .slice none 0 0, .slice none 0 0] 31)) := ((Below.refl _ _).alloc (Nat.le_refl _) _)
          have z2 : Hid ((wc.alloc (.cells #[.int .i64 0, .int .i64 0, .int .i64 0, .int .i64 0, .int .i64 0, .slice none 0 0, .slice none 0 0, .slice none 0 0] 31)).heap.size = wc.heap.size + 1) := Lib.hid (by simp)
          have fX : (wc.alloc (.cells #[.int .i64 0, .int .i64 0, .int .i64 0, .int .i64 0, .int .i64 0, .slice none 0 0, .slice none 0 0, .slice none 0 0] 31)).heap[wc.heap.size]? = some (.cells #[.int .i64 0, .int .i64 0, .int .i64 0, .int .i64 0, .int .i64 0, .slice none 0 0, .slice none 0 0, .slice none 0 0] 31) := heap_alloc_new wc (.cells #[.int .i64 0, .int .i64 0, .int .i64 0, .int .i64 0, .int .i64 0, .slice none 0 0, .slice none 0 0, .slice none 0 0] 31)
          replace s0 := (Keeps.of_below hb2) _ _ s0; replace s1 := (Keeps.of_below hb2) _ _ s1; replace s2 := (Keeps.of_below hb2) _ _ s2; replace s3 := (Keeps.of_below hb2) _ _ s3; replace s4 := (Keeps.of_below hb2) _ _ s4
          replace fR := fR.below hb2
          replace fO := fO.below hb2
          generalize (wc.alloc (.cells #[.int .i64 0, .int .i64 0, .int .i64 0, .int .i64 0, .int .i64 0, .slice none 0 0, .slice none 0 0, .slice none 0 0] 31)) = wd at *
          refine hK _ _ (fun _ => ⟨s0, s1, s2, s3, s4⟩) ?_
          clear hK
          refine AnyY.one (i := 9) hF (by kernel_rfl) rfl (fun K hK => ?_)
          obtain ⟨⟨c0, c1, c2, c3, c4, c5, c6, c7⟩, hz⟩ := cells8 fX
          go_simp
          clear c0 c1 c2 c3 c4 c5 c6 c7 hz
          rw [fold8]
          have ho := set8_only (Only.refl (fun k => k = wc.heap.size) wd) (fun _ => rfl) (.int .i64 (shD (body l) 0)) (.int .i64 (shD (body l) 1)) (.int .i64 (shD (body l) 2)) (.int .i64 (shD (body l) 3)) (.int .i64 (shD (body l) 4)) (.slice none 0 0) (.slice (some ⟨wa.heap.size, 0, none⟩) Nr Nr) (.slice (some ⟨wb.heap.size, 0, none⟩) No No)
          replace z0 := z0.out; replace z1 := z1.out; replace z2 := z2.out; have hza := HBa.out.size
          have hne : w7.heap.size + 1 + 1 + 1 < wa.heap.size := World.block_lt_of_cell? wa _ sx
          have hq : ¬ (w7.heap.size + 1 + 1 + 1 = wc.heap.size) := by omega
          refine hK _ _ (fun _ => ⟨ho.cell s0 hq, ho.cell s1 hq, ho.cell s2 hq, ho.cell s3 hq, ho.cell s4 hq⟩) (AnyY.done (by kernel_rfl) ?_)
          clear hK
          simp only [noDef]
          clear z0 z1 z2 hq hne hza
          go_simp
          have y0 := hb0.size; have y1 := hb1.size; have y2 := hb2.size
          exact hEnd wa.heap.size wb.heap.size wc.heap.size wd ((hb0.trans (hb1.mono (by omega))).trans (hb2.mono (by omega))) fR fO fX (by omega) (by omega) (by omega)
        · skip
          go_simp
          have hb1 : Below wb.heap.size wb (wb.alloc (.cells #[.int .i64 0, .int .i64 0, .int .i64 0, .int .i64 0, .int .i64 0, .slice none 0 0, .slice none 0 0, .slice none 0 0] 31)) := ((Below.refl _ _).alloc (Nat.le_refl _) _)
          have z1 : Hid ((wb.alloc (.cells #[.int .i64 0, .int .i64 0, .int .i64 0, .int .i64 0, .int .i64 0, .slice none 0 0, .slice none 0 0, .slice none 0 0] 31)).heap.size = wb.heap.size + 1) := Lib.hid (by simp)
          have fX : (wb.alloc (.cells #[.int .i64 0, .int .i64 0, .int .i64 0, .int .i64 0, .int .i64 0, .slice none 0 0, .slice none 0 0, .slice none 0 0] 31)).heap[wb.heap.size]? = some (.cells #[.int .i64 0, .int .i64 0, .int .i64 0, .int .i64 0, .int .i64 0, .slice none 0 0, .slice none 0 0, .slice none 0 0] 31) := heap_alloc_new wb (.cells #[.int .i64 0, .int .i64 0, .int .i64 0, .int .i64 0, .int .i64 0, .slice none 0 0, .slice none 0 0, .slice none 0 0] 31)
          replace s0 := (Keeps.of_below hb1) _ _ s0; replace s1 := (Keeps.of_below hb1) _ _ s1; replace s2 := (Keeps.of_below hb1) _ _ s2; replace s3 := (Keeps.of_below hb1) _ _ s3; replace s4 := (Keeps.of_below hb1) _ _ s4
          replace fR := fR.below hb1
          generalize (wb.alloc (.cells #[.int .i64 0, .int .i64 0, .int .i64 0, .int .i64 0, .int .i64 0, .slice none 0 0, .slice none 0 0, .slice none 0 0] 31)) = wc at *
          refine hK _ _ (fun _ => ⟨s0, s1, s2, s3, s4⟩) ?_
          clear hK
          refine AnyY.one (i := 6) hF (by kernel_rfl) rfl (fun K hK => ?_)
          go_simp
          have hb2 : Below wc.heap.size wc (wc.alloc (.cells (madeCells #[.int .i64 0] No) 3)) := ((Below.refl _ _).alloc (Nat.le_refl _) _)
          have z2 : Hid ((wc.alloc (.cells (madeCells #[.int .i64 0] No) 3)).heap.size = wc.heap.size + 1) := Lib.hid (by simp)
          have fO : Arr (wc.alloc (.cells (madeCells #[.int .i64 0] No) 3)) wc.heap.size 3 No (fun _ => .int .i64 0) := outs_made wc No
          replace s0 := (Keeps.of_below hb2) _ _ s0; replace s1 := (Keeps.of_below hb2) _ _ s1; replace s2 := (Keeps.of_below hb2) _ _ s2; replace s3 := (Keeps.of_below hb2) _ _ s3; replace s4 := (Keeps.of_below hb2) _ _ s4
          replace fR := fR.below hb2
          replace fX := heap_below hb2 fX
          generalize (wc.alloc (.cells (madeCells #[.int .i64 0] No) 3)) = wd at *
          refine hK _ _ (fun _ => ⟨s0, s1, s2, s3, s4⟩) ?_
          clear hK
          refine AnyY.mid [7] [] 1 rfl hF (by kernel_rfl) (by kernel_rfl) (by kernel_rfl) (by kernel_rfl) (fun _ _ _ _ e h => ⟨e.symm.trans h.1, panicM (e.symm.trans h.1) h.1 h.2⟩) ⟨s0, s1, s2, s3, s4⟩ ?_
          iterate 1
            refine Heads.step (v := ?_) rfl (by first | (go_simp; done) | rfl) (fun W hW => ?_) ?_
            rotate_left
            · (obtain ⟨t0, t1, t2, t3, t4⟩ := hW; go_simp; try with_reducible rfl)
          refine AnyY.one (i := 9) hF (by kernel_rfl) rfl (fun K hK => ?_)
          obtain ⟨⟨c0, c1, c2, c3, c4, c5, c6, c7⟩, hz⟩ := cells8 fX
          go_simp
          clear c0 c1 c2 c3 c4 c5 c6 c7 hz
          rw [fold8]
          have ho := set8_only (Only.refl (fun k => k = wb.heap.size) wd) (fun _ => rfl) (.int .i64 (shD (body l) 0)) (.int .i64 (shD (body l) 1)) (.int .i64 (shD (body l) 2)) (.int .i64 (shD (body l) 3)) (.int .i64 (shD (body l) 4)) (.slice none 0 0) (.slice (some ⟨wa.heap.size, 0, none⟩) Nr Nr) (.slice (some ⟨wc.heap.size, 0, none⟩) No No)
          replace z0 := z0.out; replace z1 := z1.out; replace z2 := z2.out; have hza := HBa.out.size
          have hne : w7.heap.size + 1 + 1 + 1 < wa.heap.size := World.block_lt_of_cell? wa _ sx
          have hq : ¬ (w7.heap.size + 1 + 1 + 1 = wb.heap.size) := by omega
          refine hK _ _ (fun _ => ⟨ho.cell s0 hq, ho.cell s1 hq, ho.cell s2 hq, ho.cell s3 hq, ho.cell s4 hq⟩) (AnyY.done (by kernel_rfl) ?_)
          clear hK
          simp only [noDef]
          clear z0 z1 z2 hq hne hza
          go_simp
          have y0 := hb0.size; have y1 := hb1.size; have y2 := hb2.size
          exact hEnd wa.heap.size wc.heap.size wb.heap.size wd ((hb0.trans (hb1.mono (by omega))).trans (hb2.mono (by omega))) fR fO fX (by omega) (by omega) (by omega)
      · skip
        go_simp
        have hb0 : Below wa.heap.size wa (wa.alloc (.cells (madeCells #[.int .i64 0] No) 3)).drew := ((Below.refl _ _).alloc (Nat.le_refl _) _).drew
        have z0 : Hid ((wa.alloc (.cells (madeCells #[.int .i64 0] No) 3)).drew.heap.size = wa.heap.size + 1) := Lib.hid (by simp)
        have fO : Arr (wa.alloc (.cells (madeCells #[.int .i64 0] No) 3)).drew wa.heap.size 3 No (fun _ => .int .i64 0) := Arr.heap (outs_made wa No) rfl
        replace s0 := (Keeps.of_below hb0) _ _ s0; replace s1 := (Keeps.of_below hb0) _ _ s1; replace s2 := (Keeps.of_below hb0) _ _ s2; replace s3 := (Keeps.of_below hb0) _ _ s3; replace s4 := (Keeps.of_below hb0) _ _ s4
        generalize (wa.alloc (.cells (madeCells #[.int .i64 0] No) 3)).drew = wb at *
        refine hK _ _ (fun _ => ⟨s0, s1, s2, s3, s4⟩) ?_
        clear hK
        refine AnyY.two (i := 3) (j := 8) hF (by kernel_rfl) rfl rfl (fun K hK => ?_) (fun K hK => ?_)
        · skip
          go_simp
          have hb1 : Below wb.heap.size wb (wb.alloc (.cells (madeCells #[.int .i64 0, .bool false] (Nr * 2)) 57)) := ((Below.refl _ _).alloc (Nat.le_refl _) _)
          have z1 : Hid ((wb.alloc (.cells (madeCells #[.int .i64 0, .bool false] (Nr * 2)) 57)).heap.size = wb.heap.size + 1) := Lib.hid (by simp)
          have fR : Arr (wb.alloc (.cells (madeCells #[.int .i64 0, .bool false] (Nr * 2)) 57)) wb.heap.size 57 (Nr * 2) regZ := regs_made wb Nr
          replace s0 := (Keeps.of_below hb1) _ _ s0; replace s1 := (Keeps.of_below hb1) _ _ s1; replace s2 := (Keeps.of_below hb1) _ _ s2; replace s3 := (Keeps.of_below hb1) _ _ s3; replace s4 := (Keeps.of_below hb1) _ _ s4
          replace fO := fO.below hb1
          generalize (wb.alloc (.cells (madeCells #[.int .i64 0, .bool false] (Nr * 2)) 57)) = wc at *
          refine hK _ _ (fun _ => ⟨s0, s1, s2, s3, s4⟩) ?_
          clear hK
          refine AnyY.mid [7] [] 2 rfl hF (by kernel_rfl) (by kernel_rfl) (by kernel_rfl) (by kernel_rfl) (fun _ _ _ _ e h => ⟨e.symm.trans h.1, panicM (e.symm.trans h.1) h.1 h.2⟩) ⟨s0, s1, s2, s3, s4⟩ ?_
          iterate 1
            refine Heads.step (v := ?_) rfl (by first | (go_simp; done) | rfl) (fun W hW => ?_) ?_
            rotate_left
            · (obtain ⟨t0, t1, t2, t3, t4⟩ := hW; go_simp; try with_reducible rfl)
          refine AnyY.one (i := 8) hF (by kernel_rfl) rfl (fun K hK => ?_)
          go_simp
          have hb2 : Below wc.heap.size wc (wc.alloc (.cells #[.int .i64 0, .int .i64 0, .int .i64 0, .int .i64 0, .int .i64 0, .slice none 0 0, .slice none 0 0, .slice none 0 0] 31)) := ((Below.refl _ _).alloc (Nat.le_refl _) _)
          have z2 : Hid ((wc.alloc (.cells #[.int .i64 0, .int .i64 0, .int .i64 0, .int .i64 0, .int .i64 0, .slice none 0 0, .slice none 0 0, .slice none 0 0] 31)).heap.size = wc.heap.size + 1) := Lib.hid (by simp)
          have fX : (wc.alloc (.cells #[.int .i64 0, .int .i64 0, .int .i64 0, .int .i64 0, .int .i64 0, .slice none 0 0, .slice none 0 0, .slice none 0 0] 31)).heap[wc.heap.size]? = some (.cells #[.int .i64 0, .int .i64 0, .int .i64 0, .int .i64 0, .int .i64 0, .slice none 0 0, .slice none 0 0, .slice none 0 0] 31) := heap_alloc_new wc (.cells #[.int .i64 0, .int .i64 0, .int .i64 0, .int .i64 0, .int .i64 0, .slice none 0 0, .slice none 0 0, .slice none 0 0] 31)
          replace s0 := (Keeps.of_below hb2) _ _ s0; replace s1 := (Keeps.of_below hb2) _ _ s1; replace s2 := (Keeps.of_below hb2) _ _ s2; replace s3 := (Keeps.of_below hb2) _ _ s3; replace s4 := (Keeps.of_below hb2) _ _ s4
          replace fO := fO.below hb2
          replace fR := fR.below hb2
          generalize (wc.alloc (.cells #[.int .i64 0, .int .i64 0, .int .i64 0, .int .i64 0, .int .i64 0, .slice none 0 0, .slice none 0 0, .slice none 0 0] 31)) = wd at *
          refine hK _ _ (fun _ => ⟨s0, s1, s2, s3, s4⟩) ?_
          clear hK
          refine AnyY.one (i := 9) hF (by kernel_rfl) rfl (fun K hK => ?_)
          obtain ⟨⟨c0, c1, c2, c3, c4, c5, c6, c7⟩, hz⟩ := cells8 fX
          go_simp
          clear c0 c1 c2 c3 c4 c5 c6 c7 hz
          rw [fold8]
          have ho := set8_only (Only.refl (fun k => k = wc.heap.size) wd) (fun _ => rfl) (.int .i64 (shD (body l) 0)) (.int .i64 (shD (body l) 1)) (.int .i64 (shD (body l) 2)) (.int .i64 (shD (body l) 3)) (.int .i64 (shD (body l) 4)) (.slice none 0 0) (.slice (some ⟨wb.heap.size, 0, none⟩) Nr Nr) (.slice (some ⟨wa.heap.size, 0, none⟩) No No)
          replace z0 := z0.out; replace z1 := z1.out; replace z2 := z2.out; have hza := HBa.out.size
          have hne : w7.heap.size + 1 + 1 + 1 < wa.heap.size := World.block_lt_of_cell? wa _ sx
          have hq : ¬ (w7.heap.size + 1 + 1 + 1 = wc.heap.size) := by omega
          refine hK _ _ (fun _ => ⟨ho.cell s0 hq, ho.cell s1 hq, ho.cell s2 hq, ho.cell s3 hq, ho.cell s4 hq⟩) (AnyY.done (by kernel_rfl) ?_)
          clear hK
          simp only [noDef]
          clear z0 z1 z2 hq hne hza
          go_simp
          have y0 := hb0.size; have y1 := hb1.size; have y2 := hb2.size
          exact hEnd wb.heap.size wa.heap.size wc.heap.size wd ((hb0.trans (hb1.mono (by omega))).trans (hb2.mono (by omega))) fR fO fX (by omega) (by omega) (by omega)
        · skip
          go_simp
          have hb1 : Below wb.heap.size wb (wb.alloc (.cells #[.int .i64 0, .int .i64 0, .int .i64 0, .int .i64 0, .int .i64 0, .slice none 0 0, .slice none 0 0, .slice none 0 0] 31)) := ((Below.refl _ _).alloc (Nat.le_refl _) _)
          have z1 : Hid ((wb.alloc (.cells #[.int .i64 0, .int .i64 0, .int .i64 0, .int .i64 0, .int .i64 0, .slice none 0 0, .slice none 0 0, .slice none 0 0] 31)).heap.size = wb.heap.size + 1) := Lib.hid (by simp)
          have fX : (wb.alloc (.cells #[.int .i64 0, .int .i64 0, .int .i64 0, .int .i64 0, .int .i64 0, .slice none 0 0, .slice none 0 0, .slice none 0 0] 31)).heap[wb.heap.size]? = some (.cells #[.int .i64 0, .int .i64 0, .int .i64 0, .int .i64 0, .int .i64 0, .slice none 0 0, .slice none 0 0, .slice none 0 0] 31) := heap_alloc_new wb (.cells #[.int .i64 0, .int .i64 0, .int .i64 0, .int .i64 0, .int .i64 0, .slice none 0 0, .slice none 0 0, .slice none 0 0] 31)
          replace s0 := (Keeps.of_below hb1) _ _ s0; replace s1 := (Keeps.of_below hb1) _ _ s1; replace s2 := (Keeps.of_below hb1) _ _ s2; replace s3 := (Keeps.of_below hb1) _ _ s3; replace s4 := (Keeps.of_below hb1) _ _ s4
          replace fO := fO.below hb1
          generalize (wb.alloc (.cells #[.int .i64 0, .int .i64 0, .int .i64 0, .int .i64 0, .int .i64 0, .slice none 0 0, .slice none 0 0, .slice none 0 0] 31)) = wc at *
          refine hK _ _ (fun _ => ⟨s0, s1, s2, s3, s4⟩) ?_
          clear hK
          refine AnyY.one (i := 3) hF (by kernel_rfl) rfl (fun K hK => ?_)
          go_simp
          have hb2 : Below wc.heap.size wc (wc.alloc (.cells (madeCells #[.int .i64 0, .bool false] (Nr * 2)) 57)) := ((Below.refl _ _).alloc (Nat.le_refl _) _)
          have z2 : Hid ((wc.alloc (.cells (madeCells #[.int .i64 0, .bool false] (Nr * 2)) 57)).heap.size = wc.heap.size + 1) := Lib.hid (by simp)
          have fR : Arr (wc.alloc (.cells (madeCells #[.int .i64 0, .bool false] (Nr * 2)) 57)) wc.heap.size 57 (Nr * 2) regZ := regs_made wc Nr
          replace s0 := (Keeps.of_below hb2) _ _ s0; replace s1 := (Keeps.of_below hb2) _ _ s1; replace s2 := (Keeps.of_below hb2) _ _ s2; replace s3 := (Keeps.of_below hb2) _ _ s3; replace s4 := (Keeps.of_below hb2) _ _ s4
          replace fO := fO.below hb2
          replace fX := heap_below hb2 fX
          generalize (wc.alloc (.cells (madeCells #[.int .i64 0, .bool false] (Nr * 2)) 57)) = wd at *
          refine hK _ _ (fun _ => ⟨s0, s1, s2, s3, s4⟩) ?_
          clear hK
          refine AnyY.mid [7] [] 1 rfl hF (by kernel_rfl) (by kernel_rfl) (by kernel_rfl) (by kernel_rfl) (fun _ _ _ _ e h => ⟨e.symm.trans h.1, panicM (e.symm.trans h.1) h.1 h.2⟩) ⟨s0, s1, s2, s3, s4⟩ ?_
          iterate 1
            refine Heads.step (v := ?_) rfl (by first | (go_simp; done) | rfl) (fun W hW => ?_) ?_
            rotate_left
            · (obtain ⟨t0, t1, t2, t3, t4⟩ := hW; go_simp; try with_reducible rfl)
          refine AnyY.one (i := 9) hF (by kernel_rfl) rfl (fun K hK => ?_)
          obtain ⟨⟨c0, c1, c2, c3, c4, c5, c6, c7⟩, hz⟩ := cells8 fX
          go_simp
          clear c0 c1 c2 c3 c4 c5 c6 c7 hz
          rw [fold8]
          have ho := set8_only (Only.refl (fun k => k = wb.heap.size) wd) (fun _ => rfl) (.int .i64 (shD (body l) 0)) (.int .i64 (shD (body l) 1)) (.int .i64 (shD (body l) 2)) (.int .i64 (shD (body l) 3)) (.int .i64 (shD (body l) 4)) (.slice none 0 0) (.slice (some ⟨wc.heap.size, 0, none⟩) Nr Nr) (.slice (some ⟨wa.heap.size, 0, none⟩) No No)
          replace z0 := z0.out; replace z1 := z1.out; replace z2 := z2.out; have hza := HBa.out.size
          have hne : w7.heap.size + 1 + 1 + 1 < wa.heap.size := World.block_lt_of_cell? wa _ sx
          have hq : ¬ (w7.heap.size + 1 + 1 + 1 = wb.heap.size) := by omega
          refine hK _ _ (fun _ => ⟨ho.cell s0 hq, ho.cell s1 hq, ho.cell s2 hq, ho.cell s3 hq, ho.cell s4 hq⟩) (AnyY.done (by kernel_rfl) ?_)
          clear hK
          simp only [noDef]
          clear z0 z1 z2 hq hne hza
          go_simp
          have y0 := hb0.size; have y1 := hb1.size; have y2 := hb2.size
          exact hEnd wc.heap.size wa.heap.size wb.heap.size wd ((hb0.trans (hb1.mono (by omega))).trans (hb2.mono (by omega))) fR fO fX (by omega) (by omega) (by omega)
      · skip
        go_simp
        have hb0 : Below wa.heap.size wa (wa.alloc (.cells #[.int .i64 0, .int .i64 0, .int .i64 0, .int .i64 0, .int .i64 0, .slice none 0 0, .slice none 0 0, .slice none 0 0] 31)).drew := ((Below.refl _ _).alloc (Nat.le_refl _) _).drew
        have z0 : Hid ((wa.alloc (.cells #[.int .i64 0, .int .i64 0, .int .i64 0, .int .i64 0, .int .i64 0, .slice none 0 0, .slice none 0 0, .slice none 0 0] 31)).drew.heap.size = wa.heap.size + 1) := Lib.hid (by simp)
        have fX : (wa.alloc (.cells #[.int .i64 0, .int .i64 0, .int .i64 0, .int .i64 0, .int .i64 0, .slice none 0 0, .slice none 0 0, .slice none 0 0] 31)).drew.heap[wa.heap.size]? = some (.cells #[.int .i64 0, .int .i64 0, .int .i64 0, .int .i64 0, .int .i64 0, .slice none 0 0, .slice none 0 0, .slice none 0 0] 31) := heap_alloc_new wa (.cells #[.int .i64 0, .int .i64 0, .int .i64 0, .int .i64 0, .int .i64 0, .slice none 0 0, .slice none 0 0, .slice none 0 0] 31)
        replace s0 := (Keeps.of_below hb0) _ _ s0; replace s1 := (Keeps.of_below hb0) _ _ s1; replace s2 := (Keeps.of_below hb0) _ _ s2; replace s3 := (Keeps.of_below hb0) _ _ s3; replace s4 := (Keeps.of_below hb0) _ _ s4
        generalize (wa.alloc (.cells #[.int .i64 0, .int .i64 0, .int .i64 0, .int .i64 0, .int .i64 0, .slice none 0 0, .slice none 0 0, .slice none 0 0] 31)).drew = wb at *
        refine hK _ _ (fun _ => ⟨s0, s1, s2, s3, s4⟩) ?_
        clear hK
        refine AnyY.two (i := 3) (j := 6) hF (by kernel_rfl) rfl rfl (fun K hK => ?_) (fun K hK => ?_)
        · skip
          go_simp
          have hb1 : Below wb.heap.size wb (wb.alloc (.cells (madeCells #[.int .i64 0, .bool false] (Nr * 2)) 57)) := ((Below.refl _ _).alloc (Nat.le_refl _) _)
          have z1 : Hid ((wb.alloc (.cells (madeCells #[.int .i64 0, .bool false] (Nr * 2)) 57)).heap.size = wb.heap.size + 1) := Lib.hid (by simp)
          have fR : Arr (wb.alloc (.cells (madeCells #[.int .i64 0, .bool false] (Nr * 2)) 57)) wb.heap.size 57 (Nr * 2) regZ := regs_made wb Nr
          replace s0 := (Keeps.of_below hb1) _ _ s0; replace s1 := (Keeps.of_below hb1) _ _ s1; replace s2 := (Keeps.of_below hb1) _ _ s2; replace s3 := (Keeps.of_below hb1) _ _ s3; replace s4 := (Keeps.of_below hb1) _ _ s4
          replace fX := heap_below hb1 fX
          generalize (wb.alloc (.cells (madeCells #[.int .i64 0, .bool false] (Nr * 2)) 57)) = wc at *
          refine hK _ _ (fun _ => ⟨s0, s1, s2, s3, s4⟩) ?_
          clear hK
          refine AnyY.one (i := 6) hF (by kernel_rfl) rfl (fun K hK => ?_)
          go_simp
          have hb2 : Below wc.heap.size wc (wc.alloc (.cells (madeCells #[.int .i64 0] No) 3)) := ((Below.refl _ _).alloc (Nat.le_refl _) _)
          have z2 : Hid ((wc.alloc (.cells (madeCells #[.int .i64 0] No) 3)).heap.size = wc.heap.size + 1) := Lib.hid (by simp)
          have fO : Arr (wc.alloc (.cells (madeCells #[.int .i64 0] No) 3)) wc.heap.size 3 No (fun _ => .int .i64 0) := outs_made wc No
          replace s0 := (Keeps.of_below hb2) _ _ s0; replace s1 := (Keeps.of_below hb2) _ _ s1; replace s2 := (Keeps.of_below hb2) _ _ s2; replace s3 := (Keeps.of_below hb2) _ _ s3; replace s4 := (Keeps.of_below hb2) _ _ s4
          replace fX := heap_below hb2 fX
          replace fR := fR.below hb2
          generalize (wc.alloc (.cells (madeCells #[.int .i64 0] No) 3)) = wd at *
          refine hK _ _ (fun _ => ⟨s0, s1, s2, s3, s4⟩) ?_
          clear hK
          refine AnyY.mid [7] [] 1 rfl hF (by kernel_rfl) (by kernel_rfl) (by kernel_rfl) (by kernel_rfl) (fun _ _ _ _ e h => ⟨e.symm.trans h.1, panicM (e.symm.trans h.1) h.1 h.2⟩) ⟨s0, s1, s2, s3, s4⟩ ?_
          iterate 1
            refine Heads.step (v := ?_) rfl (by first | (go_simp; done) | rfl) (fun W hW => ?_) ?_
            rotate_left
            · (obtain ⟨t0, t1, t2, t3, t4⟩ := hW; go_simp; try with_reducible rfl)
          refine AnyY.one (i := 9) hF (by kernel_rfl) rfl (fun K hK => ?_)
          obtain ⟨⟨c0, c1, c2, c3, c4, c5, c6, c7⟩, hz⟩ := cells8 fX
          go_simp
          clear c0 c1 c2 c3 c4 c5 c6 c7 hz
          rw [fold8]
          have ho := set8_only (Only.refl (fun k => k = wa.heap.size) wd) (fun _ => rfl) (.int .i64 (shD (body l) 0)) (.int .i64 (shD (body l) 1)) (.int .i64 (shD (body l) 2)) (.int .i64 (shD (body l) 3)) (.int .i64 (shD (body l) 4)) (.slice none 0 0) (.slice (some ⟨wb.heap.size, 0, none⟩) Nr Nr) (.slice (some ⟨wc.heap.size, 0, none⟩) No No)
          replace z0 := z0.out; replace z1 := z1.out; replace z2 := z2.out; have hza := HBa.out.size
          have hne : w7.heap.size + 1 + 1 + 1 < wa.heap.size := World.block_lt_of_cell? wa _ sx
          have hq : ¬ (w7.heap.size + 1 + 1 + 1 = wa.heap.size) := by omega
          refine hK _ _ (fun _ => ⟨ho.cell s0 hq, ho.cell s1 hq, ho.cell s2 hq, ho.cell s3 hq, ho.cell s4 hq⟩) (AnyY.done (by kernel_rfl) ?_)
          clear hK
          simp only [noDef]
          clear z0 z1 z2 hq hne hza
          go_simp
          have y0 := hb0.size; have y1 := hb1.size; have y2 := hb2.size
          exact hEnd wb.heap.size wc.heap.size wa.heap.size wd ((hb0.trans (hb1.mono (by omega))).trans (hb2.mono (by omega))) fR fO fX (by omega) (by omega) (by omega)
        · skip
          go_simp
          have hb1 : Below wb.heap.size wb (wb.alloc (.cells (madeCells #[.int .i64 0] No) 3)) := ((Below.refl _ _).alloc (Nat.le_refl _) _)
          have z1 : Hid ((wb.alloc (.cells (madeCells #[.int .i64 0] No) 3)).heap.size = wb.heap.size + 1) := Lib.hid (by simp)
          have fO : Arr (wb.alloc (.cells (madeCells #[.int .i64 0] No) 3)) wb.heap.size 3 No (fun _ => .int .i64 0) := outs_made wb No
          replace s0 := (Keeps.of_below hb1) _ _ s0; replace s1 := (Keeps.of_below hb1) _ _ s1; replace s2 := (Keeps.of_below hb1) _ _ s2; replace s3 := (Keeps.of_below hb1) _ _ s3; replace s4 := (Keeps.of_below hb1) _ _ s4
          replace fX := heap_below hb1 fX
          generalize (wb.alloc (.cells (madeCells #[.int .i64 0] No) 3)) = wc at *
          refine hK _ _ (fun _ => ⟨s0, s1, s2, s3, s4⟩) ?_
          clear hK
          refine AnyY.one (i := 3) hF (by kernel_rfl) rfl (fun K hK => ?_)
          go_simp
          have hb2 : Below wc.heap.size wc (wc.alloc (.cells (madeCells #[.int .i64 0, .bool false] (Nr * 2)) 57)) := ((Below.refl _ _).alloc (Nat.le_refl _) _)
          have z2 : Hid ((wc.alloc (.cells (madeCells #[.int .i64 0, .bool false] (Nr * 2)) 57)).heap.size = wc.heap.size + 1) := Lib.hid (by simp)
          have fR : Arr (wc.alloc (.cells (madeCells #[.int .i64 0, .bool false] (Nr * 2)) 57)) wc.heap.size 57 (Nr * 2) regZ := regs_made wc Nr
          replace s0 := (Keeps.of_below hb2) _ _ s0; replace s1 := (Keeps.of_below hb2) _ _ s1; replace s2 := (Keeps.of_below hb2) _ _ s2; replace s3 := (Keeps.of_below hb2) _ _ s3; replace s4 := (Keeps.of_below hb2) _ _ s4
          replace fX := heap_below hb2 fX
          replace fO := fO.below hb2
          generalize (wc.alloc (.cells (madeCells #[.int .i64 0, .bool false] (Nr * 2)) 57)) = wd at *
          refine hK _ _ (fun _ => ⟨s0, s1, s2, s3, s4⟩) ?_
          clear hK
          refine AnyY.mid [7] [] 1 rfl hF (by kernel_rfl) (by kernel_rfl) (by kernel_rfl) (by kernel_rfl) (fun _ _ _ _ e h => ⟨e.symm.trans h.1, panicM (e.symm.trans h.1) h.1 h.2⟩) ⟨s0, s1, s2, s3, s4⟩ ?_
          iterate 1
            refine Heads.step (v := ?_) rfl (by first | (go_simp; done) | rfl) (fun W hW => ?_) ?_
            rotate_left
            · (obtain ⟨t0, t1, t2, t3, t4⟩ := hW; go_simp; try with_reducible rfl)
          refine AnyY.one (i := 9) hF (by kernel_rfl) rfl (fun K hK => ?_)
          obtain ⟨⟨c0, c1, c2, c3, c4, c5, c6, c7⟩, hz⟩ := cells8 fX
          go_simp
          clear c0 c1 c2 c3 c4 c5 c6 c7 hz
          rw [fold8]
          have ho := set8_only (Only.refl (fun k => k = wa.heap.size) wd) (fun _ => rfl) (.int .i64 (shD (body l) 0)) (.int .i64 (shD (body l) 1)) (.int .i64 (shD (body l) 2)) (.int .i64 (shD (body l) 3)) (.int .i64 (shD (body l) 4)) (.slice none 0 0) (.slice (some ⟨wc.heap.size, 0, none⟩) Nr Nr) (.slice (some ⟨wb.heap.size, 0, none⟩) No No)
          replace z0 := z0.out; replace z1 := z1.out; replace z2 := z2.out; have hza := HBa.out.size
          have hne : w7.heap.size + 1 + 1 + 1 < wa.heap.size := World.block_lt_of_cell? wa _ sx
          have hq : ¬ (w7.heap.size + 1 + 1 + 1 = wa.heap.size) := by omega
          refine hK _ _ (fun _ => ⟨ho.cell s0 hq, ho.cell s1 hq, ho.cell s2 hq, ho.cell s3 hq, ho.cell s4 hq⟩) (AnyY.done (by kernel_rfl) ?_)
          clear hK
          simp only [noDef]
          clear z0 z1 z2 hq hne hza
          go_simp
          have y0 := hb0.size; have y1 := hb1.size; have y2 := hb2.size
          exact hEnd wc.heap.size wb.heap.size wa.heap.size wd ((hb0.trans (hb1.mono (by omega))).trans (hb2.mono (by omega))) fR fO fX (by omega) (by omega) (by omega)
      --R15E
end Go.Proofs.YtbnjbclkmjjkhaaDoor
