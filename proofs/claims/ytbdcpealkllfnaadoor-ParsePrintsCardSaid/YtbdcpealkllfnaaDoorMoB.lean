/- The reference's ParseText, walked: a fault, or modules with their text. No condition but what every string meets. -/
import Derived.Test.YtbdcpealkllfnaaDoorMoA
namespace Go.Proofs.YtbdcpealkllfnaaDoor
open Go.RowKit Go.Deep

theorem stF : StT Tryd.prog 26 2 := ⟨_, Tryd.underlying26, by kernel_rfl⟩
theorem lenM {p : Nat → Prop} {w : World} {cs : List Value} {t : LB} (h : TrP FM p w cs t) : cs.length = 5 ∧ ∀ u ∈ cs, u.oneCell' = true := by
 obtain ⟨d, a1, a2, a3, a4, a5, a6, a7, a8, a9, b1, b2, b3, b4, b5, e, _⟩ := h
 subst e
 exact ⟨rfl, fun u hu => List.all_eq_true.1 (show ([.string (bstr a1), .int .i64 a2, .slice a3 a6 a7, .slice a4 a8 a9, .slice a5 b1 b2] : List Value).all (·.oneCell') = true from rfl) u hu⟩
def TxOut (w : World) (e : Ending) (w' : World) : Prop :=
 ∃ (A : Option Addr) (n c code at_ : Nat), e = .returned (.tuple #[.slice A n c, .agg #[.int .i64 (code : Int), .int .i64 (at_ : Int)]]) ∧ Below w.heap.size w w' ∧
  (code = 0 → ∃ T : Nat → LB, Lf FM 40 5 w.heap.size w'.heap.size w' A n T ∧ n ≤ 200000 ∧ (catL T n).length ≤ KK * 120002)
structure TxI (s : ByteArray) (b m : Nat) (w0 w : World) (Z b3 : Nat) (g : Nat) (wr : World) (A : Option Addr) (n c : Nat) (T : Nat → LB) : Prop where
 rd : RdS s b wr g
 ol : OnlyB b w wr
 k3 : wr.heap[b3]? = some (.cells #[.int .i64 0, .int .i64 0] 26)
 ls : Ls FM 40 5 Z b wr A n c T
 nn : n + g ≤ m + 1
 gm : g ≤ m
 tx : g = 0 ∨ (catL T n).length + KK * g ≤ KK * m
 sz : Z ≤ wr.heap.size
attribute [local go_sem] Oper.semAt_some in
theorem outsT {tmps : Array Value} {W : World} {b : Nat} {x0 x1 v : Value} (h2 : tmps[2]? = some v) (h3 : tmps[3]? = some (.pointer (some ⟨b, 0, none⟩))) (h : W.heap[b]? = some (.cells #[x0, x1] 26)) :
  (results Tryd.f6 tmps).run Tryd.prog W = .ok (.tuple #[v, .agg #[x0, x1]]) W := by
 obtain ⟨⟨c0, c1⟩, _⟩ := box2 h
 simp [results, Tryd.f6, go_sem, h2, h3, c0, c1]
set_option maxRecDepth 100000 in
set_option maxHeartbeats 8000000 in
theorem parse_any (s : ByteArray) (w : World) (hm : s.size ≤ 9223372036854775807) : Calls Tryd.prog 6 #[.string s] w (TxOut w) := by
 by_cases hl : s.size ≤ 60000
 ·
  have hli : ¬ (60000 : Int) < (s.size : Int) := by omega
  go_enter Tryd.func6, Tryd.ntmps6
  go_wp2_with (refine wpl_alloc rfl 26 rfl (some 3) rfl Tryd.zeroValue26 ?_)
  refine ⟨fun w1 b3 HK3 ho1 ha3 hb3 => ?_⟩
  have HB1 : Hid (Only (fun _ => False) w w1) := ho1
  have hs1 := ho1.out.size
  clear ho1
  go_wp2_with (refine wpl_boxv rfl 35 (.tmp 12) rfl (some 13) rfl (cells := #[.string s, .int .i64 0, .int .i64 0, .int .i64 0, .string ⟨#[]⟩, .int .u64 0, .int .i64 0, .int .i64 0, .int .i64 0]) rfl ?_)
  refine ⟨fun w2 b HKB ho2 hab hbb => ?_⟩
  have hs2 := ho2.out.size
  have hrf : RdF s b w2 (rdM s.size 0 0 0) 0 0 0 ⟨#[]⟩ 0 0 0 0 := ⟨HKB.out, ⟨by omega, by omega, by omega, Nat.zero_le _, by omega, fun h => by omega⟩, by omega, by omega, by omega, rfl, hl⟩
  replace HB1 : Hid (Only (fun _ => False) w w2) := Lib.hid (HB1.out.then_ ho2.out (fun _ _ h => h.elim))
  replace HK3 := Lib.hid (ho2.out.heap HK3.out (fun h => h))
  have hm0 : rdM s.size 0 0 0 ≤ 120001 := by unfold rdM; simp; omega
  obtain ⟨m, hm⟩ : ∃ x, x = rdM s.size 0 0 0 := ⟨_, rfl⟩
  rw [← hm] at hrf hm0
  have HFR := Lib.hid hrf
  clear hm hrf HKB ho2
  have HR := Lib.hid HFR.out.s
  have HW : Hid (OnlyB b w2 w2) := Lib.hid (Only.refl _ _)
  go_wp2_with fail
  refine (stepK_any HFR.out).mono ?_
  rintro e w3 ⟨rfl, m1, hr, ho, hle1, hk2, hk3⟩
  clear hk2 hk3 HFR
  replace HR := Lib.hid hr
  have HOx := Lib.hid ho
  have hs3 := HOx.out.size
  clear hr ho
  replace HW : Hid (OnlyB b w2 w3) := Lib.hid (HW.out.then_ HOx.out (fun _ _ h => h))
  replace HK3 := Lib.hid (HOx.out.heap HK3.out (by omega))
  clear HOx
  go_wp2_with fail
  have H0 : Hid (TxI s b m1 w w2 w3.heap.size b3 m1 w3 none 0 0 (fun _ => ([] : LB))) := Lib.hid ⟨HR.out, HW.out, HK3.out, Ls.nil, by omega, by omega, by simp only [catL, List.length_nil]; omega, by omega⟩
  clear HR HW HK3
  go_loopg [5] m1 (fun g v5 wr => ∃ A n c T, v5 = .slice A n c ∧ Hid (TxI s b m1 w w2 w3.heap.size b3 g wr A n c T))
  case atStart => exact ⟨_, _, _, _, rfl, H0⟩
  case round =>
   clear H0
   obtain ⟨A, n, c, TT, rfl, HB⟩ := hrel
   have HR := Lib.hid HB.out.rd
   have HW := Lib.hid HB.out.ol
   have HK3 := Lib.hid HB.out.k3
   have HL := Lib.hid HB.out.ls
   have hnn := HB.out.nn
   have hgm := HB.out.gm
   have HTX := Lib.hid HB.out.tx
   have hsr := HB.out.sz
   clear HB
   obtain ⟨kdx, at_x, wdx, Tx, numx, qx, codex, fatx, hrf⟩ := HR.out
   have HFx := Lib.hid hrf
   clear hrf
   have HF := HFx
   clear HFx
   obtain ⟨y7, z7⟩ := HF.out.c7
   obtain ⟨y8, z8⟩ := HF.out.c8
   obtain ⟨y1, z1⟩ := HF.out.c1
   obtain ⟨⟨x0, x1⟩, xz⟩ := box2 HK3.out
   have xz0 := xz 0
   have xz1 := xz 1
   clear xz
   by_cases hc : codex = 0
   ·
    subst hc
    have hg0 : 0 < gk := by rw [HF.out.hm]; exact rdM_pos
    by_cases hk : kdx = 0
    ·
     subst hk
     go_wp2_with fail
     refine wp_region_z (fun w' => w'.cell? ⟨b, 7, none⟩ = some (.int .i64 0) ∧ w'.cell? ⟨b, 8, none⟩ = some (.int .i64 (fatx : Int))) [0, 1, 2, 3, 4, 5] [6] (by kernel_rfl) (by kernel_rfl) (by kernel_rfl) (by rfl) (fun _ _ _ _ e h => ⟨e.symm.trans h.1, h.2⟩) ⟨y7, y8⟩ ?_
     iterate 6
      refine Heads.step (v := ?_) rfl (by first | (go_simp; done) | rfl) (fun W hW => ?_) ?_
      rotate_left
      ·
       (obtain ⟨t0, t1⟩ := hW; go_simp; try with_reducible rfl)
     refine AnyZ.one (i := 6) (by kernel_rfl) rfl (fun K hK => ?_)
     go_simp
     refine hK _ _ (fun h => by cases h) ?_
     clear hK
     refine AnyZ.done (by kernel_rfl) ?_
     have HS2 := Lib.hid (st2_heap (show wr.drew.heap[b3]? = _ from HK3.out) (.int .i64 0) (.int .i64 (fatx : Int)))
     have HOE : Hid (Only (fun _ => False) w (st2 wr.drew b3 (.int .i64 0) (.int .i64 (fatx : Int)))) := Lib.hid (((HB1.out.then_ HW.out (fun i hi (h : i = b) => by omega)).drew).then_ (st2_only wr.drew b3 (.int .i64 0) (.int .i64 (fatx : Int))) (fun i hi (h : i = b3) => by omega))
     go_wp2_with fail
     exact bodyPost_ret (outsT rfl rfl HS2.out) rfl ⟨A, n, c, 0, fatx, rfl, HOE.out.all (fun _ _ h => h), fun _ => ⟨TT, ((HL.out.done.only ((Only.refl _ wr).drew.then_ (st2_only wr.drew b3 (.int .i64 0) (.int .i64 (fatx : Int))) (fun i _ h => h)) (fun i (h : i = b3) => by omega)).wide (by omega) (Nat.le_of_eq (by simp [World.setCell]))), by omega, by have := HTX.out; simp only [KK] at *; omega⟩⟩
    ·
     have hki : ((kdx : Int) != 0) = true := by rw [bne_iff_ne]; omega
     clear hk HF
     have HLLT := Lib.hid HL.out.lt
     go_wp2_with fail
     clear y1 y7 y8 z1 z7 z8 x0 x1 xz0 xz1
     refine (module_any HR).mono ?_
     rintro e w4 ⟨c1, t1, m4, rfl, hr, ho, ht, hm⟩
     have hle4 : m4 ≤ gk := by omega
     have HM4 := Lib.hid hm
     have HTc1 := Lib.hid ht
     clear hm ht
     replace HR := Lib.hid hr
     have HOx := Lib.hid ho
     have hs4 := HOx.out.size
     clear hr ho
     replace HW : Hid (OnlyB b w2 w4) := Lib.hid (HW.out.then_ HOx.out (fun _ _ h => h))
     replace HK3 := Lib.hid (HOx.out.heap HK3.out (by omega))
     replace HL := Lib.hid (HL.out.only HOx.out (fun i hi (h : i = b) => by omega))
     clear HOx
     go_wp2_with (refine wpl_box rfl rfl 40 rfl 6 rfl (.tmp 31) rfl rfl Tryd.zeroValue40 (cells := c1.toArray) (fun _ => rfl) (fun _ => rfl) stM (by simp [(lenM HTc1.out).1]) rfl (by simpa using (lenM HTc1.out).2) ?_)
     refine ⟨fun w5 b6 HK6 ho5 ha6 hb6 => ?_⟩
     have hs5 := ho5.out.size
     replace HW : Hid (OnlyB b w2 w5) := Lib.hid (HW.out.then_ ho5.out (fun _ _ h => h.elim))
     replace HR := Lib.hid (HR.out.only ho5.out (fun h => h))
     replace HK3 := Lib.hid (ho5.out.heap HK3.out (fun h => h))
     replace HL := Lib.hid (HL.out.only ho5.out (fun _ _ h => h.elim))
     replace HTc1 := Lib.hid (HTc1.out.only ho5.out (fun _ h => h.elim))
     clear ho5
     go_wp2_with (first | (refine wpl_load rfl 40 (.tmp 6) rfl b6 rfl HK6.out stM (by simp [(lenM HTc1.out).1]) ?_) | (refine wpl_slice rfl 24 40 1 _ rfl (some 34) rfl Tryd.underlying24 c1.toArray (built5 (lenM HTc1.out).1) ?_))
     refine ⟨fun w6 b34 HK34 ho6 ha34 hb34 => ?_⟩
     have hs6 := ho6.out.size
     replace HW : Hid (OnlyB b w2 w6) := Lib.hid (HW.out.then_ ho6.out (fun _ _ h => h.elim))
     replace HR := Lib.hid (HR.out.only ho6.out (fun h => h))
     replace HK3 := Lib.hid (ho6.out.heap HK3.out (fun h => h))
     replace HL := Lib.hid (HL.out.only ho6.out (fun _ _ h => h.elim))
     replace HTc1 := Lib.hid (HTc1.out.only ho6.out (fun _ h => h.elim))
     replace HK6 := Lib.hid (ho6.out.heap HK6.out (fun h => h))
     clear ho6
     go_wp2_with (refine wpl_push rfl (.tmp 32) (.tmp 34) 24 rfl elM rfl HL.out rfl HK34.out (lenM HTc1.out).1 (lenM HTc1.out).2 HTc1.out (by omega) (by omega) (fun k hk => by have := HLLT.out k hk; omega) (by omega) (by omega) (by omega) ?_)
     refine ⟨fun A1 c1n w7 HLn ho7 => ?_⟩
     have hs7 := ho7.out.size
     clear HL HTc1
     clear HK6
     clear HK34
     replace HW : Hid (OnlyB b w2 w7) := Lib.hid (HW.out.then_ ho7.out (fun i hi (h : w3.heap.size ≤ i) => by omega))
     replace HR := Lib.hid (HR.out.only ho7.out (by omega))
     replace HK3 := Lib.hid (ho7.out.heap HK3.out (by omega))
     clear ho7
     have HL := HLn
     clear HLn
     go_wp2_with fail
     have hlt9 : m4 < gk := by have := HM4.out; omega
     go_roundg m4
     case measure => omega
     case rel => exact ⟨A1, n + 1, c1n, _, rfl, Lib.hid ⟨HR.out, HW.out, HK3.out, HL.out, by omega, by omega, by have := HTX.out; have := HM4.out; have h9 := catL_snoc_len TT n t1; simp only [KK] at *; omega, by omega⟩⟩
   ·
    have hci : ((codex : Int) == 0) = false := by rw [beq_eq_false_iff_ne]; omega
    have hci2 : ((codex : Int) != 0) = true := by rw [bne_iff_ne]; omega
    have HCX := Lib.hid hc
    clear hc
    go_wp2_with fail
    refine wp_region_z (fun w' => w'.cell? ⟨b, 7, none⟩ = some (.int .i64 (codex : Int)) ∧ w'.cell? ⟨b, 8, none⟩ = some (.int .i64 (fatx : Int))) [0, 1, 2, 3, 4] [5] (by kernel_rfl) (by kernel_rfl) (by kernel_rfl) (by rfl) (fun _ _ _ _ e h => ⟨e.symm.trans h.1, h.2⟩) ⟨y7, y8⟩ ?_
    iterate 5
     refine Heads.step (v := ?_) rfl (by first | (go_simp; done) | rfl) (fun W hW => ?_) ?_
     rotate_left
     ·
      (obtain ⟨t0, t1⟩ := hW; go_simp; try with_reducible rfl)
    refine AnyZ.one (i := 5) (by kernel_rfl) rfl (fun K hK => ?_)
    go_simp
    refine hK _ _ (fun h => by cases h) ?_
    clear hK
    refine AnyZ.done (by kernel_rfl) ?_
    have HS2 := Lib.hid (st2_heap (show wr.drew.heap[b3]? = _ from HK3.out) (.int .i64 (codex : Int)) (.int .i64 (fatx : Int)))
    have HOE : Hid (Only (fun _ => False) w (st2 wr.drew b3 (.int .i64 (codex : Int)) (.int .i64 (fatx : Int)))) := Lib.hid (((HB1.out.then_ HW.out (fun i hi (h : i = b) => by omega)).drew).then_ (st2_only wr.drew b3 (.int .i64 (codex : Int)) (.int .i64 (fatx : Int))) (fun i hi (h : i = b3) => by omega))
    go_wp2_with fail
    exact bodyPost_ret (outsT rfl rfl HS2.out) rfl ⟨none, 0, 0, codex, fatx, rfl, HOE.out.all (fun _ _ h => h), fun h => absurd h HCX.out⟩
 ·
  have hli : (60000 : Int) < (s.size : Int) := by omega
  have HE : Hid (∀ w' : World, TxOut w (.returned (.tuple #[.slice none 0 0, .agg #[.int .i64 2, .int .i64 0]])) (w.alloc (.cells #[.int .i64 2, .int .i64 0] 26))) := Lib.hid (fun _ => ⟨none, 0, 0, 2, 0, rfl, (Below.refl _ _).alloc (Nat.le_refl _) _, fun h => by cases h⟩)
  have HK := Lib.hid (heap_alloc_new w (.cells #[.int .i64 2, .int .i64 0] 26))
  clear hl
  go_enter Tryd.func6, Tryd.ntmps6
  go_wp2_with fail
  exact bodyPost_ret (outsT rfl rfl HK.out) rfl (HE.out w)
end Go.Proofs.YtbdcpealkllfnaaDoor
