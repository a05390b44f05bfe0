/- close, walked with Clean's closure: the latches' next literals are moved, the outputs are moved and appended; the maker's graph is handed back. Conditions: the graph is valid and lies in memory, so do the maker and the table of literals. -/
import Derived.Test.YtdhgbikmaglgpaaMaker
namespace Go.Proofs.Ytdhgbikmaglgpaa
open Go.RowKit

/-- latches of the call's own that are stored into -/
def StL (w : World) (base : Nat) (A : Option Addr) (n : Nat) (F : Nat → Int) (I : Nat → Bool) : Prop :=
  0 < n → ∃ (b m : Nat) (U : Nat → Value), A = some ⟨b, 0, none⟩ ∧ base ≤ b ∧ n * 2 ≤ m ∧ Arr w b 68 m U ∧ ∀ k, k < n → U (k * 2) = .int .i64 (F k) ∧ U (k * 2 + 1) = .bool (I k)
section
variable {w w1 : World} {base n : Nat} {A : Option Addr} {F F' : Nat → Int} {I : Nat → Bool}
theorem StL.of_own {c : Nat} (h : w.ownsRow base 68 2 (.slice A n c) n (flat2 (fun k => two (.int .i64 (F k)) (.bool (I k))) n)) : StL w base A n F I := fun hn => by
  obtain ⟨b, off, cur, rfl, hp, hh, hc⟩ := own_rowT h hn
  obtain ⟨hb, e⟩ := hp
  injection e with e; injection e with _ e _; subst e
  have hsz : n * 2 ≤ cur.size := by
    have h1 := hc (n - 1) (by omega) 1 (by omega)
    have := (Array.getElem?_eq_some_iff.1 h1).1
    omega
  have hU : ∀ k, k < n → ∀ j, j < 2 → cur.getD (k * 2 + j) undef = two (.int .i64 (F k)) (.bool (I k)) j := fun k hk j hj => by
    have h1 := hc k hk j hj
    rw [Nat.zero_add] at h1
    rw [Array.getD_eq_getD_getElem?, h1]
    show (flat2 _ n).getD (k * 2 + j) undef = _
    rw [List.getD_eq_getElem?_getD, flat2_get _ n k hk j hj]; rfl
  exact ⟨b, cur.size, fun k => cur.getD k undef, rfl, hb, hsz, ⟨cur, hh, rfl, fun k hk => by simp [hk]⟩, fun k hk => ⟨hU k hk 0 (by omega), hU k hk 1 (by omega)⟩⟩
theorem StL.rows (h : StL w base A n F I) : RowS w 2 A n (fun k => two (.int .i64 (F k)) (.bool (I k))) := fun hn => by
  obtain ⟨b, m, U, rfl, _, hm, hA, hU⟩ := h hn
  refine ⟨b, 0, rfl, fun k hk j hj => ?_⟩
  obtain ⟨h0, h1⟩ := hU k hk
  rw [Nat.zero_add]
  obtain rfl | rfl : j = 0 ∨ j = 1 := by omega
  · rw [Nat.add_zero, hA.cell (by omega), h0]; rfl
  · rw [hA.cell (by omega), h1]; rfl
theorem StL.below (h : StL w base A n F I) (k : Below w.heap.size w w1) : StL w1 base A n F I := fun hn => by
  obtain ⟨b, m, U, e, hb, hm, hA, hU⟩ := h hn
  exact ⟨b, m, U, e, hb, hm, hA.below k, hU⟩
theorem StL.only {S : Nat → Prop} (h : StL w base A n F I) (k : Only S w w1) (hs : ∀ b, b < w.heap.size → base ≤ b → blockOf A b → ¬ S b) : StL w1 base A n F I := fun hn => by
  obtain ⟨b, m, U, e, hb, hm, hA, hU⟩ := h hn
  exact ⟨b, m, U, e, hb, hm, hA.only k (hs b hA.lt hb ⟨_, e, rfl⟩), hU⟩
theorem StL.congr (h : StL w base A n F I) (hF : ∀ j, j < n → F' j = F j) : StL w base A n F' I := fun hn => by
  obtain ⟨b, m, U, e, hb, hm, hA, hU⟩ := h hn
  exact ⟨b, m, U, e, hb, hm, hA, fun k hk => by rw [hF k hk]; exact hU k hk⟩
theorem StL.at_ (h : StL w base A n F I) {k : Nat} (hk : k < n) : ∃ b, A = some ⟨b, 0, none⟩ ∧ base ≤ b ∧ w.cell? ⟨b, k * 2, none⟩ = some (.int .i64 (F k)) ∧ w.frozen? ⟨b, k * 2, none⟩ = false ∧
    ∀ (x : Int) (F' : Nat → Int), (∀ j, j < n → j ≠ k → F' j = F j) → F' k = x → StL (w.setCell ⟨b, k * 2, none⟩ (.int .i64 x)) base A n F' I := by
  obtain ⟨b, m, U, e, hb, hm, hA, hU⟩ := h (by omega)
  refine ⟨b, e, hb, by rw [hA.cell (by omega), (hU k hk).1], hA.thaw _, fun x F' h1 h2 _ => ⟨b, m, fun j => if j = k * 2 then .int .i64 x else U j, e, hb, hm, hA.set (fun j _ hj => by simp [hj]) (by simp), fun j hj => ?_⟩⟩
  simp only [show ¬ j * 2 + 1 = k * 2 by omega, if_false]
  refine ⟨?_, (hU j hj).2⟩
  by_cases e : j = k
  · rw [if_pos (by omega), e, h2]
  · rw [if_neg (by omega), (hU j hj).1, h1 j hj e]
end
section
variable {w w1 : World} {b : Nat} {v0 v1 v2 v3 v4 : Value}
theorem MBox.at_ (h : MBox w b v0 v1 v2 v3 v4) : w.cell? ⟨b, 0, none⟩ = some v0 ∧ w.cell? ⟨b, 1, none⟩ = some v1 ∧ w.cell? ⟨b, 2, none⟩ = some v2 ∧ w.cell? ⟨b, 3, none⟩ = some v3 :=
  ⟨Arr.cell h (k := 0) (by omega), Arr.cell h (k := 1) (by omega), Arr.cell h (k := 2) (by omega), Arr.cell h (k := 3) (by omega)⟩
theorem MBox.put2 (h : MBox w b v0 v1 v2 v3 v4) (x : Value) : MBox (w.setCell ⟨b, 2, none⟩ x) b v0 v1 x v3 v4 := Arr.set h (fun j hj hne => by
    obtain rfl | rfl | rfl | rfl | rfl : j = 0 ∨ j = 1 ∨ j = 2 ∨ j = 3 ∨ j = 4 := by omega
    all_goals first | rfl | omega) rfl
theorem MBox.put3 (h : MBox w b v0 v1 v2 v3 v4) (x : Value) : MBox (w.setCell ⟨b, 3, none⟩ x) b v0 v1 v2 x v4 := Arr.set h (fun j hj hne => by
    obtain rfl | rfl | rfl | rfl | rfl : j = 0 ∨ j = 1 ∨ j = 2 ∨ j = 3 ∨ j = 4 := by omega
    all_goals first | rfl | omega) rfl
end

/-- the closure moves a literal -/
theorem mv_any {g : G} {bc bt nv k : Nat} {l : Int} {w : World} (hb : VarAt w bc bt nv) (ha : Arr w bt 3 nv (fun j => .int .i64 (g.to k j))) (h0 : 0 ≤ l) (hl : l.toNat / 2 < g.first + k) (hn : g.need (l.toNat / 2) = true) (hnv : g.first + k ≤ nv) (hnv2 : nv ≤ 60000) :
    Calls Try.prog 92 #[.int .i64 l, .pointer (some ⟨bc, 0, none⟩)] w fun e w' => e = .returned (.int .i64 (g.mv l)) ∧ w = w' :=
  move_any bc bt nv (g.to k) l (g.pos (l.toNat / 2)) w hb ha h0 (by omega) (by omega) (g.to_pos hl hn) (by have := g.pos_le (l.toNat / 2); omega)

/-- where close stands among the outputs -/
structure OMt (g : G) (w2 wr : World) (bm : Nat) (v1 v2 v4 : Value) (k : Nat) (Ao : Option Addr) (co : Nat) : Prop where
  only : Only (fun j => j = bm) w2 wr
  row : OwnInts wr w2.heap.size Ao k co (fun j => g.mv (g.O j))
  box : MBox wr bm (.int .i64 g.ins) v1 v2 (.slice Ao k co) v4
theorem OMt.push {g : G} {w6 wr w7 : World} {bh k co co' : Nat} {v1 v2 v4 : Value} {Ao Ao' : Option Addr} {o : Obj} (h : OMt g w6 wr bh v1 v2 v4 k Ao co) (hbh : bh < w6.heap.size) (hk : Only (blockOf Ao) (wr.alloc o) w7)
    (ho : w7.ownsRow w6.heap.size 3 1 (.slice Ao' (k + 1) co') (k + 1) (((List.range k).map fun j => .int .i64 (g.mv (g.O j))) ++ [.int .i64 (g.mv (g.O k))])) :
    OMt g w6 (w7.setCell ⟨bh, 3, none⟩ (.slice Ao' (k + 1) co')) bh v1 v2 v4 (k + 1) Ao' co' := by
  have hba := own_base h.row
  have hb3 := own_base ho
  have os := (Only.refl (fun j => j = bh) w7).setCell (p := ⟨bh, 3, none⟩) (fun _ => rfl) (.slice Ao' (k + 1) co')
  exact ⟨((h.only.alloc o).grew hk hba).trans os, own_only (OwnInts.push ho (fun _ _ => rfl) rfl) os (fun b c => by have := hb3 b c; omega),
    MBox.put3 (v3 := .slice Ao k co) (Arr.only (Arr.alloc h.box o) hk (fun c => by have := hba _ c; omega)) _⟩

set_option maxHeartbeats 8000000 in
set_option maxRecDepth 100000 in
theorem close_any (g : G) (A1 A2 A3 Al : Option Addr) (c1 c2 c3 cl bm bc bt nv base : Nat) (Aa : Option Addr) (na ca : Nat) (v4 : Value) (w0 w : World) (hg : g.At w0 A1 A2 A3) (hv : g.Valid) (hB0 : Below w0.heap.size w0 w) (hbase : w0.heap.size ≤ base)
    (hm : MBox w bm (.int .i64 g.ins) (.slice Al g.n1 cl) (.slice Aa na ca) (.slice none 0 0) v4) (hL : StL w base Al g.n1 g.L g.I) (hmb : base ≤ bm) (hal : ¬ blockOf Al bm) (hlo : ∀ b, blockOf Al b → base ≤ b ∧ b < w.heap.size)
    (hb : VarAt w bc bt nv) (ha : Arr w bt 3 nv (fun j => .int .i64 (g.to g.n2 j))) (hnv : nv = g.first + g.n2) (hc : bc ≠ bm ∧ ¬ blockOf Al bc) (ht : bt ≠ bm ∧ ¬ blockOf Al bt) :
    Calls Try.prog 93 #[.pointer (some ⟨bm, 0, none⟩), .agg #[.int .i64 g.ins, .slice A1 g.n1 c1, .slice A2 g.n2 c2, .slice A3 g.n3 c3], .func (.func 92) #[] #[.pointer (some ⟨bc, 0, none⟩)]] w fun e w' =>
      ∃ (Ao : Option Addr) (co : Nat), e = .returned (.agg #[.int .i64 g.ins, .slice Al g.n1 cl, (.slice Aa na ca), .slice Ao g.n3 co]) ∧ RowS w' 2 Al g.n1 (fun k => two (.int .i64 (g.mv (g.L k))) (.bool (g.I k))) ∧ Ints w' Ao g.n3 (fun k => g.mv (g.O k)) ∧ Only (fun j => j = bm ∨ blockOf Al j) w w' ∧ (∀ b, blockOf Ao b → w.heap.size ≤ b) := by
  have v1 := hv.i0; have v2' := hv.i1; have v3 := hv.n; have v4' := hv.n1; have v5 := hv.n3
  obtain ⟨hf, hfn⟩ := hv.nums
  have HF := Lib.hid hf; clear hf
  have HLO := Lib.hid hlo; clear hlo
  have hbm : bm < w.heap.size := Arr.lt hm
  go_enter Try.func93, Try.ntmps93
  go_upto_region 1 with (fail)
  have hbel : Below w.heap.size w ((w.alloc (.cells #[.int .i64 g.ins, .slice A1 g.n1 c1, .slice A2 g.n2 c2, .slice A3 g.n3 c3] 26)).alloc (.cells #[.int .i64 0, .slice none 0 0, .slice none 0 0, .slice none 0 0] 26)) := ((Below.refl _ _).alloc (Nat.le_refl _) _).alloc (by simp) _
  have hbx := (BoxAt.new w [.int .i64 g.ins, .slice A1 g.n1 c1, .slice A2 g.n2 c2, .slice A3 g.n3 c3] 26).keeps (Keeps.alloc _ (.cells #[.int .i64 0, .slice none 0 0, .slice none 0 0, .slice none 0 0] 26))
  have hrs := GBox.new (w.alloc (.cells #[.int .i64 g.ins, .slice A1 g.n1 c1, .slice A2 g.n2 c2, .slice A3 g.n3 c3] 26)) (.int .i64 0) (.slice none 0 0) (.slice none 0 0) (.slice none 0 0)
  rw [show (w.alloc (.cells #[.int .i64 g.ins, .slice A1 g.n1 c1, .slice A2 g.n2 c2, .slice A3 g.n3 c3] 26)).heap.size = w.heap.size + 1 by simp] at hrs
  have hsz : ((w.alloc (.cells #[.int .i64 g.ins, .slice A1 g.n1 c1, .slice A2 g.n2 c2, .slice A3 g.n3 c3] 26)).alloc (.cells #[.int .i64 0, .slice none 0 0, .slice none 0 0, .slice none 0 0] 26)).heap.size = w.heap.size + 2 := by simp
  generalize ((w.alloc (.cells #[.int .i64 g.ins, .slice A1 g.n1 c1, .slice A2 g.n2 c2, .slice A3 g.n3 c3] 26)).alloc (.cells #[.int .i64 0, .slice none 0 0, .slice none 0 0, .slice none 0 0] 26)) = w1 at *
  have hm1 : MBox w1 bm (.int .i64 g.ins) (.slice Al g.n1 cl) (.slice Aa na ca) (.slice none 0 0) v4 := Arr.below hm hbel
  have hL1 := hL.below hbel
  have hb1 : VarAt w1 bc bt nv := Keeps.of_below hbel _ _ hb
  have ha1 := ha.below hbel
  have hsw := hB0.size
  have HB1 := Lib.hid (Below.then_call hB0 hbel hsw)
  have HW1 := Lib.hid hbel
  have hbcl : bc < w.heap.size := World.block_lt_of_cell? w _ hb
  have hbtl := ha.lt
  clear hm hL hb ha hbel hB0
  obtain ⟨g0, g1, g2, g3⟩ := hbx.four
  go_wp2_with fail
  clear g0 g1 g2 g3
  go_loopw [14] (fun i wr => ∃ k : Nat, k ≤ g.n1 ∧ i = .int .i64 k ∧ Only (blockOf Al) w1 wr ∧ Hid (∃ F : Nat → Int, StL wr base Al g.n1 F g.I ∧ ∀ j, j < k → F j = g.mv (g.L j))) (fun i _ => g.n1 - (intOf i).toNat)
  case atStart => exact ⟨0, by omega, rfl, Only.refl _ _, g.L, hL1, fun j hj => by omega⟩
  case round =>
    clear hL1
    obtain ⟨k, hk, rfl, HO, HS⟩ := hrel
    obtain ⟨F, hS, hF⟩ := HS.out
    have HFF := Lib.hid hF; clear hF
    have HBr := Lib.hid (HB1.out.trans (HO.below (B := w0.heap.size) (fun j _ c => by have := (HLO.out j c).1; omega) (by omega)))
    have hbxr := HO.box hbx (fun c => by have := (HLO.out _ c).2; omega)
    have hmr : MBox wr bm (.int .i64 g.ins) (.slice Al g.n1 cl) (.slice Aa na ca) (.slice none 0 0) v4 := Arr.only hm1 HO hal
    have hbr : VarAt wr bc bt nv := HO.cell hb1 hc.2
    have har := ha1.only HO ht.2
    have hszr := HO.size
    obtain ⟨g0, g1, g2, g3⟩ := hbxr.four
    by_cases hlt : k < g.n1
    · obtain ⟨b1, o1, rfl, x0, x1⟩ := (hg.lat.keeps (Keeps.of_below HBr.out)).at2 hlt
      simp only [two] at x0 x1
      have hok := hv.lat k hlt
      have hlit := hv.lit hok
      have hned := g.need_lat hlt
      unfold G.LitOk at hok
      have q0 : (wr.alloc (.cells #[.int .i64 (g.L k), .bool (g.I k)] 68)).cell? ⟨wr.heap.size, 0, none⟩ = some (.int .i64 (g.L k)) := BoxAt.new wr [.int .i64 (g.L k), .bool (g.I k)] 68 0 _ rfl
      have hSq := hS.below ((Below.refl _ _).alloc (Nat.le_refl _) (.cells #[.int .i64 (g.L k), .bool (g.I k)] 68))
      have hmq : MBox (wr.alloc (.cells #[.int .i64 (g.L k), .bool (g.I k)] 68)) bm (.int .i64 g.ins) (.slice Al g.n1 cl) (.slice Aa na ca) (.slice none 0 0) v4 := Arr.alloc hmr _
      have hbq : VarAt (wr.alloc (.cells #[.int .i64 (g.L k), .bool (g.I k)] 68)) bc bt nv := Keeps.alloc _ _ _ _ hbr
      have haq := har.alloc (.cells #[.int .i64 (g.L k), .bool (g.I k)] 68)
      have hOq := HO.alloc (.cells #[.int .i64 (g.L k), .bool (g.I k)] 68)
      go_upto_region 4 with (fail)
      generalize wr.alloc (.cells #[.int .i64 (g.L k), .bool (g.I k)] 68) = wq at *
      clear HO hS HS hbxr hmr hbr har x0 x1 g0 g1 g2 g3
      generalize wr.heap.size = bq at *
      obtain ⟨p0, p1, p2, p3⟩ := hmq.at_
      obtain ⟨bl, hAl, hbl, z0, z1, hset⟩ := hSq.at_ hlt
      have HC := Lib.hid (mv_any (hbq.heap rfl : VarAt wq.drew bc bt nv) (haq.heap rfl) hok.1 hlit.2 hned (by omega) (by omega))
      have hki : (k : Int) < g.n1 := by omega
      subst hAl
      -- [[lat
      refine wp_region_z (fun w' => w'.cell? ⟨bm, 1, none⟩ = some (.slice (some ⟨bl, 0, none⟩) g.n1 cl) ∧ w'.cell? ⟨bq, 0, none⟩ = some (.int .i64 (g.L k))) [0, 1, 2, 3, 4, 5, 6, 7, 8] [10, 11, 12] (by kernel_rfl) (by kernel_rfl) (by kernel_rfl) (by rfl) (fun _ _ _ _ e h => ⟨e.symm.trans h.1, h.2⟩) ⟨p1, q0⟩ ?_
      iterate 9
        refine Heads.step (v := ?_) rfl (by rfl) (fun W hW => ?_) ?_
        rotate_left
        · (obtain ⟨s0, s1⟩ := hW; go_simp; try with_reducible rfl)
      refine AnyZ.one (i := 9) (by kernel_rfl) rfl (fun K hK => ?_)
      go_simp
      refine HC.out.mono ?_
      rintro e w' ⟨rfl, rfl⟩
      refine hK _ _ (fun _ => ⟨p1, q0⟩) ?_
      clear hK
      refine AnyZ.one (i := 10) (by kernel_rfl) rfl (fun K hK => ?_)
      go_simp
      refine hK _ _ (fun h => by cases h) ?_
      clear hK
      refine AnyZ.one (i := 11) (by kernel_rfl) rfl (fun K hK => ?_)
      go_simp
      refine hK _ _ (fun h => by cases h) ?_
      clear hK
      refine AnyZ.one (i := 12) (by kernel_rfl) rfl (fun K hK => ?_)
      go_simp
      refine hK _ _ (fun h => by cases h) (AnyZ.done (by kernel_rfl) ?_)
      clear hK
      go_wp2_with fail
      go_roundw
      case rel =>
        refine ⟨k + 1, by omega, by go_num, (hOq.setCell (p := ⟨bl, k * 2, none⟩) (fun _ => ⟨_, rfl, rfl⟩) _).drew, fun j => if j = k then g.mv (g.L k) else F j, hset _ _ (fun j _ hj => by simp [hj]) (by simp only [if_true]), fun j hj => ?_⟩
        by_cases e : j = k
        · simp only [if_pos e]; rw [e]
        · simp only [if_neg e]; exact HFF.out j (by omega)
      case measure => simp [intOf]; omega
      -- ]]lat
    · obtain rfl : k = g.n1 := by omega
      have hS2 := hS.congr (F' := fun k => g.mv (g.L k)) (fun j hj => (HFF.out j hj).symm)
      have hrsr : GBox wr (w.heap.size + 1) (.int .i64 0) (.slice none 0 0) (.slice none 0 0) (.slice none 0 0) := Arr.only hrs HO (fun c => by have := (HLO.out _ c).2; omega)
      have hOW : Hid (Only (fun j => j = bm ∨ blockOf Al j) w wr) := ((Only.of_below HW1.out).mono (S' := fun j => j = bm ∨ blockOf Al j) (fun k hk c => absurd c (by omega))).then_ HO (fun i _ c => .inr c)
      clear hS HS
      go_wp2_with fail
      clear g0 g1 g2 g3
      obtain ⟨w2, rfl⟩ : ∃ w2 : World, w2 = wr := ⟨_, rfl⟩
      go_loopw [35] (fun i wi => ∃ (k : Nat) (Ao : Option Addr) (co : Nat), k ≤ g.n3 ∧ i = .int .i64 k ∧ OMt g w2 wi bm (.slice Al g.n1 cl) (.slice Aa na ca) v4 k Ao co) (fun i _ => g.n3 - (intOf i).toNat)
      case atStart => exact ⟨0, none, 0, by omega, rfl, Only.refl _ _, World.ownsRow_nil _ _ _ _, hmr⟩
      case round =>
        obtain ⟨k, Ao, co, hk, rfl, H⟩ := hrel
        have HBo := Lib.hid (HBr.out.trans (H.only.below (B := w0.heap.size) (fun j _ c => by omega) (by omega)))
        have hbxo := H.only.box hbxr (by omega)
        have hszo := H.only.size
        obtain ⟨g0, g1, g2, g3⟩ := hbxo.four
        by_cases hlt : k < g.n3
        · obtain ⟨b1, o1, rfl, x0⟩ := (hg.outs.keeps (Keeps.of_below HBo.out)).at_ hlt
          have hok := hv.outs k hlt
          have hlit := hv.lit hok
          have hned := g.need_out hlt
          unfold G.LitOk at hok
          go_upto_region 9 with (fail)
          clear g0 g1 g2 g3 x0
          obtain ⟨p0, p1, p2, p3⟩ := H.box.at_
          have hbo : VarAt wr.drew bc bt nv := H.only.cell hbr hc.1
          have hao := har.only H.only ht.1
          have HC := Lib.hid (mv_any hbo (hao.heap rfl) hok.1 hlit.2 hned (by omega) (by omega))
          have hba := own_base H.row
          have HCB := Lib.hid (show (k + 1) * 8 ≤ 140737488355328 by omega)
          -- [[outs
          refine wp_region_z (fun w' => w'.cell? ⟨bm, 3, none⟩ = some (.slice Ao k co)) [0, 1, 2, 3, 4, 5, 6, 7] [11, 12, 13, 14] (by kernel_rfl) (by kernel_rfl) (by kernel_rfl) (by rfl) (fun _ _ _ _ e h => ⟨e.symm.trans h.1, h.2⟩) p3 ?_
          iterate 8
            refine Heads.step (v := ?_) rfl (by rfl) (fun W hW => ?_) ?_
            rotate_left
            · (go_simp; try with_reducible rfl)
          refine AnyZ.one (i := 8) (by kernel_rfl) rfl (fun K hK => ?_)
          go_simp
          refine HC.out.mono ?_
          rintro e w' ⟨rfl, rfl⟩
          refine hK _ _ (fun _ => p3) ?_
          clear hK
          refine AnyZ.one (i := 9) (by kernel_rfl) rfl (fun K hK => ?_)
          go_simp
          refine hK _ _ (fun _ => Keeps.alloc _ _ _ _ p3) ?_
          clear hK
          refine AnyZ.one (i := 10) (by kernel_rfl) rfl (fun K hK => ?_)
          refine step_append (by rfl) (.tmp 44) (.tmp 48) _ (by rfl) elInt w2.heap.size Ao k co _ (by rfl) ((World.ownsRow.alloc H.row _).drew) _ 1 1 [.int .i64 (g.mv (g.O k))] (by rfl) (Src.drew (src_new wr _ _ rfl)) HCB.out (by simp; omega) ?_
          intro Ao' co' w8 ho hk' hb'
          have hb7 : MBox w8 bm (.int .i64 g.ins) (.slice Al g.n1 cl) (.slice Aa na ca) (.slice Ao k co) v4 := Arr.only (Arr.alloc H.box _) hk'.drawn (fun c => by have := hba _ c; omega)
          have hf7 : w8.frozen? ⟨bm, 3, none⟩ = false := Arr.thaw hb7 3
          have p7 : w8.cell? ⟨bm, 3, none⟩ = some (.slice Ao k co) := hb7.at_.2.2.2
          have H8 := OMt.push H (by omega) hk'.drawn ho
          refine hK _ _ (fun _ => p7) ?_
          clear hK hb7 ho hk' hb'
          refine AnyZ.one (i := 11) (by kernel_rfl) rfl (fun K hK => ?_)
          go_simp
          refine hK _ _ (fun h => by cases h) ?_
          clear hK
          refine AnyZ.one (i := 12) (by kernel_rfl) rfl (fun K hK => ?_)
          go_simp
          refine hK _ _ (fun h => by cases h) ?_
          clear hK
          refine AnyZ.one (i := 13) (by kernel_rfl) rfl (fun K hK => ?_)
          go_simp
          refine hK _ _ (fun h => by cases h) ?_
          clear hK
          refine AnyZ.one (i := 14) (by kernel_rfl) rfl (fun K hK => ?_)
          go_simp
          refine hK _ _ (fun h => by cases h) (AnyZ.done (by kernel_rfl) ?_)
          clear hK
          go_wp2_with fail
          go_roundw
          case rel => exact ⟨k + 1, Ao', co', by omega, by go_num, H8⟩
          case measure => simp [intOf]; omega
          -- ]]outs
        · obtain rfl : k = g.n3 := by omega
          have hrs8 : GBox wr (w.heap.size + 1) (.int .i64 0) (.slice none 0 0) (.slice none 0 0) (.slice none 0 0) := Arr.only hrsr H.only (by omega)
          have hS8 := hS2.only H.only (fun b _ _ c e => hal (e ▸ c))
          have hOW8 := hOW.out.trans (H.only.mono (fun k _ c => .inl c))
          obtain ⟨p0, p1, p2, p3⟩ := H.box.at_
          obtain ⟨q0, q1, q2, q3⟩ := hrs8.at_
          have u0 := Arr.thaw hrs8 0
          have u1 := Arr.thaw hrs8 1
          have u2 := Arr.thaw hrs8 2
          have u3 := Arr.thaw hrs8 3
          go_wp2_with fail
          have h9 := (((hrs8.put0 (.int .i64 g.ins)).put1 (.slice Al g.n1 cl)).put2 (.slice Aa na ca)).put3 (.slice Ao g.n3 co)
          have hO9 := ((((Only.refl (fun j => j = w.heap.size + 1) wr).setCell (p := ⟨w.heap.size + 1, 0, none⟩) (fun _ => rfl) (.int .i64 g.ins)).setCell (p := ⟨w.heap.size + 1, 1, none⟩) (fun _ => rfl) (.slice Al g.n1 cl)).setCell (p := ⟨w.heap.size + 1, 2, none⟩) (fun _ => rfl) (.slice Aa na ca)).setCell (p := ⟨w.heap.size + 1, 3, none⟩) (fun _ => rfl) (.slice Ao g.n3 co)
          generalize (((wr.setCell ⟨w.heap.size + 1, 0, none⟩ (.int .i64 g.ins)).setCell ⟨w.heap.size + 1, 1, none⟩ (.slice Al g.n1 cl)).setCell ⟨w.heap.size + 1, 2, none⟩ (.slice Aa na ca)).setCell ⟨w.heap.size + 1, 3, none⟩ (.slice Ao g.n3 co) = w9 at *
          clear q0 q1 q2 q3
          obtain ⟨q0, q1, q2, q3⟩ := h9.at_
          refine bodyPost_ret (v := .agg #[.int .i64 g.ins, .slice Al g.n1 cl, (.slice Aa na ca), .slice Ao g.n3 co]) ?_ rfl ?_
          · simp [results, Try.results93, go_sem, q0, q1, q2, q3]
          · exact ⟨Ao, co, rfl, (hS8.only hO9 (fun b _ _ c e => by have := (HLO.out b c).2; omega)).rows, ints_of_rowT ((rowT_of_ints H.row).only hO9 (fun b cur hb _ => by omega)), hOW8.then_ hO9 (fun i hi c => absurd c (by omega)), fun b c => by have := own_base H.row b c; omega⟩
end Go.Proofs.Ytdhgbikmaglgpaa
