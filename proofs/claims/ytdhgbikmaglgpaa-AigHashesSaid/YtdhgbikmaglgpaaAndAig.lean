/- maker.and, walked: the literal of two literals; the gates grow by one at most. Conditions: the maker lies in memory, there is room. -/
import Derived.Test.YtdhgbikmaglgpaaCloseH
import Derived.Deep.QuietTactic
import Derived.BigQuiet
namespace Go.Proofs.Ytdhgbikmaglgpaa
open Go.RowKit Go.Maps

/-- a maker with its gates and its books -/
structure MSt (g : G) (s : HS) (base : Nat) (w : World) (bm : Nat) (v1 : Value) (Aa : Option Addr) (ca bk : Nat) (D : DataW Unit) : Prop where
  box : MBox w bm (.int .i64 g.ins) v1 (.slice Aa s.m ca) (.slice none 0 0) (.map (some bk))
  ands : w.ownsRow base 59 2 (.slice Aa s.m ca) s.m (flat2 (fun j => two (.int .i64 (s.P j)) (.int .i64 (s.Q j))) s.m)
  books : w.ownsMap Try.prog 59 (plainElem Try.prog 3) bk s.m D
  reads : Books g.first s D
theorem MSt.alloc {g : G} {s : HS} {base : Nat} {w : World} {bm : Nat} {v1 : Value} {Aa : Option Addr} {ca bk : Nat} {D : DataW Unit} (h : MSt g s base w bm v1 Aa ca bk D) (o : Obj) : MSt g s base (w.alloc o) bm v1 Aa ca bk D :=
  ⟨Arr.alloc h.box o, World.ownsRow.alloc h.ands o, h.books.alloc o, h.reads⟩
theorem MSt.below {g : G} {s : HS} {base : Nat} {w w1 : World} {bm : Nat} {v1 : Value} {Aa : Option Addr} {ca bk : Nat} {D : DataW Unit} (h : MSt g s base w bm v1 Aa ca bk D) (k : Below w.heap.size w w1) : MSt g s base w1 bm v1 Aa ca bk D :=
  ⟨Arr.below h.box k, own_below h.ands k, h.books.kept ⟨k.os, k.tape, k.output, k.size, fun i hi _ => k.block i hi⟩ (show some bk ≠ none by simp), h.reads⟩

theorem Maps.only {S : Nat → Prop} {w w1 : World} {bk n : Nat} {D : DataW Unit} (h : w.ownsMap Try.prog 59 (plainElem Try.prog 3) bk n D) (k : Only S w w1) (hs : ¬ S bk) : w1.ownsMap Try.prog 59 (plainElem Try.prog 3) bk n D := by
  have hl := h.lt
  obtain ⟨es, clock, hb, r⟩ := h
  exact ⟨es, clock, (k.block bk hl hs).trans hb, r⟩

theorem flat2_push (s : HS) (x y : Int) : flat2 (fun j => two (.int .i64 ((s.push x y).P j)) (.int .i64 ((s.push x y).Q j))) (s.m + 1) = flat2 (fun j => two (.int .i64 (s.P j)) (.int .i64 (s.Q j))) s.m ++ [.int .i64 x, .int .i64 y] := by
  simp only [flat2]
  congr 1
  · refine flat2_congr _ fun j hj i hi => ?_
    simp [HS.push, show j ≠ s.m by omega]
  · simp [HS.push, two]

theorem MSt.gate {g : G} {s : HS} {base : Nat} {w w2 w3 : World} {bm : Nat} {v1 : Value} {Aa Aa' : Option Addr} {ca ca' bk : Nat} {D : DataW Unit} {x y : Int} {o : Obj} (h : MSt g s base w bm v1 Aa ca bk D)
    (hbm : bm < base) (hbk : bk < base) (hne : bm ≠ bk) (wx : (Lit.int .i64 x).wf = true) (wy : (Lit.int .i64 y).wf = true)
    (hk : Only (blockOf Aa) (w.alloc o) w2)
    (ho : w2.ownsRow base 59 2 (.slice Aa' (s.m + 1) ca') (s.m + 1) (flat2 (fun j => two (.int .i64 (s.P j)) (.int .i64 (s.Q j))) s.m ++ [.int .i64 x, .int .i64 y]))
    (hg : (w2.setCell ⟨bm, 2, none⟩ (.slice Aa' (s.m + 1) ca')).grownBy w3 (some bk)) (hm : w3.ownsMap Try.prog 59 (plainElem Try.prog 3) bk (s.m + 1) (D.put (keyP x y) (.lit (.int .i64 (2 * ((g.first : Int) + s.m)))))) :
    MSt g (s.push x y) base w3 bm v1 Aa' ca' bk (D.put (keyP x y) (.lit (.int .i64 (2 * ((g.first : Int) + s.m))))) ∧ Only (fun j => j = bm ∨ j = bk ∨ blockOf Aa j) w w3 := by
  have hba := own_base h.ands
  have hb3 := own_base ho
  have b2 : MBox w2 bm (.int .i64 g.ins) v1 (.slice Aa s.m ca) (.slice none 0 0) (.map (some bk)) := Arr.only (Arr.alloc h.box o) hk (fun c => by have := hba _ c; omega)
  have b3 := b2.put2 (.slice Aa' (s.m + 1) ca')
  have os := (Only.refl (fun j => j = bm) w2).setCell (p := ⟨bm, 2, none⟩) (fun _ => rfl) (.slice Aa' (s.m + 1) ca')
  have o3 : Only (fun j => j = bk) (w2.setCell ⟨bm, 2, none⟩ (.slice Aa' (s.m + 1) ca')) w3 := ⟨hg.os, hg.tape, hg.output, hg.size, fun k hk hn => hg.block k hk (fun e => hn (by injection e))⟩
  refine ⟨⟨Arr.only b3 o3 hne, ?_, hm, h.reads.push wx wy⟩, ?_⟩
  · show w3.ownsRow base 59 2 (.slice Aa' (s.m + 1) ca') (s.m + 1) (flat2 _ (s.m + 1))
    rw [flat2_push]
    exact own_only (own_only ho os (fun b c => by have := hb3 b c; omega)) o3 (fun b c => by have := hb3 b c; omega)
  · exact ((((Only.refl _ w).alloc o).trans (hk.mono (fun k _ c => .inr (.inr c)))).trans (os.mono (fun k _ c => .inl c))).trans (o3.mono (fun k _ c => .inr (.inl c)))

/-- what maker.and leaves -/
def AndPost (g : G) (s : HS) (base : Nat) (w : World) (bm : Nat) (v1 : Value) (Aa : Option Addr) (bk : Nat) (a b : Int) (e : Ending) (w' : World) : Prop :=
  ∃ (s' : HS) (l : Int) (Aa' : Option Addr) (ca' : Nat) (D' : DataW Unit), e = .returned (.int .i64 l) ∧ And2 g.first s a b s' l ∧ MSt g s' base w' bm v1 Aa' ca' bk D' ∧ Only (fun j => j = bm ∨ j = bk ∨ blockOf Aa j) w w'
theorem AndPost.intro {g : G} {s : HS} {base : Nat} {w : World} {bm : Nat} {v1 : Value} {Aa : Option Addr} {bk : Nat} {a b : Int} {e : Ending} {w' : World} (s' : HS) (l : Int) (Aa' : Option Addr) (ca' : Nat) (D' : DataW Unit)
    (he : e = .returned (.int .i64 l)) (hr : And2 g.first s a b s' l) (hm : MSt g s' base w' bm v1 Aa' ca' bk D') (ho : Only (fun j => j = bm ∨ j = bk ∨ blockOf Aa j) w w') : AndPost g s base w bm v1 Aa bk a b e w' := ⟨s', l, Aa', ca', D', he, hr, hm, ho⟩

set_option maxHeartbeats 8000000 in
set_option maxRecDepth 100000 in
theorem and_any (g : G) (s : HS) (hv : g.Valid) (base bm bk : Nat) (Al : Option Addr) (cl : Nat) (Aa : Option Addr) (ca : Nat) (D : DataW Unit) (a b : Int) (w : World) (h : MSt g s base w bm (.slice Al g.n1 cl) Aa ca bk D)
    (ha : 0 ≤ a ∧ a ≤ 1000000) (hb : 0 ≤ b ∧ b ≤ 1000000) (hm : s.m < g.n2) (hbm : bm < base) (hbk : bk < base) (hne : bm ≠ bk) (hbase : base ≤ w.heap.size) :
    Calls Try.prog 95 #[.pointer (some ⟨bm, 0, none⟩), .int .i64 a, .int .i64 b] w (AndPost g s base w bm (.slice Al g.n1 cl) Aa bk a b) := by
  have v1 := hv.i0; have v2 := hv.i1; have v3 := hv.n; have v4 := hv.n1
  obtain ⟨hf, hfn⟩ := hv.nums
  have HF := Lib.hid hf; clear hf
  obtain ⟨a0, a1⟩ := ha
  obtain ⟨b0, b1⟩ := hb
  have HA : ∀ x y s' l, (a < b → x = b ∧ y = a) → (¬ a < b → x = a ∧ y = b) → AndR g.first s x y s' l → And2 g.first s a b s' l := fun x y s' l h1 h2 hr => by
    unfold And2
    split
    · rename_i h; obtain ⟨rfl, rfl⟩ := h1 h; exact hr
    · rename_i h; obtain ⟨rfl, rfl⟩ := h2 h; exact hr
  go_enter Try.func95, Try.ntmps95
  by_cases hab : a < b
  · have x0 : 0 ≤ b := b0; have y0 : 0 ≤ a := a0
    have hle : a ≤ b := by omega
    have hfl := xor_flip (l := a) y0 (by omega)
    have HFL := Lib.hid hfl; clear hfl
    have HAR : ∀ s' l, AndR g.first s b a s' l → And2 g.first s a b s' l := fun s' l hr => HA b a s' l (fun h => ⟨rfl, rfl⟩) (fun h => absurd hab h) hr
    have wx : (Lit.int .i64 b).wf = true := wf_of (by omega) (by omega)
    have wy : (Lit.int .i64 a).wf = true := wf_of (by omega) (by omega)
    by_cases hz : a = 0
    · have e1 : (a == 0) = true := by simpa using hz
      have hr := HAR s 0 (.zero (.inl hz))
      clear hz HA HAR
      go_wp2_with fail
      go_ret
      exact AndPost.intro s 0 Aa ca D rfl hr h (Only.refl _ _)
    have e1 : (a == 0) = false := by simpa using hz
    by_cases hx : b = flip a
    · have e2 : (b == bits .xor .i64 a 1) = true := by rw [HFL.out]; simpa using hx
      have hr := HAR s 0 (.zero (.inr hx))
      clear hz hx HA HAR
      go_wp2_with fail
      go_ret
      exact AndPost.intro s 0 Aa ca D rfl hr h (Only.refl _ _)
    have e2 : (b == bits .xor .i64 a 1) = false := by rw [HFL.out]; simpa using hx
    by_cases ho : a = 1
    · have e3 : (a == 1) = true := by simpa using ho
      have hr := HAR s b (.same (.inl ho))
      clear hz hx ho HA HAR
      go_wp2_with fail
      go_ret
      exact AndPost.intro s b Aa ca D rfl hr h (Only.refl _ _)
    have e3 : (a == 1) = false := by simpa using ho
    by_cases hs : b = a
    · have e4 : (b == a) = true := by simpa using hs
      have hr := HAR s b (.same (.inr hs))
      clear hz hx ho hs HA HAR
      go_wp2_with fail
      go_ret
      exact AndPost.intro s b Aa ca D rfl hr h (Only.refl _ _)
    have e4 : (b == a) = false := by simpa using hs
    have hn : a ≠ 0 ∧ b ≠ flip a ∧ a ≠ 1 ∧ b ≠ a := ⟨hz, hx, ho, hs⟩
    have HN := Lib.hid hn
    clear hz hx ho hs hn HA
    go_upto_region 8 with (fail)
    have hk := h.alloc (.cells #[.int .i64 b, .int .i64 a] 59)
    have q := BoxAt.new w [.int .i64 b, .int .i64 a] 59
    have q0 : (w.alloc (.cells #[.int .i64 b, .int .i64 a] 59)).cell? ⟨w.heap.size, 0, none⟩ = some (.int .i64 b) := q 0 _ rfl
    have q1 : (w.alloc (.cells #[.int .i64 b, .int .i64 a] 59)).cell? ⟨w.heap.size, 1, none⟩ = some (.int .i64 a) := q 1 _ rfl
    have hOk := (Only.refl (fun j => j = bm ∨ j = bk ∨ blockOf Aa j) w).alloc (.cells #[.int .i64 b, .int .i64 a] 59)
    have hszk : (w.alloc (.cells #[.int .i64 b, .int .i64 a] 59)).heap.size = w.heap.size + 1 := by simp
    clear q e1 e2 e3 e4
    generalize w.alloc (.cells #[.int .i64 b, .int .i64 a] 59) = wk at *
    obtain ⟨c, hat, hlk⟩ := look_pair hk.books wx wy
    have hlk1 : ∀ n, (Instr.lookup 141 (.map (some bk)) (.agg #[.int .i64 b, .int .i64 a]) true).run Try.prog (wk.drewN n) = .ok (.tuple #[.int .i64 c, .bool (Maps.has D (keyP b a))]) (wk.drewN n) := fun n => hlk _ rfl
    have p4 : wk.cell? ⟨bm, 4, none⟩ = some (.map (some bk)) := Arr.cell hk.box (k := 4) (by omega)
    have HAT := Lib.hid hat
    clear hlk hat
    cases hh : Maps.has D (keyP b a)
    · rw [hh] at hlk1
      have hno := h.reads.no b a wx wy hh
      have hr := HAR _ _ (.new HN.out hno)
      have HR := Lib.hid hr
      clear hh hno hr HAR
      go_quiet (fail)
      have hkq : MSt g s base (wk.drewN nq) bm (.slice Al g.n1 cl) Aa ca bk D := ⟨hk.box, hk.ands, hk.books, hk.reads⟩
      have q0 := Keeps.drewN wk nq _ _ q0
      have q1 := Keeps.drewN wk nq _ _ q1
      have hOq := hOk.drewN nq
      have hszq : (wk.drewN nq).heap.size = w.heap.size + 1 := hszk
      clear hk p4 hlk1 hOk hszk
      generalize wk.drewN nq = wq at *
      obtain ⟨p0, p1, p2, p3⟩ := hkq.box.at_
      have HLA := Lib.hid (own_lt h.ands)
      obtain ⟨nv, hnvi⟩ : ∃ nv : Int, nv = 1 + g.ins + g.n1 + s.m := ⟨_, rfl⟩
      have hnv : nv = g.first + s.m := by have := HF.out; omega
      have hnv6 : ¬ 60000 ≤ nv := by omega
      have hnv0 : 0 ≤ nv := by omega
      have HNV := Lib.hid hnv; have HNVI := Lib.hid hnvi
      clear hnv hnvi
      go_wp2_with fail
      refine (variables_any _ _ _ _ _ _ _ _ _ _ _ (by omega) (by omega) (by omega) (by omega)).mono ?_
      rw [← HNVI.out]
      rintro e w2 ⟨rfl, hb2⟩
      have hkr := hkq.below hb2
      have q0 := Keeps.of_below hb2 _ _ q0
      have q1 := Keeps.of_below hb2 _ _ q1
      have hOr := hOq.call hb2
      have hszr : w.heap.size + 1 ≤ w2.heap.size := by have := hb2.size; omega
      clear hkq hOq hszq hb2 p0 p1 p2 p3
      obtain ⟨p0, p1, p2, p3⟩ := hkr.box.at_
      go_wp2_with fail
      refine (variables_any _ _ _ _ _ _ _ _ _ _ _ (by omega) (by omega) (by omega) (by omega)).mono ?_
      rw [← HNVI.out]
      rintro e w3 ⟨rfl, hb3⟩
      have hk3 := hkr.below hb3
      have q0 := Keeps.of_below hb3 _ _ q0
      have q1 := Keeps.of_below hb3 _ _ q1
      have hO3 := hOr.call hb3
      have hsz3 : w.heap.size + 1 ≤ w3.heap.size := by have := hb3.size; omega
      clear hkr hOr hszr hb3 p0 p1 p2 p3
      obtain ⟨p0, p1, p2, p3⟩ := hk3.box.at_
      have e5 : IntKind.i64.wrap (2 * nv) = 2 * nv := IntWalk.i64_in _ (by omega)
      go_upto_region 14 with (fail)
      refine wp_region_z (fun w' => w'.cell? ⟨bm, 2, none⟩ = some (.slice Aa s.m ca) ∧ w'.cell? ⟨w.heap.size, 0, none⟩ = some (.int .i64 b) ∧ w'.cell? ⟨w.heap.size, 1, none⟩ = some (.int .i64 a)) [0, 1, 2, 3, 4, 5, 6] [9, 10, 11, 12] (by kernel_rfl) (by kernel_rfl) (by kernel_rfl) (by rfl) (fun _ _ _ _ e h => ⟨e.symm.trans h.1, h.2⟩) ⟨p2, q0, q1⟩ ?_
      iterate 7
        refine Heads.step (v := ?_) rfl (by rfl) (fun W hW => ?_) ?_
        rotate_left
        · (obtain ⟨s0, s1, s2⟩ := hW; go_simp; try with_reducible rfl)
      refine AnyZ.one (i := 7) (by kernel_rfl) rfl (fun K hK => ?_)
      go_simp
      refine hK _ _ (fun _ => ⟨Keeps.alloc _ _ _ _ p2, Keeps.alloc _ _ _ _ q0, Keeps.alloc _ _ _ _ q1⟩) ?_
      clear hK
      refine AnyZ.one (i := 8) (by kernel_rfl) rfl (fun K hK => ?_)
      refine step_append (by rfl) (.tmp 68) (.tmp 70) _ (by rfl) elPair base Aa s.m ca _ (by rfl) ((World.ownsRow.alloc hk3.ands _).drew) _ 1 1 [.int .i64 b, .int .i64 a] (by rfl) (Src.drew (src_news w3 #[.int .i64 b, .int .i64 a] _ 2 1 rfl (by simp [Value.oneCell']))) (by omega) (by simp; omega) ?_
      intro Aa' ca' w8 ho hk' hb'
      have hba := own_base h.ands
      have HBA := Lib.hid hba
      have hK8 : Only (blockOf Aa) (w3.alloc _) w8 := hk'.drawn
      have b8 : MBox w8 bm (.int .i64 g.ins) (.slice Al g.n1 cl) (.slice Aa s.m ca) (.slice none 0 0) (.map (some bk)) := Arr.only (Arr.alloc hk3.box _) hK8 (fun c => by have := hba _ c; omega)
      have f8 : w8.frozen? ⟨bm, 2, none⟩ = false := Arr.thaw b8 2
      have p8 : w8.cell? ⟨bm, 2, none⟩ = some (.slice Aa s.m ca) := b8.at_.2.2.1
      have q0 := hK8.cell (Keeps.alloc _ _ _ _ q0) (fun c => by have := HLA.out _ c; simp only at this; omega)
      have q1 := hK8.cell (Keeps.alloc _ _ _ _ q1) (fun c => by have := HLA.out _ c; simp only at this; omega)
      refine hK _ _ (fun _ => ⟨p8, q0, q1⟩) ?_
      clear hK hb' hk'
      refine AnyZ.one (i := 9) (by kernel_rfl) rfl (fun K hK => ?_)
      go_simp
      refine hK _ _ (fun h => by cases h) ?_
      clear hK
      refine AnyZ.one (i := 10) (by kernel_rfl) rfl (fun K hK => ?_)
      go_simp
      refine hK _ _ (fun h => by cases h) ?_
      clear hK
      refine AnyZ.one (i := 11) (by kernel_rfl) rfl (fun K hK => ?_)
      go_simp
      refine hK _ _ (fun h => by cases h) ?_
      clear hK
      refine AnyZ.one (i := 12) (by kernel_rfl) rfl (fun K hK => ?_)
      go_simp
      refine hK _ _ (fun h => by cases h) (AnyZ.done (by kernel_rfl) ?_)
      clear hK
      have b9 := b8.put2 (.slice Aa' (s.m + 1) ca')
      have o9 := (Only.refl (fun j => j = bm) w8).setCell (p := ⟨bm, 2, none⟩) (fun _ => rfl) (.slice Aa' (s.m + 1) ca')
      have m9 := (Maps.only (Maps.only (hk3.books.alloc _) hK8 (fun c => by have := hba _ c; omega)) o9 (fun c => hne c.symm))
      have q0 := o9.cell q0 (fun c => by simp only at c; omega)
      have q1 := o9.cell q1 (fun c => by simp only at c; omega)
      have p9 : (w8.setCell ⟨bm, 2, none⟩ (.slice Aa' (s.m + 1) ca')).cell? ⟨bm, 4, none⟩ = some (.map (some bk)) := Arr.cell b9 (k := 4) (by omega)
      go_upto_region 15 with (fail)
      refine wp_region_z (fun w' => w'.cell? ⟨bm, 4, none⟩ = some (.map (some bk)) ∧ w'.cell? ⟨w.heap.size, 0, none⟩ = some (.int .i64 b) ∧ w'.cell? ⟨w.heap.size, 1, none⟩ = some (.int .i64 a)) [0, 1, 2, 3, 4] [6] (by kernel_rfl) (by kernel_rfl) (by kernel_rfl) (by rfl) (fun _ _ _ _ e h => ⟨e.symm.trans h.1, h.2⟩) ⟨p9, q0, q1⟩ ?_
      iterate 5
        refine Heads.step (v := ?_) rfl (by rfl) (fun W hW => ?_) ?_
        rotate_left
        · (obtain ⟨s0, s1, s2⟩ := hW; go_simp; try with_reducible rfl)
      refine AnyZ.one (i := 5) (by kernel_rfl) rfl (fun K hK => ?_)
      go_simp
      refine hK _ _ (fun _ => ⟨p9, q0, q1⟩) ?_
      clear hK
      refine AnyZ.one (i := 6) (by kernel_rfl) rfl (fun K hK => ?_)
      refine step_mapUpdate (by rfl) (.tmp 78) (.tmp 79) (.tmp 80) _ (by rfl) 59 3 lawPair Try.underlying141 (plainElem Try.prog 3) bk s.m D (by rfl) m9.drew (by unfold maxLen; omega) _ _ (keyP b a) (by rfl) (by rfl) (hkeyP wx wy) (.lit (.int .i64 (2 * nv))) [] (plainElem_int Try.underlying3 (wf_of (by omega) (by omega))) ?_
      intro wB hmB hgB
      have hgB' : (w8.setCell ⟨bm, 2, none⟩ (.slice Aa' (s.m + 1) ca')).grownBy wB (some bk) := ⟨hgB.os, hgB.tape, hgB.output, hgB.size, hgB.block⟩
      have e6 : 2 * nv = 2 * ((g.first : Int) + s.m) := by have := HNV.out; omega
      rw [e6] at hmB
      obtain ⟨hfin, hofin⟩ := MSt.gate hk3 hbm hbk hne wx wy hK8 ho hgB' hmB
      have HR2 : And2 g.first s a b (s.push b a) (2 * nv) := by rw [e6]; exact HR.out
      have HE := Lib.hid e6
      clear e6 hmB hgB hgB' ho hK8 b8 f8 p8 b9 o9 m9 p9
      refine hK _ _ (fun h => by cases h) (AnyZ.done (by kernel_rfl) ?_)
      clear hK
      go_wp2_with fail
      go_ret
      exact AndPost.intro _ _ _ _ _ rfl HR2 hfin (hO3.trans hofin)
    · rw [hh] at hlk1
      obtain ⟨i, hi, hP, hQ, hc⟩ := h.reads.yes b a wx wy hh
      have hr := HAR s _ (.old i hi hP hQ)
      obtain rfl : c = 2 * ((g.first : Int) + i) := by
        have := HAT.out
        rw [hc] at this
        simpa using this.symm
      have HR := Lib.hid hr
      clear hh hP hQ hc hr HAR
      go_quiet (fail)
      go_wp2_with fail
      go_ret
      exact AndPost.intro s _ Aa ca D rfl HR.out ⟨hk.box, hk.ands, hk.books, hk.reads⟩ (hOk.drewN _)
  · have x0 : 0 ≤ a := a0; have y0 : 0 ≤ b := b0
    have hle : b ≤ a := by omega
    have hfl := xor_flip (l := b) y0 (by omega)
    have HFL := Lib.hid hfl; clear hfl
    have HAR : ∀ s' l, AndR g.first s a b s' l → And2 g.first s a b s' l := fun s' l hr => HA a b s' l (fun h => absurd h hab) (fun h => ⟨rfl, rfl⟩) hr
    have wx : (Lit.int .i64 a).wf = true := wf_of (by omega) (by omega)
    have wy : (Lit.int .i64 b).wf = true := wf_of (by omega) (by omega)
    by_cases hz : b = 0
    · have e1 : (b == 0) = true := by simpa using hz
      have hr := HAR s 0 (.zero (.inl hz))
      clear hz HA HAR
      go_wp2_with fail
      go_ret
      exact AndPost.intro s 0 Aa ca D rfl hr h (Only.refl _ _)
    have e1 : (b == 0) = false := by simpa using hz
    by_cases hx : a = flip b
    · have e2 : (a == bits .xor .i64 b 1) = true := by rw [HFL.out]; simpa using hx
      have hr := HAR s 0 (.zero (.inr hx))
      clear hz hx HA HAR
      go_wp2_with fail
      go_ret
      exact AndPost.intro s 0 Aa ca D rfl hr h (Only.refl _ _)
    have e2 : (a == bits .xor .i64 b 1) = false := by rw [HFL.out]; simpa using hx
    by_cases ho : b = 1
    · have e3 : (b == 1) = true := by simpa using ho
      have hr := HAR s a (.same (.inl ho))
      clear hz hx ho HA HAR
      go_wp2_with fail
      go_ret
      exact AndPost.intro s a Aa ca D rfl hr h (Only.refl _ _)
    have e3 : (b == 1) = false := by simpa using ho
    by_cases hs : a = b
    · have e4 : (a == b) = true := by simpa using hs
      have hr := HAR s a (.same (.inr hs))
      clear hz hx ho hs HA HAR
      go_wp2_with fail
      go_ret
      exact AndPost.intro s a Aa ca D rfl hr h (Only.refl _ _)
    have e4 : (a == b) = false := by simpa using hs
    have hn : b ≠ 0 ∧ a ≠ flip b ∧ b ≠ 1 ∧ a ≠ b := ⟨hz, hx, ho, hs⟩
    have HN := Lib.hid hn
    clear hz hx ho hs hn HA
    go_upto_region 8 with (fail)
    have hk := h.alloc (.cells #[.int .i64 a, .int .i64 b] 59)
    have q := BoxAt.new w [.int .i64 a, .int .i64 b] 59
    have q0 : (w.alloc (.cells #[.int .i64 a, .int .i64 b] 59)).cell? ⟨w.heap.size, 0, none⟩ = some (.int .i64 a) := q 0 _ rfl
    have q1 : (w.alloc (.cells #[.int .i64 a, .int .i64 b] 59)).cell? ⟨w.heap.size, 1, none⟩ = some (.int .i64 b) := q 1 _ rfl
    have hOk := (Only.refl (fun j => j = bm ∨ j = bk ∨ blockOf Aa j) w).alloc (.cells #[.int .i64 a, .int .i64 b] 59)
    have hszk : (w.alloc (.cells #[.int .i64 a, .int .i64 b] 59)).heap.size = w.heap.size + 1 := by simp
    clear q e1 e2 e3 e4
    generalize w.alloc (.cells #[.int .i64 a, .int .i64 b] 59) = wk at *
    obtain ⟨c, hat, hlk⟩ := look_pair hk.books wx wy
    have hlk1 : ∀ n, (Instr.lookup 141 (.map (some bk)) (.agg #[.int .i64 a, .int .i64 b]) true).run Try.prog (wk.drewN n) = .ok (.tuple #[.int .i64 c, .bool (Maps.has D (keyP a b))]) (wk.drewN n) := fun n => hlk _ rfl
    have p4 : wk.cell? ⟨bm, 4, none⟩ = some (.map (some bk)) := Arr.cell hk.box (k := 4) (by omega)
    have HAT := Lib.hid hat
    clear hlk hat
    cases hh : Maps.has D (keyP a b)
    · rw [hh] at hlk1
      have hno := h.reads.no a b wx wy hh
      have hr := HAR _ _ (.new HN.out hno)
      have HR := Lib.hid hr
      clear hh hno hr HAR
      go_quiet (fail)
      have hkq : MSt g s base (wk.drewN nq) bm (.slice Al g.n1 cl) Aa ca bk D := ⟨hk.box, hk.ands, hk.books, hk.reads⟩
      have q0 := Keeps.drewN wk nq _ _ q0
      have q1 := Keeps.drewN wk nq _ _ q1
      have hOq := hOk.drewN nq
      have hszq : (wk.drewN nq).heap.size = w.heap.size + 1 := hszk
      clear hk p4 hlk1 hOk hszk
      generalize wk.drewN nq = wq at *
      obtain ⟨p0, p1, p2, p3⟩ := hkq.box.at_
      have HLA := Lib.hid (own_lt h.ands)
      obtain ⟨nv, hnvi⟩ : ∃ nv : Int, nv = 1 + g.ins + g.n1 + s.m := ⟨_, rfl⟩
      have hnv : nv = g.first + s.m := by have := HF.out; omega
      have hnv6 : ¬ 60000 ≤ nv := by omega
      have hnv0 : 0 ≤ nv := by omega
      have HNV := Lib.hid hnv; have HNVI := Lib.hid hnvi
      clear hnv hnvi
      go_wp2_with fail
      refine (variables_any _ _ _ _ _ _ _ _ _ _ _ (by omega) (by omega) (by omega) (by omega)).mono ?_
      rw [← HNVI.out]
      rintro e w2 ⟨rfl, hb2⟩
      have hkr := hkq.below hb2
      have q0 := Keeps.of_below hb2 _ _ q0
      have q1 := Keeps.of_below hb2 _ _ q1
      have hOr := hOq.call hb2
      have hszr : w.heap.size + 1 ≤ w2.heap.size := by have := hb2.size; omega
      clear hkq hOq hszq hb2 p0 p1 p2 p3
      obtain ⟨p0, p1, p2, p3⟩ := hkr.box.at_
      go_wp2_with fail
      refine (variables_any _ _ _ _ _ _ _ _ _ _ _ (by omega) (by omega) (by omega) (by omega)).mono ?_
      rw [← HNVI.out]
      rintro e w3 ⟨rfl, hb3⟩
      have hk3 := hkr.below hb3
      have q0 := Keeps.of_below hb3 _ _ q0
      have q1 := Keeps.of_below hb3 _ _ q1
      have hO3 := hOr.call hb3
      have hsz3 : w.heap.size + 1 ≤ w3.heap.size := by have := hb3.size; omega
      clear hkr hOr hszr hb3 p0 p1 p2 p3
      obtain ⟨p0, p1, p2, p3⟩ := hk3.box.at_
      have e5 : IntKind.i64.wrap (2 * nv) = 2 * nv := IntWalk.i64_in _ (by omega)
      go_upto_region 14 with (fail)
      refine wp_region_z (fun w' => w'.cell? ⟨bm, 2, none⟩ = some (.slice Aa s.m ca) ∧ w'.cell? ⟨w.heap.size, 0, none⟩ = some (.int .i64 a) ∧ w'.cell? ⟨w.heap.size, 1, none⟩ = some (.int .i64 b)) [0, 1, 2, 3, 4, 5, 6] [9, 10, 11, 12] (by kernel_rfl) (by kernel_rfl) (by kernel_rfl) (by rfl) (fun _ _ _ _ e h => ⟨e.symm.trans h.1, h.2⟩) ⟨p2, q0, q1⟩ ?_
      iterate 7
        refine Heads.step (v := ?_) rfl (by rfl) (fun W hW => ?_) ?_
        rotate_left
        · (obtain ⟨s0, s1, s2⟩ := hW; go_simp; try with_reducible rfl)
      refine AnyZ.one (i := 7) (by kernel_rfl) rfl (fun K hK => ?_)
      go_simp
      refine hK _ _ (fun _ => ⟨Keeps.alloc _ _ _ _ p2, Keeps.alloc _ _ _ _ q0, Keeps.alloc _ _ _ _ q1⟩) ?_
      clear hK
      refine AnyZ.one (i := 8) (by kernel_rfl) rfl (fun K hK => ?_)
      refine step_append (by rfl) (.tmp 68) (.tmp 70) _ (by rfl) elPair base Aa s.m ca _ (by rfl) ((World.ownsRow.alloc hk3.ands _).drew) _ 1 1 [.int .i64 a, .int .i64 b] (by rfl) (Src.drew (src_news w3 #[.int .i64 a, .int .i64 b] _ 2 1 rfl (by simp [Value.oneCell']))) (by omega) (by simp; omega) ?_
      intro Aa' ca' w8 ho hk' hb'
      have hba := own_base h.ands
      have HBA := Lib.hid hba
      have hK8 : Only (blockOf Aa) (w3.alloc _) w8 := hk'.drawn
      have b8 : MBox w8 bm (.int .i64 g.ins) (.slice Al g.n1 cl) (.slice Aa s.m ca) (.slice none 0 0) (.map (some bk)) := Arr.only (Arr.alloc hk3.box _) hK8 (fun c => by have := hba _ c; omega)
      have f8 : w8.frozen? ⟨bm, 2, none⟩ = false := Arr.thaw b8 2
      have p8 : w8.cell? ⟨bm, 2, none⟩ = some (.slice Aa s.m ca) := b8.at_.2.2.1
      have q0 := hK8.cell (Keeps.alloc _ _ _ _ q0) (fun c => by have := HLA.out _ c; simp only at this; omega)
      have q1 := hK8.cell (Keeps.alloc _ _ _ _ q1) (fun c => by have := HLA.out _ c; simp only at this; omega)
      refine hK _ _ (fun _ => ⟨p8, q0, q1⟩) ?_
      clear hK hb' hk'
      refine AnyZ.one (i := 9) (by kernel_rfl) rfl (fun K hK => ?_)
      go_simp
      refine hK _ _ (fun h => by cases h) ?_
      clear hK
      refine AnyZ.one (i := 10) (by kernel_rfl) rfl (fun K hK => ?_)
      go_simp
      refine hK _ _ (fun h => by cases h) ?_
      clear hK
      refine AnyZ.one (i := 11) (by kernel_rfl) rfl (fun K hK => ?_)
      go_simp
      refine hK _ _ (fun h => by cases h) ?_
      clear hK
      refine AnyZ.one (i := 12) (by kernel_rfl) rfl (fun K hK => ?_)
      go_simp
      refine hK _ _ (fun h => by cases h) (AnyZ.done (by kernel_rfl) ?_)
      clear hK
      have b9 := b8.put2 (.slice Aa' (s.m + 1) ca')
      have o9 := (Only.refl (fun j => j = bm) w8).setCell (p := ⟨bm, 2, none⟩) (fun _ => rfl) (.slice Aa' (s.m + 1) ca')
      have m9 := (Maps.only (Maps.only (hk3.books.alloc _) hK8 (fun c => by have := hba _ c; omega)) o9 (fun c => hne c.symm))
      have q0 := o9.cell q0 (fun c => by simp only at c; omega)
      have q1 := o9.cell q1 (fun c => by simp only at c; omega)
      have p9 : (w8.setCell ⟨bm, 2, none⟩ (.slice Aa' (s.m + 1) ca')).cell? ⟨bm, 4, none⟩ = some (.map (some bk)) := Arr.cell b9 (k := 4) (by omega)
      go_upto_region 15 with (fail)
      refine wp_region_z (fun w' => w'.cell? ⟨bm, 4, none⟩ = some (.map (some bk)) ∧ w'.cell? ⟨w.heap.size, 0, none⟩ = some (.int .i64 a) ∧ w'.cell? ⟨w.heap.size, 1, none⟩ = some (.int .i64 b)) [0, 1, 2, 3, 4] [6] (by kernel_rfl) (by kernel_rfl) (by kernel_rfl) (by rfl) (fun _ _ _ _ e h => ⟨e.symm.trans h.1, h.2⟩) ⟨p9, q0, q1⟩ ?_
      iterate 5
        refine Heads.step (v := ?_) rfl (by rfl) (fun W hW => ?_) ?_
        rotate_left
        · (obtain ⟨s0, s1, s2⟩ := hW; go_simp; try with_reducible rfl)
      refine AnyZ.one (i := 5) (by kernel_rfl) rfl (fun K hK => ?_)
      go_simp
      refine hK _ _ (fun _ => ⟨p9, q0, q1⟩) ?_
      clear hK
      refine AnyZ.one (i := 6) (by kernel_rfl) rfl (fun K hK => ?_)
      refine step_mapUpdate (by rfl) (.tmp 78) (.tmp 79) (.tmp 80) _ (by rfl) 59 3 lawPair Try.underlying141 (plainElem Try.prog 3) bk s.m D (by rfl) m9.drew (by unfold maxLen; omega) _ _ (keyP a b) (by rfl) (by rfl) (hkeyP wx wy) (.lit (.int .i64 (2 * nv))) [] (plainElem_int Try.underlying3 (wf_of (by omega) (by omega))) ?_
      intro wB hmB hgB
      have hgB' : (w8.setCell ⟨bm, 2, none⟩ (.slice Aa' (s.m + 1) ca')).grownBy wB (some bk) := ⟨hgB.os, hgB.tape, hgB.output, hgB.size, hgB.block⟩
      have e6 : 2 * nv = 2 * ((g.first : Int) + s.m) := by have := HNV.out; omega
      rw [e6] at hmB
      obtain ⟨hfin, hofin⟩ := MSt.gate hk3 hbm hbk hne wx wy hK8 ho hgB' hmB
      have HR2 : And2 g.first s a b (s.push a b) (2 * nv) := by rw [e6]; exact HR.out
      have HE := Lib.hid e6
      clear e6 hmB hgB hgB' ho hK8 b8 f8 p8 b9 o9 m9 p9
      refine hK _ _ (fun h => by cases h) (AnyZ.done (by kernel_rfl) ?_)
      clear hK
      go_wp2_with fail
      go_ret
      exact AndPost.intro _ _ _ _ _ rfl HR2 hfin (hO3.trans hofin)
    · rw [hh] at hlk1
      obtain ⟨i, hi, hP, hQ, hc⟩ := h.reads.yes a b wx wy hh
      have hr := HAR s _ (.old i hi hP hQ)
      obtain rfl : c = 2 * ((g.first : Int) + i) := by
        have := HAT.out
        rw [hc] at this
        simpa using this.symm
      have HR := Lib.hid hr
      clear hh hP hQ hc hr HAR
      go_quiet (fail)
      go_wp2_with fail
      go_ret
      exact AndPost.intro s _ Aa ca D rfl HR.out ⟨hk.box, hk.ands, hk.books, hk.reads⟩ (hOk.drewN _)
end Go.Proofs.Ytdhgbikmaglgpaa
