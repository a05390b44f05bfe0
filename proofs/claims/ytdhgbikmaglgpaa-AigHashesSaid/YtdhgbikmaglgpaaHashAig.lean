/- aig.Hash, walked: it returns a hashed graph in new memory that shows the same. Conditions: the graph is valid and lies in memory. -/
import Derived.Test.YtdhgbikmaglgpaaAndAig
import Derived.Test.YtdhgbikmaglgpaaCleanAig
namespace Go.Proofs.Ytdhgbikmaglgpaa
open Go.RowKit Go.Maps

theorem MSt.only {S : Nat → Prop} {g : G} {s : HS} {base : Nat} {w w1 : World} {bm : Nat} {v1 : Value} {Aa : Option Addr} {ca bk : Nat} {D : DataW Unit} (h : MSt g s base w bm v1 Aa ca bk D) (k : Only S w w1) (h1 : ¬ S bm) (h2 : ¬ S bk) (h3 : ∀ b, base ≤ b → ¬ S b) : MSt g s base w1 bm v1 Aa ca bk D :=
  ⟨Arr.only h.box k h1, own_only h.ands k (fun b c => h3 b (own_base h.ands b c)), Maps.only h.books k h2, h.reads⟩

set_option maxHeartbeats 1000000 in
theorem newMakerH_any (ins : Int) (A : Option Addr) (n c : Nat) (L : Nat → Int) (I : Nat → Bool) (w : World) (h : RowS w 2 A n (fun k => two (.int .i64 (L k)) (.bool (I k)))) (hn : n ≤ 1000000) :
    Calls Try.prog 91 #[.int .i64 ins, .slice A n c] w fun e w' => ∃ (bk : Nat) (Al : Option Addr) (cl : Nat), e = .returned (.pointer (some ⟨bk + 1, 0, none⟩)) ∧ MBox w' (bk + 1) (.int .i64 ins) (.slice Al n cl) (.slice none 0 0) (.slice none 0 0) (.map (some bk)) ∧
      w'.ownsMap Try.prog 59 (plainElem Try.prog 3) bk 0 (.map [] : DataW Unit) ∧ w.heap.size ≤ bk ∧ w'.ownsRow w.heap.size 68 2 (.slice Al n cl) n (flat2 (fun k => two (.int .i64 (L k)) (.bool (I k))) n) ∧ (∀ b, blockOf Al b → b < bk) ∧ Below w.heap.size w w' := by
  have hsrc := src_row2 h (fun k _ j hj => by obtain rfl | rfl : j = 0 ∨ j = 1 := (by omega) <;> rfl)
  have hmm := @run_makeMap Try.prog
  go_enter Try.func91, Try.ntmps91
  go_wp2_with (at_builtin; refine wp_append rfl (.const (.slice none 0 0)) (.tmp 6) _ rfl elLatch w.heap.size none 0 0 _ rfl (World.ownsRow_nil _ _ _ _) A n c _ rfl hsrc (by omega) (by omega) ?_; intro Al cl w1 ho hk hb)
  have hb1 := hk.all (fun k _ c => by obtain ⟨a, h, _⟩ := c; cases h)
  have hs1 := hb1.size
  have hw : ((w1.alloc (.map #[] 0)).alloc (.cells #[.int .i64 ins, .slice Al n cl, .slice none 0 0, .slice none 0 0, .map (some w1.heap.size)] 143)).heap.size = w1.heap.size + 2 := by simp
  go_ret
  refine ⟨w1.heap.size, Al, cl, rfl, ?_, (World.ownsMap_made w1 Try.prog 59 (plainElem Try.prog 3)).alloc _, hs1, ?_, ?_, ?_⟩
  · have := Arr.new (w1.alloc (.map #[] 0)) #[.int .i64 ins, .slice Al n cl, .slice none 0 0, .slice none 0 0, .map (some w1.heap.size)] 143
    rw [show (w1.alloc (.map #[] 0)).heap.size = w1.heap.size + 1 by simp] at this
    refine Arr.congr this (fun j hj => ?_)
    have hj' : j < 5 := hj
    obtain rfl | rfl | rfl | rfl | rfl : j = 0 ∨ j = 1 ∨ j = 2 ∨ j = 3 ∨ j = 4 := by omega
    all_goals rfl
  · have ho' : w1.ownsRow w.heap.size 68 2 (.slice Al n cl) n (flat2 (fun k => two (.int .i64 (L k)) (.bool (I k))) n) := by simpa using ho
    exact World.ownsRow.alloc (World.ownsRow.alloc ho' _) _
  · exact own_lt ho
  · exact (hb1.alloc (by omega) _).alloc (by simp; omega) _

/-- where Hash stands among the gates -/
structure HAt (g : G) (w8 wr : World) (bk bt nv : Nat) (v1 : Value) (k : Nat) (s : HS) (T : Nat → Int) (Aa : Option Addr) (ca : Nat) (D : DataW Unit) : Prop where
  only : Only (fun j => j = bk + 1 ∨ j = bk ∨ j = bt) w8 wr
  tos : Arr wr bt 3 nv (fun j => .int .i64 (T j))
  st : MSt g s w8.heap.size wr (bk + 1) v1 Aa ca bk D
  ok : TOk g s T k
  rest : ∀ j, g.first + k ≤ j → T j = 0
theorem HAt.small {g : G} {w8 wr : World} {bk bt nv : Nat} {v1 : Value} {k : Nat} {s : HS} {T : Nat → Int} {Aa : Option Addr} {ca : Nat} {D : DataW Unit} (h : HAt g w8 wr bk bt nv v1 k s T Aa ca D) (hk : g.first + k ≤ 60000) (j : Nat) : 0 ≤ T j ∧ T j ≤ 1000000 := by
  by_cases hj : j < g.first + k
  · have := h.ok.range j hj
    have := h.ok.m
    omega
  · rw [h.rest j (by omega)]; omega
theorem HAt.gate {g : G} {w8 wq w7 : World} {bk bt nv k : Nat} {v1 : Value} {s s' : HS} {T : Nat → Int} {Aa Aa' : Option Addr} {ca' : Nat} {D' : DataW Unit} {l : Int} (hv : g.Valid) (hk : k < g.n2) (h1 : Only (fun j => j = bk + 1 ∨ j = bk ∨ j = bt) w8 wq) (hb : ∀ b, blockOf Aa b → w8.heap.size ≤ b) (h2 : Arr w7 bt 3 nv (fun j => .int .i64 (T j)))
    (h3 : MSt g s' w8.heap.size w7 (bk + 1) v1 Aa' ca' bk D') (h4 : TOk g s T k) (h5 : ∀ j, g.first + k ≤ j → T j = 0) (hr : And2 g.first s (mvT T (g.X k)) (mvT T (g.Y k)) s' l) (ho : Only (fun j => j = bk + 1 ∨ j = bk ∨ blockOf Aa j) wq w7) (hbt : bt < w8.heap.size) (hbk : bt ≠ bk ∧ bt ≠ bk + 1) :
    HAt g w8 (w7.setCell ⟨bt, g.first + k, none⟩ (.int .i64 l)) bk bt nv v1 (k + 1) s' (fun j => if j = g.first + k then l else T j) Aa' ca' D' := by
  have os := (Only.refl (fun j => j = bt) w7).setCell (p := ⟨bt, g.first + k, none⟩) (fun _ => rfl) (.int .i64 l)
  refine ⟨(h1.then_ ho (fun i hi c => c.elim .inl (fun c => c.elim (fun c => .inr (.inl c)) (fun c => absurd (hb i c) (by omega))))).trans (os.mono (fun _ _ c => .inr (.inr c))), h2.set (fun j _ hj => by simp [hj]) (by simp), h3.only os (fun c => hbk.2 c.symm) (fun c => hbk.1 c.symm) (fun b hb' c => by omega), h4.step hv hk hr, fun j hj => ?_⟩
  simp only [if_neg (show ¬ j = g.first + k by omega)]
  exact h5 j (by omega)

/-- a hashed graph in new memory -/
def HashPost (g : G) (w : World) (e : Ending) (w' : World) : Prop := ∃ (s : HS) (T : Nat → Int), TOk g s T g.n2 ∧ MadeG (g.hash s T) w e w'

set_option maxHeartbeats 20000000 in
set_option maxRecDepth 100000 in
theorem hashAig_any (g : G) (A1 A2 A3 : Option Addr) (c1 c2 c3 : Nat) (w : World) (hg : g.At w A1 A2 A3) (hv : g.Valid) :
    Calls Try.prog 45 #[.agg #[.int .i64 g.ins, .slice A1 g.n1 c1, .slice A2 g.n2 c2, .slice A3 g.n3 c3]] w (HashPost g w) := by
  have v1 := hv.i0; have v2 := hv.i1; have v3 := hv.n; have v4 := hv.n1; have v5 := hv.n3
  obtain ⟨hf, hn⟩ := hv.nums
  obtain ⟨nv, hnv⟩ : ∃ nv : Nat, nv = g.first + g.n2 := ⟨_, rfl⟩
  have hnvi : (nv : Int) = 1 + g.ins + g.n1 + g.n2 := by omega
  have HNV := Lib.hid hnv; have HNVI := Lib.hid hnvi; have HF := Lib.hid hf
  have hnv6 : nv ≤ 60000 := by omega
  have hfn : g.first + g.n2 ≤ 60000 := hn
  have hfv : g.first ≤ nv := by omega
  clear hnv hnvi hf hn
  go_enter Try.func45, Try.ntmps45
  go_upto_region 1 with (fail)
  have hbel : Below w.heap.size w ((w.alloc (.cells #[.int .i64 g.ins, .slice A1 g.n1 c1, .slice A2 g.n2 c2, .slice A3 g.n3 c3] 26)).alloc (.cells #[.int .i64 0, .slice none 0 0, .slice none 0 0, .slice none 0 0] 26)) := ((Below.refl _ _).alloc (Nat.le_refl _) _).alloc (by simp) _
  have hbx := (BoxAt.new w [.int .i64 g.ins, .slice A1 g.n1 c1, .slice A2 g.n2 c2, .slice A3 g.n3 c3] 26).keeps (Keeps.alloc _ (.cells #[.int .i64 0, .slice none 0 0, .slice none 0 0, .slice none 0 0] 26))
  have hrs := GBox.new (w.alloc (.cells #[.int .i64 g.ins, .slice A1 g.n1 c1, .slice A2 g.n2 c2, .slice A3 g.n3 c3] 26)) (.int .i64 0) (.slice none 0 0) (.slice none 0 0) (.slice none 0 0)
  rw [show (w.alloc (.cells #[.int .i64 g.ins, .slice A1 g.n1 c1, .slice A2 g.n2 c2, .slice A3 g.n3 c3] 26)).heap.size = w.heap.size + 1 by simp] at hrs
  have hsz : ((w.alloc (.cells #[.int .i64 g.ins, .slice A1 g.n1 c1, .slice A2 g.n2 c2, .slice A3 g.n3 c3] 26)).alloc (.cells #[.int .i64 0, .slice none 0 0, .slice none 0 0, .slice none 0 0] 26)).heap.size = w.heap.size + 2 := by simp
  generalize ((w.alloc (.cells #[.int .i64 g.ins, .slice A1 g.n1 c1, .slice A2 g.n2 c2, .slice A3 g.n3 c3] 26)).alloc (.cells #[.int .i64 0, .slice none 0 0, .slice none 0 0, .slice none 0 0] 26)) = w1 at *
  have HB1 := Lib.hid hbel; clear hbel
  obtain ⟨g0, g1, g2, g3⟩ := hbx.four
  go_wp2_with fail
  refine (newMakerH_any g.ins A1 g.n1 c1 g.L g.I w1 (hg.lat.keeps (Keeps.of_below HB1.out)) (by omega)).mono ?_
  rintro e w5 ⟨bk, Al, cl, rfl, hm5, hbk5, hbkb, hl5, hlt5, hb5⟩
  have HB5 := Lib.hid (Below.then_call HB1.out hb5 (by omega))
  have hbx5 := hbx.keeps (Keeps.of_below hb5)
  have hrs5 : GBox w5 (w.heap.size + 1) (.int .i64 0) (.slice none 0 0) (.slice none 0 0) (.slice none 0 0) := Arr.below hrs hb5
  have hs5 := hb5.size
  have hbm5 : bk + 1 < w5.heap.size := Arr.lt hm5
  have HLO := Lib.hid (fun b (c : blockOf Al b) => And.intro (own_base hl5 b c) (hlt5 b c))
  have hSL := StL.of_own hl5
  have hw1 : w.heap.size + 2 ≤ bk := by omega
  clear hb5 hrs hl5 hlt5 hbx
  generalize hbase : w1.heap.size = base at *
  clear g0 g1 g2 g3
  obtain ⟨g0, g1, g2, g3⟩ := hbx5.four
  have e1 : IntKind.i64.wrap (1 + g.ins + (g.n1 : Int)) = g.first := by rw [HF.out]; exact IntWalk.i64_in _ (by omega)
  go_wp2_with fail
  refine (variables_any _ _ _ _ _ _ _ _ _ _ _ (by omega) (by omega) (by omega) (by omega)).mono ?_
  rw [← HNVI.out]
  rintro e w6 ⟨rfl, hb6⟩
  have HB6 := Lib.hid (Below.then_call HB5.out hb6 (by omega))
  have hbx6 := hbx5.keeps (Keeps.of_below hb6)
  have hrs6 : GBox w6 (w.heap.size + 1) (.int .i64 0) (.slice none 0 0) (.slice none 0 0) (.slice none 0 0) := Arr.below hrs5 hb6
  have hm6 : MBox w6 (bk + 1) (.int .i64 g.ins) (.slice Al g.n1 cl) (.slice none 0 0) (.slice none 0 0) (.map (some bk)) := Arr.below hm5 hb6
  have hk6 := Maps.only hbk5 (Only.of_below hb6) (by omega)
  have hSL6 := hSL.below hb6
  have hs6 := hb6.size
  clear hb6 hbx5 hrs5 hm5 hSL HB5 g0 g1 g2 g3 e1 hbk5
  have hmk2 := fun W => run_mk Try.underlying24 zeroInt .i64 .i64 (nv : Int) nv (by omega) (by omega) (by omega) (by omega) W
  simp only [Int.toNat_natCast, Value.cells, Nat.mul_one] at hmk2
  go_upto_region 4 with (fail)
  clear hmk2
  have hbelA : Below w6.heap.size w6 ((w6.alloc (.cells (madeCells #[.int .i64 0] nv) 3)).alloc (.cells #[.slice (some ⟨w6.heap.size, 0, none⟩) nv nv] 24)) := ((Below.refl _ _).alloc (Nat.le_refl _) _).alloc (by simp) _
  have hszA : ((w6.alloc (.cells (madeCells #[.int .i64 0] nv) 3)).alloc (.cells #[.slice (some ⟨w6.heap.size, 0, none⟩) nv nv] 24)).heap.size = w6.heap.size + 2 := by simp
  have hvarA : VarAt ((w6.alloc (.cells (madeCells #[.int .i64 0] nv) 3)).alloc (.cells #[.slice (some ⟨w6.heap.size, 0, none⟩) nv nv] 24)) (w6.heap.size + 1) w6.heap.size nv := by
    have hq := BoxAt.new (w6.alloc (.cells (madeCells #[.int .i64 0] nv) 3)) [.slice (some ⟨w6.heap.size, 0, none⟩) nv nv] 24 0 _ rfl
    rw [show (w6.alloc (.cells (madeCells #[.int .i64 0] nv) 3)).heap.size = w6.heap.size + 1 by simp] at hq
    exact hq
  have harrA : Arr ((w6.alloc (.cells (madeCells #[.int .i64 0] nv) 3)).alloc (.cells #[.slice (some ⟨w6.heap.size, 0, none⟩) nv nv] 24)) w6.heap.size 3 nv (fun j => .int .i64 (if j < 0 then 2 * (j : Int) else 0)) := (Arr.made w6 (.int .i64 0) nv 3).below ((Below.refl _ _).alloc (Nat.le_refl _) _)
  generalize ((w6.alloc (.cells (madeCells #[.int .i64 0] nv) 3)).alloc (.cells #[.slice (some ⟨w6.heap.size, 0, none⟩) nv nv] 24)) = w7 at *
  have HB7 := Lib.hid (Below.then_call HB6.out hbelA (by omega))
  have hbx7 := hbx6.keeps (Keeps.of_below hbelA)
  have hrs7 : GBox w7 (w.heap.size + 1) (.int .i64 0) (.slice none 0 0) (.slice none 0 0) (.slice none 0 0) := Arr.below hrs6 hbelA
  have hk7 := Maps.only hk6 (Only.of_below hbelA) (by omega)
  have hm7 : MBox w7 (bk + 1) (.int .i64 g.ins) (.slice Al g.n1 cl) (.slice none 0 0) (.slice none 0 0) (.map (some bk)) := Arr.below hm6 hbelA
  have hSL7 := hSL6.below hbelA
  clear hbelA hbx6 hrs6 hk6 hm6 hSL6 HB6
  generalize w6.heap.size = bt at *
  have HL2 := Lib.hid (fun b (c : blockOf Al b) => show b < bk from (HLO.out b c).2)
  go_wp2_with fail
  go_loopw [26] (fun i wr => ∃ m : Nat, m ≤ g.first ∧ i = .int .i64 m ∧ Only (fun j => j = bt) w7 wr ∧ Arr wr bt 3 nv (fun j => .int .i64 (if j < m then 2 * (j : Int) else 0))) (fun i _ => g.first - (intOf i).toNat)
  case atStart => exact ⟨0, by omega, rfl, Only.refl _ _, harrA⟩
  case round =>
    clear harrA
    obtain ⟨m, hm, rfl, HO, HT⟩ := hrel
    have hvr : wr.cell? ⟨bt + 1, 0, none⟩ = some (.slice (some ⟨bt, 0, none⟩) nv nv) := HO.cell hvarA (by simp)
    by_cases hlt : m < g.first
    · have hca := HT.cell (k := m) (by omega)
      have hfa := HT.thaw m
      have e1 : IntKind.i64.wrap (2 * (m : Int)) = 2 * (m : Int) := IntWalk.i64_in _ (by omega)
      have e4 : (m : Int) < nv := by omega
      go_wp2_with fail
      refine ⟨⟨m + 1, by omega, by go_num, HO.setCell (p := ⟨bt, m, none⟩) (fun _ => rfl) _, HT.set (fun j _ hj => ?_) (by simp)⟩, by simp [intOf]; omega⟩
      by_cases h : j < m
      · rw [if_pos h, if_pos (by omega)]
      · rw [if_neg h, if_neg (by omega)]
    · obtain rfl : m = g.first := by omega
      have hT8 := HT
      have HB8 := Lib.hid (HB7.out.trans (HO.below (B := w.heap.size) (fun j _ c => by omega) (by omega)))
      have hbx8 := HO.box hbx7 (by omega)
      have hrs8 : GBox wr (w.heap.size + 1) (.int .i64 0) (.slice none 0 0) (.slice none 0 0) (.slice none 0 0) := Arr.only hrs7 HO (by omega)
      have hk8 := Maps.only hk7 HO (by omega)
      have hm8 : MBox wr (bk + 1) (.int .i64 g.ins) (.slice Al g.n1 cl) (.slice none 0 0) (.slice none 0 0) (.map (some bk)) := Arr.only hm7 HO (by omega)
      have hSL8 := hSL7.only HO (fun b _ _ c e => by have := HL2.out b c; omega)
      have hs8 := HO.size
      clear HT HO hbx7 hrs7 hm7 hSL7 HB7 hvarA hk7
      obtain ⟨g0, g1, g2, g3⟩ := hbx8.four
      go_wp2_with fail
      clear g0 g1 g2 g3
      obtain ⟨w8, rfl⟩ : ∃ w8 : World, w8 = wr := ⟨_, rfl⟩
      go_loopw [39] (fun i wi => ∃ (k : Nat) (s : HS) (T : Nat → Int) (Aa : Option Addr) (ca : Nat) (D : DataW Unit), k ≤ g.n2 ∧ i = .int .i64 k ∧ HAt g w8 wi bk bt nv (.slice Al g.n1 cl) k s T Aa ca D) (fun i _ => g.n2 - (intOf i).toNat)
      case atStart => exact ⟨0, HS.none, _, none, 0, .map [], by omega, rfl, Only.refl _ _, hT8, ⟨hm8, World.ownsRow_nil _ _ _ _, hk8, Books.start _⟩, TOk.start g, fun j hj => if_neg (by omega)⟩
      case round =>
        clear hT8 hk8
        obtain ⟨k, s, T, Aa, ca, D, hk, rfl, H⟩ := hrel
        have HBr := Lib.hid (HB8.out.trans (H.only.below (B := w.heap.size) (fun j _ c => by omega) (by omega)))
        have hbxr := H.only.box hbx8 (by omega)
        have hvk : wr.cell? ⟨bt + 1, 0, none⟩ = some (.slice (some ⟨bt, 0, none⟩) nv nv) := H.only.cell hvr (by simp; omega)
        have hszr := H.only.size
        obtain ⟨g0, g1, g2, g3⟩ := hbxr.four
        by_cases hlt : k < g.n2
        · obtain ⟨b1, o1, rfl, x0, x1⟩ := (hg.ands.keeps (Keeps.of_below HBr.out)).at2 hlt
          simp only [two] at x0 x1
          have hok := hv.ands k hlt
          have hlo := hv.lo hlt
          unfold G.AndOk at hok
          have q0 : (wr.alloc (.cells #[.int .i64 (g.X k), .int .i64 (g.Y k)] 59)).cell? ⟨wr.heap.size, 0, none⟩ = some (.int .i64 (g.X k)) := BoxAt.new wr [.int .i64 (g.X k), .int .i64 (g.Y k)] 59 0 _ rfl
          have q1 : (wr.alloc (.cells #[.int .i64 (g.X k), .int .i64 (g.Y k)] 59)).cell? ⟨wr.heap.size, 1, none⟩ = some (.int .i64 (g.Y k)) := BoxAt.new wr [.int .i64 (g.X k), .int .i64 (g.Y k)] 59 1 _ rfl
          have r1 := H.only.alloc (.cells #[.int .i64 (g.X k), .int .i64 (g.Y k)] 59)
          have r2 := H.tos.alloc (.cells #[.int .i64 (g.X k), .int .i64 (g.Y k)] 59)
          have r3 := H.st.alloc (.cells #[.int .i64 (g.X k), .int .i64 (g.Y k)] 59)
          have r6 := Keeps.alloc wr (.cells #[.int .i64 (g.X k), .int .i64 (g.Y k)] 59) _ _ hvk
          have hszq : (wr.alloc (.cells #[.int .i64 (g.X k), .int .i64 (g.Y k)] 59)).heap.size = wr.heap.size + 1 := by simp
          have hTs := H.small (by omega)
          have HTK := Lib.hid H.ok
          have HTR := Lib.hid H.rest
          have hba := own_base H.st.ands
          have HBA := Lib.hid hba
          have hsm := H.ok.m
          have HLA := Lib.hid (own_lt H.st.ands)
          go_upto_region 13 with (fail)
          generalize wr.alloc (.cells #[.int .i64 (g.X k), .int .i64 (g.Y k)] 59) = wq at *
          clear HBr hbxr hvk x0 x1 g0 g1 g2 g3 H
          generalize wr.heap.size = bq at *
          have e2 : 0 ≤ (g.first : Int) + k := by omega
          have e3 : ((g.first : Int) + k).toNat = g.first + k := by omega
          have hfm : g.first + k < nv := by have := HNV.out; omega
          have e4 : (g.first : Int) + k < nv := by omega
          have e1 : IntKind.i64.wrap ((g.first : Int) + k) = (g.first : Int) + k := IntWalk.i64_in _ (by omega)
          have hl1 := (HTK.out.lit hlo.2.2.1).1
          have hl2 := (HTK.out.lit hlo.2.2.2).1
          have HC1 := Lib.hid (mvH_any (bc := bt + 1) (nv := nv) (T := T) (l := g.X k) (w := wq.drew) r6 (r2.heap rfl) hok.1.1 (by omega) (fun j _ => hTs j) (by omega))
          have HC2 := Lib.hid (mvH_any (bc := bt + 1) (nv := nv) (T := T) (l := g.Y k) (w := wq.drew) r6 (r2.heap rfl) hok.2.1 (by omega) (fun j _ => hTs j) (by omega))
          have HC3 := Lib.hid (and_any g s hv w8.heap.size (bk + 1) bk Al cl Aa ca D (mvT T (g.X k)) (mvT T (g.Y k)) wq.drew ⟨r3.box, r3.ands, r3.books, r3.reads⟩ (by omega) (by omega) (by omega) (by omega) (by omega) (by omega) (by show w8.heap.size ≤ wq.heap.size; omega))
          refine wp_region_z (fun w' => w'.cell? ⟨bt + 1, 0, none⟩ = some (.slice (some ⟨bt, 0, none⟩) nv nv) ∧ w'.cell? ⟨bq, 0, none⟩ = some (.int .i64 (g.X k)) ∧ w'.cell? ⟨bq, 1, none⟩ = some (.int .i64 (g.Y k))) [0, 1, 2, 3, 4, 5, 6, 7, 9, 10, 11] [14, 15] (by kernel_rfl) (by kernel_rfl) (by kernel_rfl) (by rfl) (fun _ _ _ _ e h => ⟨e.symm.trans h.1, h.2⟩) ⟨r6, q0, q1⟩ ?_
          iterate 11
            refine Heads.step (v := ?_) rfl (by rfl) (fun W hW => ?_) ?_
            rotate_left
            · (obtain ⟨s0, s1, s2⟩ := hW; go_simp; try with_reducible rfl)
          refine AnyZ.one (i := 8) (by kernel_rfl) rfl (fun K hK => ?_)
          go_simp
          refine HC1.out.mono ?_
          rintro e w' ⟨rfl, rfl⟩
          refine hK _ _ (fun _ => ⟨r6, q0, q1⟩) ?_
          clear hK
          refine AnyZ.one (i := 12) (by kernel_rfl) rfl (fun K hK => ?_)
          go_simp
          refine HC2.out.mono ?_
          rintro e w' ⟨rfl, rfl⟩
          refine hK _ _ (fun _ => ⟨r6, q0, q1⟩) ?_
          clear hK
          refine AnyZ.one (i := 13) (by kernel_rfl) rfl (fun K hK => ?_)
          go_simp
          refine HC3.out.mono ?_
          rintro e w7 ⟨s', l, Aa', ca', D', rfl, hr, hst, hO⟩
          have hO' : Only (fun j => j = bk + 1 ∨ j = bk ∨ blockOf Aa j) wq w7 := hO.drawn
          have r7 := Arr.only r2 hO' (fun c => c.elim (fun c => by omega) (fun c => c.elim (fun c => by omega) (fun c => by have := HBA.out _ c; omega)))
          have H8 := HAt.gate hv hlt r1 HBA.out r7 hst HTK.out HTR.out hr hO' (by omega) (by omega)
          have hca := r7.cell (k := g.first + k) hfm
          have hfa := r7.thaw (g.first + k)
          have y6 := hO'.cell r6 (fun c => c.elim (fun c => by simp only at c; omega) (fun c => c.elim (fun c => by simp only at c; omega) (fun c => by have := HBA.out _ c; simp only at this; omega)))
          have y0 := hO'.cell q0 (fun c => c.elim (fun c => by simp only at c; omega) (fun c => c.elim (fun c => by simp only at c; omega) (fun c => by have := HLA.out _ c; simp only at this; omega)))
          have y1 := hO'.cell q1 (fun c => c.elim (fun c => by simp only at c; omega) (fun c => c.elim (fun c => by simp only at c; omega) (fun c => by have := HLA.out _ c; simp only at this; omega)))
          refine hK _ _ (fun _ => ⟨y6, y0, y1⟩) ?_
          clear hK hO hO' hr hst r1 r2 r3 HC1 HC2 HC3
          refine AnyZ.one (i := 14) (by kernel_rfl) rfl (fun K hK => ?_)
          go_simp
          refine hK _ _ (fun h => by cases h) ?_
          clear hK
          refine AnyZ.one (i := 15) (by kernel_rfl) rfl (fun K hK => ?_)
          go_simp
          refine hK _ _ (fun h => by cases h) (AnyZ.done (by kernel_rfl) ?_)
          clear hK
          go_wp2_with fail
          go_roundw
          case rel => exact ⟨k + 1, s', _, Aa', ca', D', by omega, by go_num, H8⟩
          case measure => simp [intOf]; omega
        · obtain rfl : k = g.n2 := by omega
          have hrsr : GBox wr (w.heap.size + 1) (.int .i64 0) (.slice none 0 0) (.slice none 0 0) (.slice none 0 0) := Arr.only hrs8 H.only (by omega)
          have hSLr := hSL8.only H.only (fun b _ _ c e => by have := HL2.out b c; omega)
          have hands := own_rows2 H.st.ands
          have hHs := H.only.size
          have hTs := H.small (by omega)
          have HTK := Lib.hid H.ok
          go_wp2_with fail
          refine (closeH_any g T A1 A2 A3 Al c1 c2 c3 cl (bk + 1) (bt + 1) bt nv base Aa s.m ca (.map (some bk)) w wr hg hv HBr.out (by omega) H.st.box hSLr (by omega) (fun c => by have := HL2.out _ c; omega) (fun b c => ⟨(HLO.out b c).1, by have := HL2.out b c; omega⟩) hvk H.tos HNV.out (fun j _ => hTs j) ⟨by omega, fun c => by have := HL2.out _ c; omega⟩ ⟨by omega, fun c => by have := HL2.out _ c; omega⟩).mono ?_
          rintro e w9 ⟨Ao, co, rfl, hl9, ho9, hO9, hAo⟩
          have HAO := Lib.hid hAo; clear hAo
          have hHBs := HBr.out.size
          have hB9 := Lib.hid (HBr.out.trans (hO9.below (B := w.heap.size) (fun j _ c => c.elim (fun c => by omega) (fun c => by have := (HLO.out j c).1; omega)) (by omega)))
          have hrs9 : GBox w9 (w.heap.size + 1) (.int .i64 0) (.slice none 0 0) (.slice none 0 0) (.slice none 0 0) := Arr.only hrsr hO9 (fun c => c.elim (fun c => by omega) (fun c => by have := (HLO.out _ c).1; omega))
          have hands9 := hands.only hO9 (fun b cur hb _ c => c.elim (fun c => by omega) (fun c => by have := HL2.out b c; omega))
          obtain ⟨z0, z1, z2, z3⟩ := hrs9.at_
          have u0 := Arr.thaw hrs9 0
          have u1 := Arr.thaw hrs9 1
          have u2 := Arr.thaw hrs9 2
          have u3 := Arr.thaw hrs9 3
          have hs9 := hB9.out.size
          clear hO9 H g0 g1 g2 g3
          go_wp2_with fail
          have h9 := (((hrs9.put0 (.int .i64 g.ins)).put1 (.slice Al g.n1 cl)).put2 (.slice Aa (s.m) ca)).put3 (.slice Ao g.n3 co)
          have hOA := ((((Only.refl (fun j => j = w.heap.size + 1) w9).setCell (p := ⟨w.heap.size + 1, 0, none⟩) (fun _ => rfl) (.int .i64 g.ins)).setCell (p := ⟨w.heap.size + 1, 1, none⟩) (fun _ => rfl) (.slice Al g.n1 cl)).setCell (p := ⟨w.heap.size + 1, 2, none⟩) (fun _ => rfl) (.slice Aa (s.m) ca)).setCell (p := ⟨w.heap.size + 1, 3, none⟩) (fun _ => rfl) (.slice Ao g.n3 co)
          generalize (((w9.setCell ⟨w.heap.size + 1, 0, none⟩ (.int .i64 g.ins)).setCell ⟨w.heap.size + 1, 1, none⟩ (.slice Al g.n1 cl)).setCell ⟨w.heap.size + 1, 2, none⟩ (.slice Aa (s.m) ca)).setCell ⟨w.heap.size + 1, 3, none⟩ (.slice Ao g.n3 co) = wA at *
          clear z0 z1 z2 z3
          obtain ⟨q0, q1, q2, q3⟩ := h9.at_
          have hBA := hB9.out.trans (hOA.below (B := w.heap.size) (fun j _ c => by omega) (by omega))
          refine bodyPost_ret (v := .agg #[.int .i64 g.ins, .slice Al g.n1 cl, .slice Aa (s.m) ca, .slice Ao g.n3 co]) ?_ rfl ?_
          · simp [results, Try.results45, go_sem, q0, q1, q2, q3]
          · exact ⟨s, T, HTK.out, Al, Aa, Ao, cl, ca, co, rfl, ⟨hl9.only hOA (fun b c e => by have := (HLO.out b c).1; omega), (hands9.only hOA (fun b cur hb _ => by omega)).row, Row1.only ho9 hOA (fun b c e => by have := HAO.out b c; omega)⟩, hBA⟩
end Go.Proofs.Ytdhgbikmaglgpaa
