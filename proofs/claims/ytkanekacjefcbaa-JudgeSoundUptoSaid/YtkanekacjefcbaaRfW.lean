/- refute's follows, the walk. Conditions: the holder and the clause lie in memory, the clauses' numbers are literals. -/
import Derived.Test.YtkanekacjefcbaaRfF
namespace Go.Proofs.Ytkanekacjefcbaa
open Go.RowKit Go.Maps Go.ChangeShapes

theorem neg0_nil : neg0 [] = fun _ => false := by funext y; simp [neg0]
/-- unit propagation under way: the set that is held is reached, it holds what was put at the start; U: what is still to be looked at -/
def Under (wW wi : World) (z b : Nat) (cs : List (List Int)) (l0 : List Int) (U : Nat → Prop) (g : Nat) : Prop :=
  ∃ (S : Int → Bool) (T : Option Addr) (n c : Nat) (todo : List Int), FSt wW wi z b S T n c todo ∧ Reach cs (neg0 l0) S ∧ (∀ y, neg0 l0 y = true → S y = true) ∧ Pending cs S todo U ∧ 2 * (200001 - cnt 100000 S) + todo.length ≤ g
theorem Under.look {wW w' : World} {z b g i : Nat} {cs : List (List Int)} {l0 l : List Int} {U U' : Nat → Prop} {e : Ending} {S : Int → Bool} {todo : List Int} (hr : Reach cs (neg0 l0) S) (hs : ∀ y, neg0 l0 y = true → S y = true) (hp : Pending cs S todo U) (hg : 2 * (200001 - cnt 100000 S) + todo.length ≤ g)
    (hi : cs[i]? = some l) (hU : ∀ j, U j → j = i ∨ U' j) (h : LookP wW z b S todo l e w') : (e = .returned (.bool true) ∧ FollowsP cs l0 ∧ Below wW.heap.size wW w') ∨ (e = .returned (.bool false) ∧ Under wW w' z b cs l0 U' g) := by
  have hm : l ∈ cs := List.mem_of_getElem? hi
  rcases h with ⟨e1, h1, h2⟩ | ⟨e1, S', T', n', c', todo', hF, hc, hst⟩
  · exact .inl ⟨e1, follows_clash hr hm h1, h2⟩
  · refine .inr ⟨e1, S', T', n', c', todo', hF, ?_, ?_, hp.look hi hc (hst.imp id (fun ⟨x, a, b, _⟩ => ⟨x, a, b⟩)) hU, ?_⟩
    · rcases hst with ⟨rfl, _⟩ | ⟨x, rfl, _, _, _, h1, h2, h3⟩
      · exact hr
      · exact hr.step hm h1 h2 h3
    · rcases hst with ⟨rfl, _⟩ | ⟨x, rfl, _⟩
      · exact hs
      · exact fun y hy => by simp [put1, hs y hy]
    · rcases hst with ⟨rfl, rfl⟩ | ⟨x, rfl, rfl, h1, h2, _⟩
      · exact hg
      · have hc1 := cnt_put (V := 100000) (by have := h2.2.1; omega) (by have := h2.2.2; omega) h1
        have hc2 := cnt_le 100000 (put1 S x)
        rw [hc1] at hc2
        rw [hc1]
        simp; omega

set_option maxHeartbeats 20000000 in
set_option maxRecDepth 100000 in
theorem follows_any (w0 : World) (b bm base : Nat) (vars : Int) (cs : List (List Int)) (vs : List Value) (A : Option Addr) (cc m : Nat) (D : DataW Unit) (U : Option Addr) (cu : Nat) (us : List Int) (l0 : List Int) (B : Option Addr) (d : Nat) (w : World)
    (HW : Hold w0 w b bm base vars cs vs A cc m D U cu us (gAll cs) cs.length) (hl : ClRow w0 B l0) (hlit : LitsOk 100000 l0) (hcl : ∀ c, c ∈ cs → LitsOk 100000 c) (hlen0 : l0.length ≤ 1000000000) (hlen : ∀ c, c ∈ cs → c.length ≤ 1000000000) (hcs : cs.length ≤ 1000000000) (hm : m ≤ 1000000000) (hus : us.length ≤ 1000000000) :
    Calls Try.prog 14 #[.pointer (some ⟨b, 0, none⟩), .slice B l0.length d] w fun e w' => e = .returned (.bool (tf (FollowsP cs l0))) ∧ Below w.heap.size w w' := by
  have HLIT := Lib.hid hlit; clear hlit
  have HCL := Lib.hid hcl; clear hcl
  have HLEN := Lib.hid hlen; clear hlen
  -- what the map has at a literal, at every later world
  have HLK : Hid (∀ x, LitOk1 100000 x → ∃ (Az : Option Addr) (cz : Nat) (zs : List Int), (∀ W, Below w.heap.size w W → (Instr.lookup 39 (.map (some bm)) (.int .i64 x) false).run Try.prog W = .ok (.slice Az zs.length cz) W) ∧ Row1 w Az zs.length (fun j => .int .i64 (zs.getD j 0)) ∧ zs.length ≤ 1000000000 ∧ (∀ z, z ∈ zs → 0 ≤ z ∧ z < cs.length) ∧ ∀ i : Nat, gAll cs i x → (i : Int) ∈ zs) := Lib.hid (fun x hx => by
    have hwf := wf_lit (l := x) (by have := hx.2.1; omega) (by have := hx.2.2; omega)
    obtain ⟨Az, cz, zs, hrun, _, hzl, h1, h2, hoi, _, _⟩ := HW.grp.look (by unfold maxLen; omega) hwf
    refine ⟨Az, cz, zs, fun W hW => HW.grp.same hwf hrun (hW.block bm HW.grp.lt.1), fun hn => ?_, by omega, h1, h2⟩
    obtain ⟨ba, oa, e, hc⟩ := own_row1 hoi.1 hn
    refine ⟨ba, oa, e, fun k hk => ?_⟩
    rw [hc k hk]
    simp [List.getD_eq_getElem?_getD, List.getElem?_eq_getElem hk])
  have HU : Hid (Row1 w U us.length (fun j => .int .i64 (us.getD j 0)) ∧ (∀ z, z ∈ us → 0 ≤ z ∧ z < cs.length) ∧ ∀ (i : Nat) (c : List Int), cs[i]? = some c → (i : Int) ∈ us ∨ ∃ a b, a ∈ c ∧ b ∈ c ∧ a ≠ b) := Lib.hid ⟨fun hn => by
    obtain ⟨ba, oa, e, hc⟩ := own_row1 HW.un hn
    refine ⟨ba, oa, e, fun k hk => ?_⟩
    rw [hc k hk]
    simp [List.getD_eq_getElem?_getD, List.getElem?_eq_getElem hk], HW.u1, fun i c hc => HW.u2 i c (List.getElem?_eq_some_iff.1 hc).1 hc⟩
  have HH := Lib.hid HW; clear HW
  have hmm := @run_makeMap Try.prog
  go_enter Try.func14, Try.ntmps14
  go_upto_region 4 with (fail)
  clear hmm
  have h0 := FSt.start w b 38 40 26 62 rfl rfl rfl rfl
  generalize ((((w.alloc (.cells #[.pointer (some ⟨b, 0, none⟩)] 38)).alloc (.map #[] 0)).alloc (.cells #[.map (some (w.heap.size + 1))] 40)).alloc (.cells #[.slice none 0 0] 26)).alloc (.cells #[.func (.func 28) #[] #[.pointer (some ⟨w.heap.size + 1 + 1, 0, none⟩), .pointer (some ⟨w.heap.size + 1 + 1 + 1, 0, none⟩)]] 62) = w5 at *
  generalize hz : w.heap.size = z at *
  have HZZ := Lib.hid hz; clear hz
  go_wp2_with fail
  go_loopw [20] (fun ix wi => ∃ k : Nat, k ≤ l0.length ∧ ix = .int .i64 k ∧ Hid (∃ (T : Option Addr) (n c : Nat) (todo : List Int), FSt w wi z b (neg0 (l0.take k)) T n c todo ∧ (∀ y, neg0 (l0.take k) y = true → y ∈ todo) ∧ ¬ Taut (l0.take k))) (fun ix _ => l0.length - (intOf ix).toNat)
  case atStart => exact ⟨0, by omega, rfl, Lib.hid ⟨none, 0, 0, [], by rw [List.take_zero, neg0_nil]; exact h0, by simp [neg0], by simp [Taut]⟩⟩
  case round =>
    clear h0
    obtain ⟨k, hk, rfl, HM⟩ := hrel
    obtain ⟨T, n, c, todo, hF, htd, hnt⟩ := HM.out
    clear HM
    have HF := Lib.hid hF; have HTD := Lib.hid htd; have HNT := Lib.hid hnt
    clear hF htd hnt
    by_cases hlt : k < l0.length
    · have hki : (k : Int) < l0.length := by omega
      obtain ⟨ba, oa, hA, x0⟩ := (hl.keeps (Keeps.of_below (HH.out.bel.trans (HF.out.bel.mono HH.out.bel.size)))).at_ hlt
      have hly := HLIT.out _ (getD_mem hlt)
      have hst := Lib.hid (neg0_step hlt)
      have htt := Lib.hid (taut_step (k := k) hlt hly.1 HNT.out)
      have HTY : Hid (neg0 (l0.take k) (l0.getD k 0) = true → tf (FollowsP cs l0) = true) := Lib.hid (fun h => tf_yes (follows_taut (getD_mem hlt) (List.mem_of_mem_take (neg0_iff.1 h))))
      generalize l0.getD k 0 = y at *
      have HLY := Lib.hid hly
      obtain ⟨hy0, hy1, hy2⟩ := hly
      have hrun := HF.out.held.look (l := y) (wf_lit (by omega) (by omega))
      have c5 := HF.out.v5.cell (k := 0) (by omega)
      have c7 := HF.out.v7.cell (k := 0) (by omega)
      subst hA
      by_cases hS : neg0 (l0.take k) y = true
      · rw [if_pos hS] at hrun
        have HT := Lib.hid (HTY.out hS)
        clear hS
        go_wp2_with fail
        go_ret
        exact ⟨ret_bool HT.out.symm, HF.out.bel⟩
      · rw [if_neg hS] at hrun
        have HT := Lib.hid (htt.out hS)
        clear hS
        have hlo : LitOk1 100000 (-y) := ⟨by omega, by omega, by omega⟩
        have HLO := Lib.hid hlo; clear hlo
        go_wp2_with fail
        refine (put_any w z b _ T n c todo (-y) _ HF.out HLO.out).mono ?_
        rintro e w2 ⟨⟨v, rfl⟩, hcase⟩
        have HN : Hid (∃ (T : Option Addr) (n c : Nat) (todo : List Int), FSt w w2 z b (neg0 (l0.take (k + 1))) T n c todo ∧ (∀ y, neg0 (l0.take (k + 1)) y = true → y ∈ todo) ∧ ¬ Taut (l0.take (k + 1))) := Lib.hid (by
          rcases hcase with ⟨h1, rfl⟩ | ⟨h1, T', c', h2⟩
          · have e1 := put1_of h1
            rw [hst.out] at e1
            rw [e1]
            exact ⟨T, n, c, todo, HF.out, HTD.out, HT.out⟩
          · rw [hst.out] at h2
            refine ⟨T', n + 1, c', _, h2, fun q hq => ?_, HT.out⟩
            rw [← hst.out] at hq
            simp only [put1, Bool.or_eq_true, beq_iff_eq] at hq
            rcases hq with hq | rfl
            · exact List.mem_append_left _ (HTD.out q hq)
            · simp)
        clear hcase c5 c7 hrun
        go_wp2_with fail
        go_roundw
        case rel => exact ⟨k + 1, by omega, by go_num, HN⟩
        case measure => simp [intOf]; omega
    · obtain rfl : k = l0.length := by omega
      have hU0 : Under w wr z b cs l0 (fun i => ∃ j' : Nat, 0 ≤ j' ∧ us[j']? = some (i : Int)) 1000000000000 := by
        have e : neg0 (l0.take l0.length) = neg0 l0 := by rw [List.take_length]
        refine ⟨neg0 l0, T, n, c, todo, by rw [← e]; exact HF.out, Reach.start, fun y h => h, Pending.start (fun y hy => HTD.out y (by rw [e]; exact hy)) (fun i q hq => ?_), ?_⟩
        · rcases HU.out.2.2 i q hq with h | h
          · obtain ⟨j, hj, e⟩ := List.mem_iff_getElem.1 h
            exact .inl ⟨j, Nat.zero_le _, by rw [List.getElem?_eq_getElem hj, e]⟩
          · exact .inr h
        · have h1 := HF.out.tl.1
          have h2 := HF.out.tn
          have h3 := cnt_le 100000 (neg0 (l0.take l0.length))
          omega
      have HNT2 : Hid (¬ Taut l0) := Lib.hid (by have := HNT.out; rwa [List.take_length] at this)
      have HU0 := Lib.hid hU0
      have hb2 := HF.out.hb.cell (k := 0) (by omega)
      obtain ⟨p0, p1, p2, p3⟩ := (HH.out.below HF.out.bel).at_
      clear hU0 HF HTD HNT
      go_wp2_with fail
      clear p0 p1 p2 p3 hb2
      go_loopw [39] (fun ix wi => ∃ j : Nat, j ≤ us.length ∧ ix = .int .i64 j ∧ Hid (Under w wi z b cs l0 (fun i => ∃ j' : Nat, j ≤ j' ∧ us[j']? = some (i : Int)) 1000000000000)) (fun ix _ => us.length - (intOf ix).toNat)
      case atStart => exact ⟨0, by omega, rfl, HU0⟩
      case round =>
        clear HU0
        obtain ⟨j, hj, rfl, HM⟩ := hrel
        obtain ⟨S, T, n, c, todo, hF, hre, hsu, hpe, hgh⟩ := HM.out
        clear HM
        have HF := Lib.hid hF; have HRE := Lib.hid hre; have HSU := Lib.hid hsu; have HPE := Lib.hid hpe; have HGH := Lib.hid hgh
        clear hF hre hsu hpe hgh
        by_cases hlt : j < us.length
        · have hji : (j : Int) < us.length := by omega
          obtain ⟨ba, oa, hA, x0⟩ := (HU.out.1.keeps (Keeps.of_below HF.out.bel)).at_ hlt
          obtain ⟨iN, hiN⟩ := Int.eq_ofNat_of_zero_le (HU.out.2.1 _ (getD_mem hlt)).1
          have hiL : iN < cs.length := by have := (HU.out.2.1 _ (getD_mem hlt)).2; omega
          have HUS : Hid (us[j]? = some (iN : Int)) := Lib.hid (by rw [← hiN, List.getD_eq_getElem?_getD, List.getElem?_eq_getElem hlt]; rfl)
          rw [hiN] at x0
          clear hiN
          have hcsi : cs[iN]? = some (cs.getD iN []) := by rw [List.getD_eq_getElem?_getD, List.getElem?_eq_getElem hiL]; rfl
          have HCI := Lib.hid hcsi
          have HCM := Lib.hid (List.mem_of_getElem? hcsi)
          clear hcsi
          generalize cs.getD iN [] = ci at *
          subst hA
          go_wp2_with fail
          refine (look_any w0 w b bm base vars cs vs A cc m D _ cu us (gAll cs) cs.length HH.out z S T n c todo iN ci _ HF.out HCI.out (HCL.out ci HCM.out) (HLEN.out ci HCM.out) hcs).mono ?_
          rintro e w2 hLP
          have hUL := Under.look (U' := fun i => ∃ j' : Nat, j + 1 ≤ j' ∧ us[j']? = some (i : Int)) HRE.out HSU.out HPE.out HGH.out HCI.out (fun q hq => by
            obtain ⟨j', h1, h2⟩ := hq
            by_cases e : j' = j
            · subst e
              rw [HUS.out] at h2
              injection h2 with h2
              left; omega
            · exact .inr ⟨j', by omega, h2⟩) hLP
          clear hLP
          rcases hUL with ⟨rfl, hfo, hbo⟩ | ⟨rfl, hun⟩
          · have HT := Lib.hid (tf_yes hfo)
            have HBO := Lib.hid hbo
            clear hfo hbo
            go_wp2_with fail
            go_ret
            exact ⟨ret_bool HT.out.symm, HBO.out⟩
          · have HUN := Lib.hid hun
            clear hun
            go_wp2_with fail
            go_roundw
            case rel => exact ⟨j + 1, by omega, by go_num, HUN⟩
            case measure => simp [intOf]; omega
        · obtain rfl : j = us.length := by omega
          have HU1 : Hid (Under w wr z b cs l0 (fun _ => False) 1000000000000) := Lib.hid ⟨S, T, n, c, todo, HF.out, HRE.out, HSU.out, fun i q hq => (HPE.out i q hq).imp id (fun h => h.imp id (fun ⟨j', h1, h2⟩ => by
            have := (List.getElem?_eq_some_iff.1 h2).1
            omega)), HGH.out⟩
          clear HF HRE HSU HPE HGH
          go_wp2_with fail
          go_loopg [13] 1000000000000 (fun g _ wi => Hid (Under w wi z b cs l0 (fun _ => False) g))
          case atStart => exact HU1
          case round =>
            clear HU1
            obtain ⟨S, T, n, c, todo, hF, hre, hsu, hpe, hgh⟩ := hrel.out
            have HF := Lib.hid hF; have HRE := Lib.hid hre; have HSU := Lib.hid hsu; have HPE := Lib.hid hpe; have HGH := Lib.hid hgh
            have hlen1 := hF.tl.1
            have c6 := hF.v6.cell (k := 0) (by omega)
            have f6 := hF.v6.thaw 0
            have HB := Lib.hid hF.bel
            have c2 := hF.hb.cell (k := 0) (by omega)
            clear hF hre hsu hpe hgh hrel
            cases todo with
            | nil =>
              have hn0 : n = 0 := by simpa using hlen1.symm
              subst hn0
              have HT := Lib.hid (tf_no (follows_no HNT2.out HSU.out HPE.out.calm))
              clear hlen1
              go_wp2_with fail
              go_ret
              exact ⟨ret_bool HT.out.symm, HB.out⟩
            | cons x rest =>
              have hn1 : 0 < n := by simp at hlen1; omega
              have hni : (0 : Int) < n := by omega
              have HL1 := Lib.hid hlen1; clear hlen1
              obtain ⟨gb, off, hTe, xh⟩ := HF.out.tl.head
              have hxl := Lib.hid (HF.out.lits x (by simp))
              subst hTe
              have hnc := HF.out.tl.2.1
              have HTL := Lib.hid (HF.out.tl.tail)
              have hlo : LitOk1 100000 (-x) := by have := hxl.out; obtain ⟨h1, h2, h3⟩ := this; exact ⟨by omega, by omega, by omega⟩
              obtain ⟨Az, cz, zs, hlk, hzr, hzl, hz1, hz2⟩ := HLK.out (-x) hlo
              have HLKX := Lib.hid hlk
              have HZ := Lib.hid (And.intro hzr (And.intro hz1 hz2))
              have hx1 := hxl.out.2.1
              have hx2 := hxl.out.2.2
              clear hlk hzr hz1 hz2 hlo
              go_upto_region 20 with (fail)
              have hcn : (1 : Int) ≤ n := by omega
              have hcc : (n : Int) ≤ c := by omega
              have hgk := HGH.out
              have HG1 : Hid (2 * (200001 - cnt 100000 S) + rest.length ≤ gk - 1) := Lib.hid (by simp at hgk; omega)
              have hgk1 : 1 ≤ gk := by simp at hgk; omega
              clear hgk
              rcases (show c = 1 ∨ 1 < c by omega) with hc1 | hc1
              all_goals first
                | (subst hc1
                   go_upto_region 21 with (fail)
                   have hn2 : n = 1 := by omega
                   have HF2 : Hid (FSt w (wr.setCell ⟨z + 1 + 1 + 1, 0, none⟩ (.slice (some ⟨gb, off, none⟩) 0 0)) z b S (some ⟨gb, off, none⟩) 0 0 rest) := Lib.hid (HF.out.queue (Only.refl _ wr) (by have := HTL.out.2 rfl; rw [hn2] at this; exact this) (fun q hq => HF.out.lits q (List.mem_cons_of_mem _ hq)) (Nat.zero_le _))
                   clear hn2
                   replace HF2 : Hid (∃ (T2 : Option Addr) (n2 c2 : Nat), FSt w (wr.setCell ⟨z + 1 + 1 + 1, 0, none⟩ (.slice (some ⟨gb, off, none⟩) 0 0)) z b S T2 n2 c2 rest) := Lib.hid ⟨_, _, _, HF2.out⟩
                   generalize wr.setCell ⟨z + 1 + 1 + 1, 0, none⟩ (.slice (some ⟨gb, off, none⟩) 0 0) = w2 at *)
                | (go_upto_region 21 with (fail)
                   have HF2 : Hid (FSt w (wr.setCell ⟨z + 1 + 1 + 1, 0, none⟩ (.slice (some ⟨gb, off + 1, none⟩) (n - 1) (c - 1))) z b S (some ⟨gb, off + 1, none⟩) (n - 1) (c - 1) rest) := Lib.hid (HF.out.queue (Only.refl _ wr) HTL.out.1 (fun q hq => HF.out.lits q (List.mem_cons_of_mem _ hq)) (by have := HF.out.tn; omega))
                   replace HF2 : Hid (∃ (T2 : Option Addr) (n2 c2 : Nat), FSt w (wr.setCell ⟨z + 1 + 1 + 1, 0, none⟩ (.slice (some ⟨gb, off + 1, none⟩) (n - 1) (c - 1))) z b S T2 n2 c2 rest) := Lib.hid ⟨_, _, _, HF2.out⟩
                   generalize wr.setCell ⟨z + 1 + 1 + 1, 0, none⟩ (.slice (some ⟨gb, off + 1, none⟩) (n - 1) (c - 1)) = w2 at *)
              all_goals
                clear c6 f6 c2 HB
                obtain ⟨T2, n2, c2, hF2⟩ := HF2.out
                have HB2 := Lib.hid hF2.bel
                have hb2 := hF2.hb.cell (k := 0) (by omega)
                obtain ⟨p0, p1, p2, p3⟩ := (HH.out.below hF2.bel).at_
                have hlk := HLKX.out w2 (by have := hF2.bel; rwa [HZZ.out] at this)
                have HU2 : Hid (Under w w2 z b cs l0 (fun i => ∃ j' : Nat, 0 ≤ j' ∧ zs[j']? = some (i : Int)) (gk - 1)) := Lib.hid ⟨S, T2, n2, c2, rest, hF2, HRE.out, HSU.out, fun i q hq => by
                  rcases HPE.out i q hq with h | ⟨y, hy, hyq⟩ | h
                  · exact .inl h
                  · rcases List.mem_cons.1 hy with rfl | hy
                    · obtain ⟨j, hj, e⟩ := List.mem_iff_getElem.1 (HZ.out.2.2 i ⟨q, hq, hyq⟩)
                      exact .inr (.inr ⟨j, Nat.zero_le _, by rw [List.getElem?_eq_getElem hj, e]⟩)
                    · exact .inr (.inl ⟨y, hy, hyq⟩)
                  · exact h.elim, HG1.out⟩
                clear hF2 HF2 HF HRE HSU HPE HGH HTL HL1 HG1
                go_wp2_with fail
                clear p0 p1 p2 p3 hb2 hlk
                go_loopw [63] (fun ix wi => ∃ j : Nat, j ≤ zs.length ∧ ix = .int .i64 j ∧ Hid (Under w wi z b cs l0 (fun i => ∃ j' : Nat, j ≤ j' ∧ zs[j']? = some (i : Int)) (gk - 1))) (fun ix _ => zs.length - (intOf ix).toNat)
                case atStart => exact ⟨0, by omega, rfl, HU2⟩
                case round =>
                  clear HU2
                  obtain ⟨j, hj, rfl, HM⟩ := hrel
                  obtain ⟨S, T, n, c, todo, hF, hre, hsu, hpe, hgh⟩ := HM.out
                  clear HM
                  have HF := Lib.hid hF; have HRE := Lib.hid hre; have HSU := Lib.hid hsu; have HPE := Lib.hid hpe; have HGH := Lib.hid hgh
                  clear hF hre hsu hpe hgh
                  by_cases hlt : j < zs.length
                  · have hji : (j : Int) < zs.length := by omega
                    obtain ⟨ba, oa, hA, x0⟩ := (HZ.out.1.keeps (Keeps.of_below HF.out.bel)).at_ hlt
                    obtain ⟨iN, hiN⟩ := Int.eq_ofNat_of_zero_le (HZ.out.2.1 _ (getD_mem hlt)).1
                    have hiL : iN < cs.length := by have := (HZ.out.2.1 _ (getD_mem hlt)).2; omega
                    have HUS : Hid (zs[j]? = some (iN : Int)) := Lib.hid (by rw [← hiN, List.getD_eq_getElem?_getD, List.getElem?_eq_getElem hlt]; rfl)
                    rw [hiN] at x0
                    clear hiN
                    have hcsi : cs[iN]? = some (cs.getD iN []) := by rw [List.getD_eq_getElem?_getD, List.getElem?_eq_getElem hiL]; rfl
                    have HCI := Lib.hid hcsi
                    have HCM := Lib.hid (List.mem_of_getElem? hcsi)
                    clear hcsi
                    generalize cs.getD iN [] = ci at *
                    subst hA
                    go_wp2_with fail
                    refine (look_any w0 w b bm base vars cs vs A cc m D _ cu us (gAll cs) cs.length HH.out z S T n c todo iN ci _ HF.out HCI.out (HCL.out ci HCM.out) (HLEN.out ci HCM.out) hcs).mono ?_
                    rintro e w3 hLP
                    have hUL := Under.look (U' := fun i => ∃ j' : Nat, j + 1 ≤ j' ∧ zs[j']? = some (i : Int)) HRE.out HSU.out HPE.out HGH.out HCI.out (fun q hq => by
                      obtain ⟨j', h1, h2⟩ := hq
                      by_cases e : j' = j
                      · subst e
                        rw [HUS.out] at h2
                        injection h2 with h2
                        left; omega
                      · exact .inr ⟨j', by omega, h2⟩) hLP
                    clear hLP
                    rcases hUL with ⟨rfl, hfo, hbo⟩ | ⟨rfl, hun⟩
                    · have HT := Lib.hid (tf_yes hfo)
                      have HBO := Lib.hid hbo
                      clear hfo hbo
                      go_wp2_with fail
                      go_ret
                      exact ⟨ret_bool HT.out.symm, HBO.out⟩
                    · have HUN := Lib.hid hun
                      clear hun
                      go_wp2_with fail
                      go_roundw
                      case rel => exact ⟨j + 1, by omega, by go_num, HUN⟩
                      case measure => simp [intOf]; omega
                  · obtain rfl : j = zs.length := by omega
                    have HU1 : Hid (Under w wr z b cs l0 (fun _ => False) (gk - 1)) := Lib.hid ⟨S, T, n, c, todo, HF.out, HRE.out, HSU.out, fun i q hq => (HPE.out i q hq).imp id (fun h => h.imp id (fun ⟨j', h1, h2⟩ => by
                      have := (List.getElem?_eq_some_iff.1 h2).1
                      omega)), HGH.out⟩
                    clear HF HRE HSU HPE HGH
                    go_wp2_with fail
                    go_roundg (gk - 1)
                    case measure => omega
                    case rel => exact HU1
end Go.Proofs.Ytkanekacjefcbaa
