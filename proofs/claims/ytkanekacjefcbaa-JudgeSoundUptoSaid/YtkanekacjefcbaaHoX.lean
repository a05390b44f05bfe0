/- The law JudgeHolds, walked: it returns true. Conditions: the graphs, the pairs and the steps lie in memory, within the given bulk. How a certificate is opened. No condition. -/
import Derived.Test.YtkanekacjefcbaaHoH
import Derived.Test.YtkanekacjefcbaaHoC
import Derived.Test.YtkanekacjefcbaaRfZ
namespace Go.Proofs.Ytkanekacjefcbaa
open Go.RowKit

def oneG : G := { ins := 1, n1 := 0, n2 := 0, n3 := 0, L := fun _ => 0, I := fun _ => false, X := fun _ => 0, Y := fun _ => 0, O := fun _ => 0 }
theorem oneG_valid : oneG.Valid := ⟨by decide, by decide, by decide, by decide, by decide, fun j hj => absurd hj (by simp [oneG]), fun j hj => absurd hj (by simp [oneG]), fun j hj => absurd hj (by simp [oneG])⟩
theorem oneG_at (w : World) : oneG.At w none none none := ⟨fun h => absurd h (by simp [oneG]), fun h => absurd h (by simp [oneG]), fun h => absurd h (by simp [oneG])⟩
theorem oneG_fits : oneG.Fits := ⟨by decide, by decide, by decide, by decide⟩
theorem one_check (F : List (List Int)) (V : Int) (h0 : 0 ≤ V) (h1 : V ≤ 100000) (hf : ∀ c, c ∈ F → LitsOk V c) (he : ([] : List Int) ∈ F) : CheckP V F [[]] := by
  refine ⟨h0, h1, by simp, by simp, hf, fun i c hc => ?_⟩
  have hi : i = 0 := by have := (List.getElem?_eq_some_iff.1 hc).1; simpa using this
  subst hi
  obtain rfl : c = [] := by simpa using hc.symm
  exact ⟨fun l hl => (by simp at hl), follows_empty (by simp [he])⟩
theorem one_holds (P Q : Nat → Int) : HoldsP oneG oneG 0 P Q (fun _ => [[]]) := by
  refine ⟨⟨oneG_valid, oneG_valid, rfl, rfl⟩, fun i hi => absurd hi (by omega), fun k hk => ?_⟩
  obtain rfl | rfl | rfl : k = 0 ∨ k = 1 ∨ k = 2 := by omega
  · have e : formC (joint oneG oneG) oneG.n3 0 P Q 0 = [[-1], []] := rfl
    have v : formVars (joint oneG oneG) oneG.n3 0 0 = 2 := rfl
    rw [e, v]
    exact one_check _ _ (by omega) (by omega) (fun c hc l hl => by simp at hc; rcases hc with rfl | rfl <;> simp at hl; omega) (by simp)
  · have e : formC (joint oneG oneG) oneG.n3 0 P Q 1 = [[-1], [-3], []] := rfl
    have v : formVars (joint oneG oneG) oneG.n3 0 1 = 4 := rfl
    rw [e, v]
    exact one_check _ _ (by omega) (by omega) (fun c hc l hl => by simp at hc; rcases hc with rfl | rfl | rfl <;> simp at hl <;> omega) (by simp)
  · have e : formC (joint oneG oneG) oneG.n3 0 P Q 2 = [[-1], []] := rfl
    have v : formVars (joint oneG oneG) oneG.n3 0 2 = 2 := rfl
    rw [e, v]
    exact one_check _ _ (by omega) (by omega) (fun c hc l hl => by simp at hc; rcases hc with rfl | rfl <;> simp at hl; omega) (by simp)

def pick3 {α : Type} (x y z : α) : Nat → α
  | 0 => x
  | 1 => y
  | _ => z
theorem pick3_all {α : Type} {p : α → Prop} {x y z : α} (hx : p x) (hy : p y) (hz : p z) : ∀ k, p (pick3 x y z k)
  | 0 => hx
  | 1 => hy
  | _ + 2 => hz
theorem nil_mat {w : World} {b : Nat} (h : Arr w b 26 1 (fun j => #[Value.slice none 0 0].getD j undef)) : MatC w (some ⟨b, 0, none⟩) [[]] [.slice none 0 0] := by
  refine ⟨rfl, fun _ => ⟨_, 0, rfl, fun k hk => ?_⟩, fun i v l hv hl => ?_⟩
  · have hk' : k < 1 := hk
    obtain rfl : k = 0 := by omega
    exact h.cell (k := 0) (by simp)
  · have hi : i < 1 := (List.getElem?_eq_some_iff.1 hl).1
    obtain rfl : i = 0 := by omega
    obtain rfl : _ = l := Option.some.inj hl
    obtain rfl : _ = v := Option.some.inj hv
    exact ⟨_, _, rfl, fun h => absurd h (by simp)⟩
def oneW (w : World) : World := (((w.alloc (Obj.cells #[.int .i64 1, .slice none 0 0, .slice none 0 0, .slice none 0 0] 30)).alloc (Obj.cells #[.slice none 0 0] 26)).alloc (Obj.cells #[.slice none 0 0] 26)).alloc (Obj.cells #[.slice none 0 0] 26)
def oneA (z : Nat) : Nat → Option Addr := pick3 (some ⟨z + 1, 0, none⟩) (some ⟨z + 1 + 1, 0, none⟩) (some ⟨z + 1 + 1 + 1, 0, none⟩)
theorem one_mat (w : World) : (∀ k, MatC (oneW w) (oneA w.heap.size k) [[]] [.slice none 0 0]) ∧ Below w.heap.size w (oneW w) := by
  unfold oneW
  have b0 : Below w.heap.size w (w.alloc (Obj.cells #[.int .i64 1, .slice none 0 0, .slice none 0 0, .slice none 0 0] 30)) := (Below.refl _ _).alloc (Nat.le_refl _) _
  have s0 : (w.alloc (Obj.cells #[.int .i64 1, .slice none 0 0, .slice none 0 0, .slice none 0 0] 30)).heap.size = w.heap.size + 1 := by simp
  generalize w.alloc (Obj.cells #[.int .i64 1, .slice none 0 0, .slice none 0 0, .slice none 0 0] 30) = v1 at *
  have h1 := Arr.new v1 #[.slice none 0 0] 26
  rw [s0] at h1
  replace b0 := b0.alloc (by omega) (.cells #[.slice none 0 0] 26)
  have s1 : (v1.alloc (.cells #[.slice none 0 0] 26)).heap.size = w.heap.size + 1 + 1 := by simp [s0]
  generalize v1.alloc (.cells #[.slice none 0 0] 26) = v2 at *
  have h2 := Arr.new v2 #[.slice none 0 0] 26
  rw [s1] at h2
  replace h1 := Arr.alloc h1 (.cells #[.slice none 0 0] 26)
  replace b0 := b0.alloc (by omega) (.cells #[.slice none 0 0] 26)
  clear s0
  have h0 := h1
  have s2 : (v2.alloc (.cells #[.slice none 0 0] 26)).heap.size = w.heap.size + 1 + 1 + 1 := by simp [s1]
  generalize v2.alloc (.cells #[.slice none 0 0] 26) = v3 at *
  have h3 := Arr.new v3 #[.slice none 0 0] 26
  rw [s2] at h3
  replace h1 := Arr.alloc h1 (.cells #[.slice none 0 0] 26)
  replace h2 := Arr.alloc h2 (.cells #[.slice none 0 0] 26)
  replace b0 := b0.alloc (by omega) (.cells #[.slice none 0 0] 26)
  exact ⟨pick3_all (p := fun A => MatC (v3.alloc (.cells #[.slice none 0 0] 26)) A [[]] [.slice none 0 0]) (nil_mat h1) (nil_mat h2) (nil_mat h3), b0⟩

set_option maxHeartbeats 8000000 in
set_option maxRecDepth 100000 in
theorem judgeHolds_walk (a : G) (A1 A2 A3 : Option Addr) (c1 c2 c3 : Nat) (b : G) (B1 B2 B3 : Option Addr) (d1 d2 d3 : Nat) (PA : Option Addr) (np pc : Nat) (P Q : Nat → Int) (SA : Nat → Option Addr) (sc : Nat → Nat) (St : Nat → List (List Int)) (vst : Nat → List Value) (w : World) (ha : a.At w A1 A2 A3) (hfa : a.Fits) (hb : b.At w B1 B2 B3) (hfb : b.Fits)
    (hp : RowS w 2 PA np (fun k => two (.int .i64 (P k)) (.int .i64 (Q k)))) (hnp : np ≤ 1048576) (hS : ∀ k, MatC w (SA k) (St k) (vst k)) (hs1 : ∀ k, (St k).length ≤ 1048576) (hs2 : ∀ k, tot (St k) ≤ 1048576) :
    Calls Try.prog 4 #[.agg #[.int .i64 a.ins, .slice A1 a.n1 c1, .slice A2 a.n2 c2, .slice A3 a.n3 c3], .agg #[.int .i64 b.ins, .slice B1 b.n1 d1, .slice B2 b.n2 d2, .slice B3 b.n3 d3], .agg #[.slice PA np pc, .slice (SA 0) (St 0).length (sc 0), .slice (SA 1) (St 1).length (sc 1), .slice (SA 2) (St 2).length (sc 2)]] w fun e w' => e = .returned (.bool true) ∧ Below w.heap.size w w' := by
  have HSM := Lib.hid hS; have HS1 := Lib.hid hs1; have HS2 := Lib.hid hs2; clear hS hs1 hs2
  go_enter Try.func4, Try.ntmps4
  go_upto_region 1 with (fail)
  have qa := BoxAt.new w [.int .i64 a.ins, .slice A1 a.n1 c1, .slice A2 a.n2 c2, .slice A3 a.n3 c3] 30
  have hbl : Below w.heap.size w (w.alloc (.cells #[.int .i64 a.ins, .slice A1 a.n1 c1, .slice A2 a.n2 c2, .slice A3 a.n3 c3] 30)) := (Below.refl _ _).alloc (Nat.le_refl _) _
  have hz1 : (w.alloc (.cells #[.int .i64 a.ins, .slice A1 a.n1 c1, .slice A2 a.n2 c2, .slice A3 a.n3 c3] 30)).heap.size = w.heap.size + 1 := by simp
  generalize w.alloc (.cells #[.int .i64 a.ins, .slice A1 a.n1 c1, .slice A2 a.n2 c2, .slice A3 a.n3 c3] 30) = v1 at *
  have qb := BoxAt.new v1 [.int .i64 b.ins, .slice B1 b.n1 d1, .slice B2 b.n2 d2, .slice B3 b.n3 d3] 30
  rw [hz1] at qb
  replace qa := qa.keeps (Keeps.alloc v1 (.cells #[.int .i64 b.ins, .slice B1 b.n1 d1, .slice B2 b.n2 d2, .slice B3 b.n3 d3] 30))
  replace hbl := hbl.alloc (by omega) (.cells #[.int .i64 b.ins, .slice B1 b.n1 d1, .slice B2 b.n2 d2, .slice B3 b.n3 d3] 30)
  have hz2 : (v1.alloc (.cells #[.int .i64 b.ins, .slice B1 b.n1 d1, .slice B2 b.n2 d2, .slice B3 b.n3 d3] 30)).heap.size = w.heap.size + 1 + 1 := by simp [hz1]
  generalize v1.alloc (.cells #[.int .i64 b.ins, .slice B1 b.n1 d1, .slice B2 b.n2 d2, .slice B3 b.n3 d3] 30) = v2 at *
  clear hz1
  have qc := BoxAt.new v2 [.slice PA np pc, .slice (SA 0) (St 0).length (sc 0), .slice (SA 1) (St 1).length (sc 1), .slice (SA 2) (St 2).length (sc 2)] 32
  rw [hz2] at qc
  replace qa := qa.keeps (Keeps.alloc v2 (.cells #[.slice PA np pc, .slice (SA 0) (St 0).length (sc 0), .slice (SA 1) (St 1).length (sc 1), .slice (SA 2) (St 2).length (sc 2)] 32))
  replace qb := qb.keeps (Keeps.alloc v2 (.cells #[.slice PA np pc, .slice (SA 0) (St 0).length (sc 0), .slice (SA 1) (St 1).length (sc 1), .slice (SA 2) (St 2).length (sc 2)] 32))
  replace hbl := hbl.alloc (by omega) (.cells #[.slice PA np pc, .slice (SA 0) (St 0).length (sc 0), .slice (SA 1) (St 1).length (sc 1), .slice (SA 2) (St 2).length (sc 2)] 32)
  have hz3 : (v2.alloc (.cells #[.slice PA np pc, .slice (SA 0) (St 0).length (sc 0), .slice (SA 1) (St 1).length (sc 1), .slice (SA 2) (St 2).length (sc 2)] 32)).heap.size = w.heap.size + 1 + 1 + 1 := by simp [hz2]
  generalize v2.alloc (.cells #[.slice PA np pc, .slice (SA 0) (St 0).length (sc 0), .slice (SA 1) (St 1).length (sc 1), .slice (SA 2) (St 2).length (sc 2)] 32) = w1 at *
  clear hz2
  have HB1 := Lib.hid hbl; clear hbl
  have hs1 : w.heap.size + 3 ≤ w1.heap.size := by omega
  clear hz3
  go_wp2_with fail
  obtain ⟨hM, hbW⟩ := one_mat w1
  refine (holds_any oneG oneG none none none none none none 0 0 0 0 0 0 none 0 0 (fun _ => 0) (fun _ => 0) (oneA w1.heap.size) (fun _ => 1) (fun _ => [[]]) (fun _ => [.slice none 0 0]) (oneW w1) (oneG_at _) (oneG_at _) oneG_fits oneG_fits (fun h => absurd h (by omega)) (by omega) hM (fun _ => by simp) (fun _ => by simp [tot])).mono ?_
  rintro e w2 ⟨rfl, hb2⟩
  rw [tf_yes (one_holds _ _)]
  have HB2 : Hid (Below w.heap.size w w2) := Lib.hid ((HB1.out.trans (hbW.mono (by omega))).trans (hb2.mono (by have := hbW.size; omega)))
  have hk2 := (Keeps.of_below hbW).trans (Keeps.of_below hb2)
  replace qa := qa.keeps hk2
  replace qb := qb.keeps hk2
  replace qc := qc.keeps hk2
  clear hk2 hb2 hbW hM HB1 hs1
  obtain ⟨g0, g1, g2, g3⟩ := qa.four
  obtain ⟨h0, h1, h2, h3⟩ := qb.four
  obtain ⟨p0, p1, p2, p3⟩ := qc.four
  go_wp2_with fail
  refine (holds_any a b A1 A2 A3 B1 B2 B3 c1 c2 c3 d1 d2 d3 PA np pc P Q SA sc St vst w2 (ha.keeps (Keeps.of_below HB2.out)) (hb.keeps (Keeps.of_below HB2.out)) hfa hfb (hp.keeps (Keeps.of_below HB2.out)) hnp (fun k => (HSM.out k).keeps (Keeps.of_below HB2.out)) HS1.out HS2.out).mono ?_
  rintro e w3 ⟨rfl, hb3⟩
  have HB3 := Lib.hid (HB2.out.trans (hb3.mono HB2.out.size))
  replace qa := qa.keeps (Keeps.of_below hb3)
  replace qb := qb.keeps (Keeps.of_below hb3)
  replace qc := qc.keeps (Keeps.of_below hb3)
  clear hb3 g0 g1 g2 g3 h0 h1 h2 h3 p0 p1 p2 p3
  obtain ⟨g0, g1, g2, g3⟩ := qa.four
  obtain ⟨h0, h1, h2, h3⟩ := qb.four
  obtain ⟨p0, p1, p2, p3⟩ := qc.four
  obtain ⟨r, hr⟩ : ∃ r, r = tf (HoldsP a b np P Q St) := ⟨_, rfl⟩
  rw [← hr]
  have HR := Lib.hid hr; clear hr
  go_wp2_with fail
  refine (certain_any a b A1 A2 A3 B1 B2 B3 c1 c2 c3 d1 d2 d3 PA np pc P Q SA sc St vst w3 (ha.keeps (Keeps.of_below HB3.out)) (hb.keeps (Keeps.of_below HB3.out)) hfa hfb (hp.keeps (Keeps.of_below HB3.out)) hnp (fun k => (HSM.out k).keeps (Keeps.of_below HB3.out)) HS1.out HS2.out).mono ?_
  rintro e w4 ⟨rfl, hb4⟩
  have HB4 := Lib.hid (HB3.out.trans (hb4.mono HB3.out.size))
  clear hb4
  rw [← HR.out]
  go_wp2_with fail
  go_ret
  exact ⟨ret_bool (by simp), HB4.out⟩
end Go.Proofs.Ytkanekacjefcbaa
namespace Go.Proofs.Ytkanekacjefcbaa
open Go.RowKit Go.ChangeShapes Go.WideShapes Go.Deep

theorem open_pairsH {N : Nat} {H : Type} {enc : TypeId × Value → H} {w : World} {cs : List Value} (h : Good N enc Try.prog w 28 cs) :
    ∃ (A : Option Addr) (n c : Nat) (X Y : Nat → Int), cs = [.slice A n c] ∧ n ≤ N ∧ RowS w 2 A n (fun k => two (.int .i64 (X k)) (.int .i64 (Y k))) := by
  obtain ⟨A, n, c, f, e, hn, _, hN, _⟩ := good_slice 2 Try.cellsPair (by omega) Try.underlying28 h
  obtain ⟨A', n', c', X, Y, e', _, hr⟩ := open_pairs h
  rw [e] at e'
  obtain ⟨rfl, rfl, rfl⟩ : A = A' ∧ n = n' ∧ c = c' := by simpa using e'
  exact ⟨A, n, c, X, Y, e, by omega, hr⟩
theorem Try.cellsPairsH : Try.prog.cellsOf 28 = 1 := by kernel_rfl
theorem Try.cellsCertH : Try.prog.cellsOf 32 = 4 := by kernel_rfl
theorem open_cert {N : Nat} {H : Type} {enc : TypeId × Value → H} {w : World} {cs : List Value} (h : Good N enc Try.prog w 32 cs) :
    ∃ (PA : Option Addr) (np pc : Nat) (P Q : Nat → Int) (SA : Nat → Option Addr) (sc : Nat → Nat) (St : Nat → List (List Int)) (vst : Nat → List Value), cs = [.slice PA np pc, .slice (SA 0) (St 0).length (sc 0), .slice (SA 1) (St 1).length (sc 1), .slice (SA 2) (St 2).length (sc 2)] ∧
      RowS w 2 PA np (fun k => two (.int .i64 (P k)) (.int .i64 (Q k))) ∧ np ≤ N ∧ (∀ k, MatC w (SA k) (St k) (vst k)) ∧ (∀ k, (St k).length ≤ N) ∧ ∀ k, tot (St k) ≤ N := by
  have hlen := good_len Try.underlying32 h Try.cellsCertH
  obtain ⟨v0, v1, v2, v3, rfl⟩ : ∃ a b c d, cs = [a, b, c, d] := by
    match cs, hlen with
    | [a, b, c, d], _ => exact ⟨a, b, c, d, rfl⟩
  obtain ⟨PA, np, pc, P, Q, e0, hnp, hp⟩ := open_pairsH (good_field Try.underlying32 h 0 _ 1 0 rfl Try.cellsPairsH)
  obtain ⟨S0, s0, F0, f0, e1, m0, l0, t0⟩ := open_clauses (good_field Try.underlying32 h 1 _ 1 1 rfl Try.cellsMatR)
  obtain ⟨S1, s1, F1, f1, e2, m1, l1, t1⟩ := open_clauses (good_field Try.underlying32 h 2 _ 1 2 rfl Try.cellsMatR)
  obtain ⟨S2, s2, F2, f2, e3, m2, l2, t2⟩ := open_clauses (good_field Try.underlying32 h 3 _ 1 3 rfl Try.cellsMatR)
  simp at e0 e1 e2 e3
  subst e0; subst e1; subst e2; subst e3
  refine ⟨PA, np, pc, P, Q, pick3 S0 S1 S2, pick3 s0 s1 s2, pick3 F0 F1 F2, pick3 f0 f1 f2, rfl, hp, hnp, fun k => ?_, fun k => ?_, fun k => ?_⟩
  · match k with
    | 0 => exact m0
    | 1 => exact m1
    | _ + 2 => exact m2
  · match k with
    | 0 => exact l0
    | 1 => exact l1
    | _ + 2 => exact l2
  · match k with
    | 0 => exact t0
    | 1 => exact t1
    | _ + 2 => exact t2
end Go.Proofs.Ytkanekacjefcbaa
