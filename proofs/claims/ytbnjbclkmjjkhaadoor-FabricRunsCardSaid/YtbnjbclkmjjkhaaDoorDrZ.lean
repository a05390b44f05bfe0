/- For the reference's Decode: the configuration that was read, whole or in part. No condition. -/
import Derived.Test.YtbnjbclkmjjkhaaDoorDrQ
namespace Go.Proofs.YtbnjbclkmjjkhaaDoor
open Go.RowKit Go.Shelf

/-- a configuration read in part -/
def cfJ (sh : Nat → Int) (n Nr No : Nat) (rows : Nat → Nat) (B : Nat → Nat → Int) (L : Nat → Nat → Nat → Int) (S : Nat → Int) (I : Nat → Bool) (X : Nat → Int) (AC AR AO : Option Addr) (cC cR cO : Nat) (CA : Nat → Option Addr) (cc : Nat → Nat) : Cf :=
  { sh := sh, nc := n, rows := rows, B := B, L := L, nr := Nr, RS := S, RI := I, no := No, O := X, AC := AC, AR := AR, AO := AO, cC := cC, cR := cR, cO := cO, CA := CA, cc := cc }
section
variable {W : World} {base b2 b3 n cC cR cO Nr No : Nat} {AC AR AO : Option Addr} {rows cc : Nat → Nat} {CA : Nat → Option Addr} {B : Nat → Nat → Int} {L : Nat → Nat → Nat → Int} {S : Nat → Int} {I : Nat → Bool} {X : Nat → Int} {sh : Nat → Int}
theorem cfJ_at (hC : RCols W base AC n cC rows CA cc B L) (hR : W.ownsRow b2 57 2 (.slice AR Nr cR) Nr (flatF 2 (fun k => two (.int .i64 (S k)) (.bool (I k))) Nr)) (hO : W.ownsRow b3 3 1 (.slice AO No cO) No (flatF 1 (fun k _ => .int .i64 (X k)) No)) :
    (cfJ sh n Nr No rows B L S I X AC AR AO cC cR cO CA cc).At W := by
  refine ⟨fun hn => ?_, fun i hi => (hC.cells i hi).row, (own_flat hR).row, (own_flat hO).row.one⟩
  obtain ⟨b, off, e, hc⟩ := own_row1 hC.own hn
  refine ⟨b, off, e, fun k hk => ?_⟩
  have hk2 : k < n := hk
  rw [hc k hk2]; simp [hk2, cfJ]
theorem cfJ_fits (hs : ShOk sh) (h1 : n ≤ 100) (h2 : ∀ j, j < n → rows j ≤ 500) (h3 : Nr ≤ 500) (h4 : No ≤ 500) : (cfJ sh n Nr No rows B L S I X AC AR AO cC cR cO CA cc).Fits := by
  have g0 := hs.s0; have g1 := hs.s1; have g2 := hs.s2; have g3 := hs.s3; have g4 := hs.s4
  refine ⟨by show n ≤ _; omega, fun i hi => ?_, by show Nr ≤ _; omega, by show No ≤ _; omega, fun i hi => ?_⟩
  · have := h2 i hi
    show rows i ≤ _; omega
  · show -9223372036854775808 ≤ sh i ∧ sh i ≤ 9223372036854775807
    obtain rfl | rfl | rfl | rfl | rfl : i = 0 ∨ i = 1 ∨ i = 2 ∨ i = 3 ∨ i = 4 := by omega
    all_goals omega
end
theorem dec_fits {l : List UInt8} {AC AR AO : Option Addr} {cC cR cO : Nat} {CA : Nat → Option Addr} {cc : Nat → Nat} (h : ShOk (shD l)) : ((dec l).lay AC AR AO cC cR cO CA cc).Fits := by
  have g := blank_fits (AC := AC) (cC := cC) (bR := 0) (bO := 0) (CB := fun _ => 0) h
  exact ⟨g.b1, g.b2, g.b3, g.b4, g.s⟩
theorem dec_at {b : List UInt8} {W : World} {base b2 b3 cC cR cO : Nat} {AC AR AO : Option Addr} {rows cc : Nat → Nat} {CA : Nat → Option Addr} {B : Nat → Nat → Int} {L : Nat → Nat → Nat → Int} {S : Nat → Int} {I : Nat → Bool} {X : Nat → Int}
    (hC : RCols W base AC (dec b).nc cC rows CA cc B L) (hG : ∀ j, j < (dec b).nc → rows j = tkv b 80 16 ∧ ColG b (B j) (L j) j (tkv b 80 16))
    (hR : W.ownsRow b2 57 2 (.slice AR (dec b).nr cR) (dec b).nr (flatF 2 (fun k => two (.int .i64 (S k)) (.bool (I k))) (dec b).nr)) (hS : ∀ m, m < (dec b).nr → S m = numD b (.rsel m) ∧ I m = (numD b (.init m) == 1))
    (hO : W.ownsRow b3 3 1 (.slice AO (dec b).no cO) (dec b).no (flatF 1 (fun k _ => .int .i64 (X k)) (dec b).no)) (hX : ∀ m, m < (dec b).no → X m = numD b (.out m)) :
    ((dec b).lay AC AR AO cC cR cO CA cc).At W := by
  have h := cfJ_at (sh := shD b) hC hR hO
  refine ⟨fun hn => ?_, fun i hi hn => ?_, fun hn => ?_, fun hn => ?_⟩
  · obtain ⟨p, off, e, hc⟩ := h.cols hn
    refine ⟨p, off, e, fun k hk => (hc k hk).trans ?_⟩
    show some (Value.slice (CA k) (rows k) (cc k)) = some (.slice (CA k) (tkv b 80 16) (cc k))
    rw [(hG k hk).1]
  · have hi2 : i < (dec b).nc := hi
    have e0 : rows i = tkv b 80 16 := (hG i hi2).1
    obtain ⟨p, off, e, hc⟩ := h.cells i hi2 (by show 0 < rows i; rw [e0]; exact hn)
    refine ⟨p, off, e, fun k hk j hj => ?_⟩
    have hk2 : k < tkv b 80 16 := hk
    rw [hc k (by show k < rows i; rw [e0]; exact hk2) j hj]
    have hg := (hG i hi2).2 k hk2
    obtain rfl | rfl | rfl | rfl | rfl : j = 0 ∨ j = 1 ∨ j = 2 ∨ j = 3 ∨ j = 4 := by omega
    · exact congrArg (fun x => some (Value.int .i64 x)) (hg.2 0 (by omega))
    · exact congrArg (fun x => some (Value.int .i64 x)) (hg.2 1 (by omega))
    · exact congrArg (fun x => some (Value.int .i64 x)) (hg.2 2 (by omega))
    · exact congrArg (fun x => some (Value.int .i64 x)) (hg.2 3 (by omega))
    · exact congrArg (fun x => some (Value.int .i64 x)) hg.1
  · obtain ⟨p, off, e, hc⟩ := h.regs hn
    refine ⟨p, off, e, fun k hk j hj => ?_⟩
    rw [hc k hk j hj]
    obtain rfl | rfl : j = 0 ∨ j = 1 := by omega
    · exact congrArg (fun x => some (Value.int .i64 x)) (hS k hk).1
    · exact congrArg (fun x => some (Value.bool x)) (hS k hk).2
  · obtain ⟨p, off, e, hc⟩ := h.outs hn
    exact ⟨p, off, e, fun k hk => (hc k hk).trans (congrArg (fun x => some (Value.int .i64 x)) (hX k hk))⟩
theorem be4_ne2 (c : Cf) : c.text ≠ [] := by unfold Cf.text be4; simp
end Go.Proofs.YtbnjbclkmjjkhaaDoor
