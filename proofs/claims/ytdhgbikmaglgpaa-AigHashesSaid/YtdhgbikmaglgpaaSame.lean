/- The reference's States, SameBools and SameRows, walked. Conditions: what they are handed lies in memory. -/
import Derived.Test.YtdhgbikmaglgpaaRefCyc
import Derived.Deep.QuietTactic
import Derived.BigQuiet
namespace Go.Proofs.Ytdhgbikmaglgpaa
open Go.RowKit

set_option maxHeartbeats 400000 in
theorem states_any (g : G) (A1 A2 A3 : Option Addr) (c1 c2 c3 : Nat) (w : World) (hg : g.At w A1 A2 A3) (hn : g.n1 ≤ 6000) :
    Calls Try.prog 89 #[.agg #[.int .i64 g.ins, .slice A1 g.n1 c1, .slice A2 g.n2 c2, .slice A3 g.n3 c3]] w (RetBits w g.n1 g.I) := by
  go_enter Try.func89, Try.ntmps89
  go_wp2_with fail
  have hbox := BoxAt.new w [.int .i64 g.ins, .slice A1 g.n1 c1, .slice A2 g.n2 c2, .slice A3 g.n3 c3] 26
  have hg1 := hg.keeps (Keeps.alloc w (.cells #[.int .i64 g.ins, .slice A1 g.n1 c1, .slice A2 g.n2 c2, .slice A3 g.n3 c3] 26))
  have hb1 := (Below.refl w.heap.size w).alloc (Nat.le_refl _) (.cells #[.int .i64 g.ins, .slice A1 g.n1 c1, .slice A2 g.n2 c2, .slice A3 g.n3 c3] 26)
  generalize w.alloc (.cells #[.int .i64 g.ins, .slice A1 g.n1 c1, .slice A2 g.n2 c2, .slice A3 g.n3 c3] 26) = w1 at *
  go_loopw [3, 4] (fun v i wr => ∃ (k : Nat) (A : Option Addr) (c : Nat), k ≤ g.n1 ∧ i = .int .i64 k ∧ v = .slice A k c ∧ GrowB w1 A k c g.I wr) (fun _ i _ => g.n1 - (intOf i).toNat)
  case atStart => exact ⟨0, _, _, by omega, rfl, rfl, GrowB.start _ _⟩
  case round =>
    obtain ⟨k, A, c, hk, rfl, rfl, H⟩ := hrel
    have hkp := Lib.hid (Grow.keeps H)
    have hsz := H.size
    obtain ⟨g0, g1, g2, g3⟩ := (hbox.keeps hkp.out).four
    by_cases hlt : k < g.n1
    · obtain ⟨b1, o1, rfl, _, x0⟩ := (hg1.keeps hkp.out).lat.at2 hlt
      simp only [two] at x0
      go_wp2_with (at_builtin; refine wp_append rfl (.tmp 12) (.tmp 19) _ rfl elBool w1.heap.size A k c _ rfl (Grow.alloc H _).own _ 1 1 [.bool (g.I k)] rfl (src_new _ _ _ rfl) (by omega) (sz_alloc H.size) ?_; intro A' c' w1 ho hk' hb')
      go_roundw
      case rel => exact ⟨k + 1, A', c', by omega, by go_num, rfl, GrowB.push (Grow.alloc H _) ho hk' (fun _ _ => rfl) rfl⟩
      case measure => simp [intOf]; omega
    · obtain rfl : k = g.n1 := by omega
      go_wp2_with fail
      go_ret
      exact ⟨_, _, rfl, own_mono H.own (by have := hb1.size; omega), Below.then_call hb1 H.bel hb1.size⟩

theorem Keeps.drewN (w : World) (n : Nat) : Keeps w (w.drewN n) := fun _ _ h => h
/-- nothing but draws has happened -/
def Drawn (w wr : World) : Prop := ∃ q, wr = w.drewN q
theorem Drawn.keeps {w wr : World} (h : Drawn w wr) : Keeps w wr := by obtain ⟨q, rfl⟩ := h; exact Keeps.drewN _ _
theorem Drawn.more {w wr : World} (h : Drawn w wr) (n : Nat) : Drawn w (wr.drewN n) := by obtain ⟨q, rfl⟩ := h; exact ⟨q + n, World.drewN_drewN _ _ _⟩

/-- a bool, in a world in which nothing but draws has happened -/
def RetQ (b : Bool) (w : World) (e : Ending) (w' : World) : Prop := e = .returned (.bool b) ∧ ∃ n, w' = w.drewN n

/-- are two rows the same? -/
def RowsEq (n m : Nat) (V U : Nat → Bool) : Prop := n = m ∧ ∀ j, j < n → V j = U j

set_option maxHeartbeats 400000 in
theorem sameBools_any (A B : Option Addr) (n m c d : Nat) (V U : Nat → Bool) (w : World) (ha : Bits w A n V) (hb : Bits w B m U) (hn : n ≤ 1000000000000000) :
    Calls Try.prog 88 #[.slice A n c, .slice B m d] w (RetQ (tf (RowsEq n m V U)) w) := by
  by_cases hnm : n = m
  · subst hnm
    go_enter Try.func88, Try.ntmps88
    have hq : ((n : Int) != (n : Int)) = false := by simp
    go_wp2_with fail
    go_loopw [5] (fun i wr => ∃ k : Nat, k ≤ n ∧ i = .int .i64 k ∧ Drawn w wr ∧ Hid (∀ j, j < k → V j = U j)) (fun i _ => n - (intOf i).toNat)
    case atStart => exact ⟨0, by omega, rfl, ⟨0, rfl⟩, fun j hj => by omega⟩
    case round =>
      obtain ⟨k, hk, rfl, HD, HA⟩ := hrel
      by_cases hlt : k < n
      · obtain ⟨b1, o1, rfl, x0⟩ := (ha.keeps HD.keeps).at_ hlt
        obtain ⟨b2, o2, rfl, y0⟩ := (hb.keeps HD.keeps).at_ hlt
        by_cases hvu : V k = U k
        · have hx : (!(V k == U k)) = false := by simp [hvu]
          go_wp2_with fail
          go_quiet (fail)
          go_wp2_with fail
          exact ⟨⟨k + 1, by omega, by go_num, HD.more _, fun j hj => if e : j = k then e ▸ hvu else HA.out j (by omega)⟩, by simp [intOf]; omega⟩
        · have hx : (!(V k == U k)) = true := by simp [hvu]
          go_wp2_with fail
          go_quiet (fail)
          go_wp2_with fail
          go_ret
          exact ⟨by rw [tf_no (fun h => hvu (h.2 k hlt))]; rfl, HD.more _⟩
      · go_wp2_with fail
        go_ret
        obtain rfl : k = n := by omega
        exact ⟨by rw [tf_yes ⟨rfl, HA.out⟩]; rfl, HD⟩
  · go_enter Try.func88, Try.ntmps88
    have hq : ((n : Int) != (m : Int)) = true := by rw [bne_iff_ne]; omega
    go_wp2_with fail
    go_ret
    exact ⟨by rw [tf_no (fun h => hnm h.1)]; rfl, 0, rfl⟩

/-- a slice of n rows of bools -/
def Mat (w : World) (A : Option Addr) (n : Nat) (len : Nat → Nat) (R : Nat → Nat → Bool) : Prop :=
  ∃ (RA : Nat → Option Addr) (RC : Nat → Nat), Row1 w A n (fun i => .slice (RA i) (len i) (RC i)) ∧ ∀ i, i < n → Bits w (RA i) (len i) (R i)
theorem Mat.keeps {w w1 : World} {A : Option Addr} {n : Nat} {len : Nat → Nat} {R : Nat → Nat → Bool} (h : Mat w A n len R) (k : Keeps w w1) : Mat w1 A n len R := by
  obtain ⟨RA, RC, h1, h2⟩ := h
  exact ⟨RA, RC, h1.keeps k, fun i hi => (h2 i hi).keeps k⟩
def MatEq (n m : Nat) (ln lm : Nat → Nat) (R R' : Nat → Nat → Bool) : Prop := n = m ∧ ∀ i, i < n → RowsEq (ln i) (lm i) (R i) (R' i)

set_option maxHeartbeats 400000 in
theorem sameRows_any (A B : Option Addr) (n m c d : Nat) (ln lm : Nat → Nat) (R R' : Nat → Nat → Bool) (w : World) (ha : Mat w A n ln R) (hb : Mat w B m lm R') (hn : n ≤ 1000000000000000)
    (hl : ∀ i, i < n → ln i ≤ 1000000000000000) :
    Calls Try.prog 40 #[.slice A n c, .slice B m d] w (RetQ (tf (MatEq n m ln lm R R')) w) := by
  by_cases hnm : n = m
  · subst hnm
    go_enter Try.func40, Try.ntmps40
    have hq : ((n : Int) != (n : Int)) = false := by simp
    have HL := Lib.hid hl; clear hl
    obtain ⟨RA, RC, ha1, ha2⟩ := ha
    obtain ⟨RB, RD, hb1, hb2⟩ := hb
    have HA2 := Lib.hid ha2; have HB2 := Lib.hid hb2; clear ha2 hb2
    go_wp2_with fail
    go_loopw [5] (fun i wr => ∃ k : Nat, k ≤ n ∧ i = .int .i64 k ∧ Drawn w wr ∧ Hid (∀ j, j < k → RowsEq (ln j) (lm j) (R j) (R' j))) (fun i _ => n - (intOf i).toNat)
    case atStart => exact ⟨0, by omega, rfl, ⟨0, rfl⟩, fun j hj => by omega⟩
    case round =>
      obtain ⟨k, hk, rfl, HD, HA⟩ := hrel
      by_cases hlt : k < n
      · obtain ⟨b1, o1, rfl, x0⟩ := (ha1.keeps HD.keeps).at_ hlt
        obtain ⟨b2, o2, rfl, y0⟩ := (hb1.keeps HD.keeps).at_ hlt
        have hc := fun W (hW : Keeps w W) => sameBools_any _ _ _ _ (RC k) (RD k) _ _ W ((HA2.out k hlt).keeps hW) ((HB2.out k hlt).keeps hW) (HL.out k hlt)
        have HC := Lib.hid hc; clear hc
        by_cases hvu : RowsEq (ln k) (lm k) (R k) (R' k)
        · have hx : tf (RowsEq (ln k) (lm k) (R k) (R' k)) = true := tf_yes hvu
          have HV := Lib.hid hvu; clear hvu
          go_wp2_with fail
          go_quiet ((go_at_call 88; refine (HC.out _ (HD.more _).keeps).mono ?_; rintro e w' ⟨rfl, n', rfl⟩; exact ⟨rfl, _, World.drewN_drewN _ _ _⟩))
          go_wp2_with fail
          exact ⟨⟨k + 1, by omega, by go_num, HD.more _, fun j hj => if e : j = k then e ▸ HV.out else HA.out j (by omega)⟩, by simp [intOf]; omega⟩
        · have hx : tf (RowsEq (ln k) (lm k) (R k) (R' k)) = false := tf_no hvu
          have HV := Lib.hid hvu; clear hvu
          go_wp2_with fail
          go_quiet ((go_at_call 88; refine (HC.out _ (HD.more _).keeps).mono ?_; rintro e w' ⟨rfl, n', rfl⟩; exact ⟨rfl, _, World.drewN_drewN _ _ _⟩))
          go_wp2_with fail
          go_ret
          exact ⟨by rw [tf_no (p := MatEq n n ln lm R R') (fun h => HV.out (h.2 k hlt))]; rfl, HD.more _⟩
      · go_wp2_with fail
        go_ret
        obtain rfl : k = n := by omega
        exact ⟨by rw [tf_yes (p := MatEq _ _ ln lm R R') ⟨rfl, HA.out⟩]; rfl, HD⟩
  · go_enter Try.func40, Try.ntmps40
    have hq : ((n : Int) != (m : Int)) = true := by rw [bne_iff_ne]; omega
    go_wp2_with fail
    go_ret
    exact ⟨by rw [tf_no (fun h => hnm h.1)]; rfl, 0, rfl⟩

end Go.Proofs.Ytdhgbikmaglgpaa
