/- aiger's cursor: the next line taken. Conditions: the text is shorter than 1000000000 bytes; internal/bytealg.MaxLen holds a number. -/
import Derived.Test.YtngjbiipgbeemaaDoorNmA
namespace Go.Proofs.YtngjbiipgbeemaaDoor
open Go.RowKit Go.Shelf Go.Deep

/-- the cursor: what is left of the text; the lines taken -/
def CurAt (w : World) (b : Nat) (rest : List UInt8) (n : Nat) : Prop := w.heap[b]? = some (.cells #[.string (bstr rest), .int .i64 (n : Int)] 55)
def LineNo (w' : World) (bc : Nat) (rest : List UInt8) (n : Nat) (e : Ending) : Prop := linA rest [] = [] ∧ tlA rest [] = rest ∧ e = .returned (.tuple #[.string ⟨#[]⟩, .bool false]) ∧ CurAt w' bc rest (n + 1)
def LineYes (w' : World) (bc : Nat) (rest : List UInt8) (n : Nat) (e : Ending) : Prop := ∃ l1 l2, rest = l1 ++ 10 :: l2 ∧ linA rest [] = l1 :: linA l2 [] ∧ tlA rest [] = tlA l2 [] ∧ e = .returned (.tuple #[.string (bstr l1), .bool true]) ∧ CurAt w' bc l2 (n + 1)
theorem only_drewN {S : Nat → Prop} {w : World} (n : Nat) : Only S w (w.drewN n) := (Only.refl S w).drewN n

set_option maxRecDepth 100000 in
set_option maxHeartbeats 4000000 in
theorem line_any (bc n : Nat) (rest : List UInt8) (w : World) (hc : CurAt w bc rest n) (hm : MaxT w) (hl : rest.length ≤ 1000000000) (hn : n ≤ 4000000000) :
    Calls Tryd.prog 35 #[.pointer (some ⟨bc, 0, none⟩)] w fun e w' => (LineNo w' bc rest n e ∨ LineYes w' bc rest n e) ∧ Only (fun k => k = bc) w w' := by
  obtain ⟨m, hm⟩ := hm
  have hcut := Tryd.strings_Cut (bstr rest) ⟨#[10]⟩ m w (by rw [bstr_size]; omega) hm
  rw [bstr_list] at hcut
  obtain ⟨⟨x0, x1⟩, xz⟩ := box2 hc
  have xz0 := xz 0
  have xz1 := xz 1
  have HC := Lib.hid hc
  rcases cut_line rest with ⟨e1, e2, e3⟩ | ⟨l1, l2, e0, e1, e2, e3⟩
  · rw [show (⟨#[10]⟩ : ByteArray).data.toList = [10] from rfl, e1] at hcut
    have HE := Lib.hid (And.intro e2 e3)
    have hcut : Calls Tryd.prog 40 #[.string (bstr rest), .string ⟨#[10]⟩] w fun e w' => e = .returned (.tuple #[.string (bstr rest), .string ⟨#[]⟩, .bool false]) ∧ ∃ k, w' = w.drewN k := hcut
    obtain ⟨s, hs⟩ : ∃ s, s = bstr rest := ⟨_, rfl⟩
    rw [← hs] at hcut x0
    have HS := Lib.hid hs
    clear e1 e2 e3 xz hc hs hm
    go_enter Tryd.func35, Tryd.ntmps35
    go_wp2_with fail
    refine hcut.mono ?_
    rintro e w1 ⟨rfl, k, hk⟩
    have hO : Only (fun j => j = bc) w w1 := by rw [hk]; exact only_drewN k
    have y0 : w1.cell? ⟨bc, 0, none⟩ = some (.string s) := by rw [hk]; exact x0
    have y1 : w1.cell? ⟨bc, 1, none⟩ = some (.int .i64 (n : Int)) := by rw [hk]; exact x1
    have yz0 : w1.frozen? ⟨bc, 0, none⟩ = false := by rw [hk]; exact xz0
    have yz1 : w1.frozen? ⟨bc, 1, none⟩ = false := by rw [hk]; exact xz1
    have HC1 : Hid (CurAt w1 bc rest n) := Lib.hid (by rw [hk]; exact HC.out)
    have HO := Lib.hid hO
    clear hk hcut x0 x1 xz0 xz1 hO
    go_wp2_with fail
    go_ret2
    refine ⟨.inl ⟨HE.out.1, HE.out.2, rfl, set2_1 HC1.out _⟩, HO.out.setCell (p := ⟨bc, 1, none⟩) (fun _ => rfl) _⟩
  · rw [show (⟨#[10]⟩ : ByteArray).data.toList = [10] from rfl, e1] at hcut
    have HE := Lib.hid (And.intro e0 (And.intro e2 e3))
    have hcut : Calls Tryd.prog 40 #[.string (bstr rest), .string ⟨#[10]⟩] w fun e w' => e = .returned (.tuple #[.string (bstr l1), .string (bstr l2), .bool true]) ∧ ∃ k, w' = w.drewN k := hcut
    obtain ⟨s, hs⟩ : ∃ s, s = bstr rest := ⟨_, rfl⟩
    rw [← hs] at hcut x0
    obtain ⟨s1, hs1⟩ : ∃ s, s = bstr l1 := ⟨_, rfl⟩
    obtain ⟨s2, hs2⟩ : ∃ s, s = bstr l2 := ⟨_, rfl⟩
    rw [← hs1, ← hs2] at hcut
    have HS := Lib.hid hs; have HS1 := Lib.hid hs1; have HS2 := Lib.hid hs2
    clear e0 e1 e2 e3 xz hc hs hs1 hs2 hm
    go_enter Tryd.func35, Tryd.ntmps35
    go_wp2_with fail
    refine hcut.mono ?_
    rintro e w1 ⟨rfl, k, hk⟩
    have hO : Only (fun j => j = bc) w w1 := by rw [hk]; exact only_drewN k
    have y0 : w1.cell? ⟨bc, 0, none⟩ = some (.string s) := by rw [hk]; exact x0
    have y1 : w1.cell? ⟨bc, 1, none⟩ = some (.int .i64 (n : Int)) := by rw [hk]; exact x1
    have yz0 : w1.frozen? ⟨bc, 0, none⟩ = false := by rw [hk]; exact xz0
    have yz1 : w1.frozen? ⟨bc, 1, none⟩ = false := by rw [hk]; exact xz1
    have HC1 : Hid (CurAt w1 bc rest n) := Lib.hid (by rw [hk]; exact HC.out)
    have HO := Lib.hid hO
    clear hk hcut x0 x1 xz0 xz1 hO
    go_wp2_with fail
    go_ret2
    refine ⟨.inr ⟨l1, l2, HE.out.1, HE.out.2.1, HE.out.2.2, by rw [HS1.out]; rfl, ?_⟩, (HO.out.setCell (p := ⟨bc, 1, none⟩) (fun _ => rfl) _).setCell (p := ⟨bc, 0, none⟩) (fun _ => rfl) _⟩
    have h1 := set2_1 HC1.out (.int .i64 ((n : Int) + 1))
    have h2 := set2_0 h1 (.string s2)
    unfold CurAt
    rw [← HS2.out]
    exact h2
end Go.Proofs.YtngjbiipgbeemaaDoor
