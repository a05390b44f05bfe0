/- slices.Grow and slices.Concat at []int, walked: Concat of two slices is a new slice of both. Condition: the slices lie in memory and are not too long. -/
import Derived.Test.YtdhgbikmaglgpaaOwn
import Derived.Test.YtdhgbikmaglgpaaGraph
import Derived.Deep.DeepAppendRoom
import Derived.Lib.AppendZeros
namespace Go.Proofs.Ytdhgbikmaglgpaa
open Go.RowKit

/-- a slice of ints -/
def Ints (w : World) (A : Option Addr) (n : Nat) (X : Nat → Int) : Prop := Row1 w A n (fun k => .int .i64 (X k))
theorem Ints.keeps {w w1 : World} {A : Option Addr} {n : Nat} {X : Nat → Int} (h : Ints w A n X) (k : Keeps w w1) : Ints w1 A n X := Row1.keeps h k
def OwnInts (w : World) (base : Nat) (A : Option Addr) (n c : Nat) (X : Nat → Int) : Prop := w.ownsRow base 3 1 (.slice A n c) n ((List.range n).map fun k => .int .i64 (X k))
theorem OwnInts.ints {w : World} {base : Nat} {A : Option Addr} {n c : Nat} {X : Nat → Int} (h : OwnInts w base A n c X) : Ints w A n X := fun hn => by
  obtain ⟨b, off, e, hc⟩ := own_row1 h hn
  refine ⟨b, off, e, fun k hk => ?_⟩
  rw [hc k hk]
  simp [hk]
theorem elInt : Elem Try.prog 24 3 1 8 := elem_mk Try.underlying24 (z := .int .i64 0) (by kernel_rfl) rfl (by omega) (by omega)

/-- 'append(s, x...)' where there is room -/
theorem wp_append_room {P : Program} {w : World} {ops : Array Oper} {rest : List Oper} {o : Oper} {a : Act} {Q : Exit → Act → World → Prop} (hgd : o.guard = none) (s x : Operand) (t : TypeId)
    (ho : o.op = .call { callee := .builtin .append, args := #[s, x], argTypes := #[t, t] })
    {e : TypeId} {size bytes : Nat} (hE : Elem P t e size bytes) (base : Nat) (A : Option Addr) (n c : Nat) (xs : List Value) (hs : a.eval s = .slice A n c) (hown : w.ownsRow base e size (.slice A n c) n xs)
    (D : Option Addr) (m d : Nat) (news : List Value) (hx : a.eval x = .slice D m d) (hsrc : Src w size D m news) (hroom : n + m ≤ c)
    (h : ∀ w', w'.ownsRow base e size (.slice A (n + m) c) (n + m) (xs ++ news) → Only (blockOf A) w w' → wpList P ops Q rest (a.put o.dst (.slice A (n + m) c)) w') :
    wpList P ops Q (o :: rest) a w := by
  obtain ⟨i, z, ht, hi, hz, hsz, hby, hzs, hpos, hbpos⟩ := hE
  obtain ⟨hl, h1, hc⟩ := hsrc
  have hrun : ∃ w', (Builtin.append_ #[t, t] o.type #[.slice A n c, .slice D m d]).run P w = .ok (.slice A (n + m) c) w' ∧ w'.ownsRow base e size (.slice A (n + m) c) (n + m) (xs ++ news) ∧ w.grownBy w' (Value.slice A n c).ownBlock := by
    by_cases hm : m = 0
    · subst hm
      obtain rfl : news = [] := List.eq_nil_of_length_eq_zero (by simpa using hl)
      refine ⟨w, ?_, by simpa using hown, ⟨rfl, rfl, rfl, Nat.le_refl _, fun _ _ _ => rfl⟩⟩
      have hm0 : ∀ j u, ([] : List Value)[j]? = some u → w.cell? ((D.getD ⟨0, 0, none⟩).add j) = some u := fun j u hj => by simp at hj
      rcases hown.2 with ⟨hv, rfl⟩ | ⟨g, cap, cur, hv, _, _, hnc, _⟩
      · injection hv with e1 e2 e3
        subst e1; subst e3
        cases D <;> simp [Builtin.append_, run_underlying ht, sizeOf, typeInfo, hi, Builtin.lenOf, Builtin.firstCells, loadCells, loadCellsFrom]
      · injection hv with e1 e2 e3
        subst e1; subst e3
        cases D <;> simp [Builtin.append_, run_underlying ht, sizeOf, typeInfo, hi, Builtin.lenOf, Builtin.firstCells, hnc, storeCells, loadCells, loadCellsFrom]
    · obtain ⟨ad, rfl, hcells⟩ := hc (by omega)
      rcases hown.2 with ⟨hv, rfl⟩ | ⟨g, cap, cur, hv, _⟩
      · injection hv with e1 e2 e3
        omega
      · injection hv with e1 e2 e3
        subst e1; subst e3
        exact run_append_own_spare (P := P) w base t o.type e i size ht hi hsz g n c xs hown ad m d news hl hcells h1 hroom
  obtain ⟨w', hr, h2, h3⟩ := hrun
  refine wpList_plain hgd fun K hK => ?_
  unfold Oper.wp execOp
  simp only [ho, resolve, invoke, builtin, Sem.run_bind, Sem.run_pure, Result.andThen_ok, List.map_toArray, List.map_cons, List.map_nil, hs, hx, hr]
  exact hK _ _ (h w' h2 (Only.grown h3))

/-- a slice without elements, with room for n -/
def RetRoom (w : World) (n : Nat) (e : Ending) (w' : World) : Prop := ∃ A c, e = .returned (.slice A 0 c) ∧ n ≤ c ∧ w'.ownsRow w.heap.size 3 1 (.slice A 0 c) 0 [] ∧ Below w.heap.size w w'

set_option maxHeartbeats 400000 in
set_option maxRecDepth 100000 in
theorem grow_any (n : Nat) (w : World) (hn : n * 8 ≤ 281474976710656) :
    Calls Try.prog 97 #[.slice none 0 0, .int .i64 n] w (RetRoom w n) := by
  by_cases h0 : n = 0
  · subst h0
    go_enter Try.func97, Try.ntmps97
    go_wp2
    go_ret
    exact ⟨none, 0, rfl, Nat.le_refl _, World.ownsRow_nil _ _ _ _, Below.refl _ _⟩
  · obtain ⟨i, z, ht, hi, hz, hsz, hby, hzs, hpos, _⟩ := elInt
    have hr := fun ty => Lib.run_append_nil_zeros (P := Try.prog) w 24 3 ty 3 i z .i64 .i64 ht Try.underlying3 hi hz n (by omega) (by omega) (by omega) (by rw [hby]; omega)
    have hle := grownCap_ge w n 0 3
    have hmx := grownCap_le_maxLen w n 0 3 (by simp only [maxLen]; omega)
    have hcells : (Builtin.zeroCells z.cells n ++ Builtin.zeroCells z.cells (grownCap w n 0 3 - n)).size = grownCap w n 0 3 * 1 := by
      rw [Array.size_append, size_zeroCells, size_zeroCells, hzs]; omega
    generalize grownCap w n 0 3 = c at *
    generalize Builtin.zeroCells z.cells n ++ Builtin.zeroCells z.cells (c - n) = cur at *
    have HR := Lib.hid hr; have HC := Lib.hid hcells; clear hr hcells
    go_enter Try.func97, Try.ntmps97
    go_wp2_with (at_builtin; refine Lib.wpList_append_run _ rfl _ _ _ _ rfl _ _ rfl rfl _ _ (HR.out _) ?_)
    go_ret
    refine ⟨_, c, rfl, hle, ?_, ((Below.refl _ _).drew).alloc (Nat.le_refl _) _⟩
    exact World.ownsRow_made w.drew cur c (Nat.le_refl _) hmx HC.out
/-- one list behind another -/
def both (n : Nat) (X Y : Nat → Int) (k : Nat) : Int := if k < n then X k else Y (k - n)
def at3n (a b c : Nat) : Nat → Nat
  | 0 => a
  | 1 => b
  | _ => c

/-- a new slice of ints -/
def RetInts (w : World) (n : Nat) (X : Nat → Int) (e : Ending) (w' : World) : Prop := ∃ A c, e = .returned (.slice A n c) ∧ OwnInts w' w.heap.size A n c X ∧ Below w.heap.size w w'

set_option maxHeartbeats 1000000 in
set_option maxRecDepth 100000 in
theorem concat_any (b : Nat) (A B : Option Addr) (n c m d : Nat) (X Y : Nat → Int) (w : World) (hb0 : w.cell? ⟨b, 0, none⟩ = some (.slice A n c)) (hb1 : w.cell? ⟨b, 1, none⟩ = some (.slice B m d))
    (hX : Ints w A n X) (hY : Ints w B m Y) (hn : (n + m) * 8 ≤ 281474976710656) :
    Calls Try.prog 49 #[.slice (some ⟨b, 0, none⟩) 2 2] w (RetInts w (n + m) (both n X Y)) := by
  go_enter Try.func49, Try.ntmps49
  go_wp2_with fail
  go_loop [3, 11] (fun s i => ∃ k : Nat, k ≤ 2 ∧ i = .int .i64 k ∧ s = .int .i64 (at3n 0 n (n + m) k)) (fun _ i => 2 - (intOf i).toNat)
  case atStart => exact ⟨0, by omega, rfl, rfl⟩
  case round =>
    obtain ⟨k, hk, rfl, rfl⟩ := hrel
    obtain rfl | rfl | rfl : k = 0 ∨ k = 1 ∨ k = 2 := by omega
    · simp only [at3n]
      go_wp2_with fail
      go_round
      case rel => exact ⟨1, by omega, by go_num, by simp⟩
      case measure => simp [intOf]
    · simp only [at3n]
      go_wp2_with fail
      go_round
      case rel => exact ⟨2, by omega, by go_num, by simp⟩
      case measure => simp [intOf]
    · simp only [at3n]
      go_wp2_with fail
      have en : ((n : Int) + (m : Int)) = ((n + m : Nat) : Int) := by omega
      rw [en]
      clear en
      refine (grow_any (n + m) w hn).mono ?_
      rintro e w1 ⟨Ag, cg, rfl, hcg, hown, hbel⟩
      have hs1 := hbel.size
      obtain ⟨q0, q1⟩ : w1.cell? ⟨b, 0, none⟩ = some (.slice A n c) ∧ w1.cell? ⟨b, 1, none⟩ = some (.slice B m d) := ⟨Keeps.of_below hbel _ _ hb0, Keeps.of_below hbel _ _ hb1⟩
      go_wp2_with fail
      clear q0 q1
      go_loopw [6, 27] (fun v i wr => ∃ k : Nat, k ≤ 2 ∧ i = .int .i64 k ∧ v = .slice Ag (at3n 0 n (n + m) k) cg ∧ wr.ownsRow w.heap.size 3 1 (.slice Ag (at3n 0 n (n + m) k) cg) (at3n 0 n (n + m) k) ((List.range (at3n 0 n (n + m) k)).map fun j => .int .i64 (both n X Y j)) ∧ Below w.heap.size w wr) (fun _ i _ => 2 - (intOf i).toNat)
      case atStart => exact ⟨0, by omega, rfl, rfl, hown, hbel⟩
      case round =>
        clear hown hbel hs1
        obtain ⟨k, hk, rfl, rfl, hown, hbel⟩ := hrel
        have hsz := hbel.size
        obtain rfl | rfl | rfl : k = 0 ∨ k = 1 ∨ k = 2 := by omega
        · have q0 := Keeps.of_below hbel _ _ hb0
          simp only [at3n] at hown ⊢
          have hsrc := src_row1 (hX.keeps (Keeps.of_below hbel)) (fun _ _ => rfl)
          go_wp2_with (at_builtin; refine wp_append_room rfl (.tmp 31) (.tmp 32) _ rfl elInt w.heap.size Ag 0 cg _ rfl hown A n c _ rfl hsrc (by omega) ?_; intro w3 ho hk')
          have ho1 : w3.ownsRow w.heap.size 3 1 (.slice Ag (at3n 0 n (n + m) 1) cg) (at3n 0 n (n + m) 1) ((List.range (at3n 0 n (n + m) 1)).map fun j => .int .i64 (both n X Y j)) := by
            simp only [at3n]
            rw [List.map_congr_left (g := fun j => .int .i64 (X j)) (fun j hj => by unfold both; rw [if_pos (by simpa using hj)])]
            simpa using ho
          have hb3 : Below w.heap.size w w3 := hbel.trans (hk'.below (fun j _ c => own_base hown j c) (by omega))
          clear hsrc q0
          go_roundw
          case rel => exact ⟨1, by omega, by go_num, by simp, ho1, hb3⟩
          case measure => simp [intOf]
        · have q1 := Keeps.of_below hbel _ _ hb1
          simp only [at3n] at hown ⊢
          have hsrc := src_row1 (hY.keeps (Keeps.of_below hbel)) (fun _ _ => rfl)
          go_wp2_with (at_builtin; refine wp_append_room rfl (.tmp 31) (.tmp 32) _ rfl elInt w.heap.size Ag n cg _ rfl hown B m d _ rfl hsrc (by omega) ?_; intro w3 ho hk')
          have ho1 : w3.ownsRow w.heap.size 3 1 (.slice Ag (at3n 0 n (n + m) 2) cg) (at3n 0 n (n + m) 2) ((List.range (at3n 0 n (n + m) 2)).map fun j => .int .i64 (both n X Y j)) := by
            simp only [at3n]
            rw [List.range_add, List.map_append, List.map_map, List.map_congr_left (l := List.range m) (g := fun j => .int .i64 (Y j)) (fun j _ => by simp only [Function.comp, both]; rw [if_neg (by omega), Nat.add_sub_cancel_left])]
            exact ho
          have hb3 : Below w.heap.size w w3 := hbel.trans (hk'.below (fun j _ c => own_base hown j c) (by omega))
          clear hsrc q1
          go_roundw
          case rel => exact ⟨2, by omega, by go_num, by simp, ho1, hb3⟩
          case measure => simp [intOf]
        · simp only [at3n] at hown ⊢
          go_wp2_with fail
          go_ret
          exact ⟨Ag, cg, rfl, hown, hbel⟩

end Go.Proofs.Ytdhgbikmaglgpaa
