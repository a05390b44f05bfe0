/- aig.Run's closure, walked; words for an array of the call's own that is stored into. Condition: the array and the variable that holds it lie in memory. -/
import Derived.Test.YtdhgbikmaglgpaaRefRun
import Derived.Laws.BitsAllLaws
import Derived.Laws.BitsLemmas
namespace Go.Proofs.Ytdhgbikmaglgpaa
open Go.RowKit

/-- block b is an array of n cells of type e -/
def Arr (w : World) (b : Nat) (e : TypeId) (n : Nat) (V : Nat → Value) : Prop := ∃ cur : Array Value, w.heap[b]? = some (.cells cur e (0, 0)) ∧ cur.size = n ∧ ∀ k, k < n → cur[k]? = some (V k)

section
variable {w w1 : World} {b n : Nat} {e : TypeId} {V V' : Nat → Value}
theorem Arr.cell (h : Arr w b e n V) {k : Nat} (hk : k < n) : w.cell? ⟨b, k, none⟩ = some (V k) := by
  obtain ⟨cur, hh, _, hc⟩ := h
  rw [cell_of_row w b k cur e _ hh, hc k hk]
theorem Arr.thaw (h : Arr w b e n V) (k : Nat) : w.frozen? ⟨b, k, none⟩ = false := by
  obtain ⟨cur, hh, _⟩ := h
  simp [World.frozen?, hh]
theorem Arr.lt (h : Arr w b e n V) : b < w.heap.size := by
  obtain ⟨cur, hh, _⟩ := h
  exact (Array.getElem?_eq_some_iff.1 hh).1
theorem Arr.set (h : Arr w b e n V) {k : Nat} {x : Value} (hV : ∀ j, j < n → j ≠ k → V' j = V j) (hx : V' k = x) : Arr (w.setCell ⟨b, k, none⟩ x) b e n V' := by
  obtain ⟨cur, hh, hn, hc⟩ := h
  refine ⟨cur.setIfInBounds k x, by simp [World.setCell, Array.getElem?_modify, hh], by simpa using hn, fun j hj => ?_⟩
  rw [Array.getElem?_setIfInBounds]
  by_cases e : k = j
  · subst e; rw [if_pos rfl, if_pos (by omega), hx]
  · rw [if_neg e, hc j hj, hV j hj (fun h => e h.symm)]
theorem Arr.only {S : Nat → Prop} (h : Arr w b e n V) (k : Only S w w1) (hs : ¬ S b) : Arr w1 b e n V := by
  obtain ⟨cur, hh, r⟩ := h
  exact ⟨cur, (k.block b (Array.getElem?_eq_some_iff.1 hh).1 hs).trans hh, r⟩
theorem Arr.below (h : Arr w b e n V) (k : Below w.heap.size w w1) : Arr w1 b e n V := by
  obtain ⟨cur, hh, r⟩ := h
  exact ⟨cur, (k.block b (Array.getElem?_eq_some_iff.1 hh).1).trans hh, r⟩
theorem Arr.heap (h : Arr w b e n V) (k : w1.heap = w.heap) : Arr w1 b e n V := by unfold Arr at *; rw [k]; exact h
theorem Arr.alloc (h : Arr w b e n V) (o : Obj) : Arr (w.alloc o) b e n V := h.below ((Below.refl _ _).alloc (Nat.le_refl _) o)
theorem Arr.congr (h : Arr w b e n V) (hV : ∀ j, j < n → V' j = V j) : Arr w b e n V' := by
  obtain ⟨cur, hh, hn, hc⟩ := h
  exact ⟨cur, hh, hn, fun j hj => by rw [hc j hj, hV j hj]⟩
theorem Arr.row (h : Arr w b e n V) : Row1 w (some ⟨b, 0, none⟩) n V := fun _ => ⟨b, 0, rfl, fun k hk => by rw [Nat.zero_add]; exact h.cell hk⟩
theorem Arr.made (w : World) (z : Value) (n : Nat) (e : TypeId) : Arr (w.alloc (.cells (madeCells #[z] n) e)) w.heap.size e n (fun _ => z) :=
  ⟨_, heap_alloc_new w _, by simp [madeCells], fun k hk => made_get z n k hk⟩
end

/-- a stretch of an array laid over -/
def over (V S : Nat → Value) (off m : Nat) (j : Nat) : Value := if off ≤ j ∧ j < off + m then S (j - off) else V j

def over' (V S : Nat → Bool) (off m : Nat) (j : Nat) : Bool := if off ≤ j ∧ j < off + m then S (j - off) else V j

/-- 'copy(dst, src)' into an array of the call's own -/
theorem wp_copy {P : Program} {w : World} {ops : Array Oper} {rest : List Oper} {o : Oper} {a : Act} {Q : Exit → Act → World → Prop} (hgd : o.guard = none) (d s : Operand) (dT sT : TypeId)
    (ho : o.op = .call { callee := .builtin .copy, args := #[d, s], argTypes := #[dT, sT] }) (elem : TypeId) (hu : P.underlying dT = some (.slice elem)) (hsz : (P.info? elem).map (·.size) = some 1)
    (dp : Option Addr) (dLen dCap : Nat) (sp : Option Addr) (sLen sCap : Nat) (hd : a.eval d = .slice dp dLen dCap) (hs : a.eval s = .slice sp sLen sCap)
    (b off n : Nat) (e : TypeId) (V : Nat → Value) (hA : Arr w b e n V) (m : Nat) (S : Nat → Value) (hm : m = Nat.min sLen dLen) (hdp : 0 < m → dp = some ⟨b, off, none⟩) (hsrc : Row1 w sp m S)
    (hfit : off + m ≤ n) (h1 : ∀ j, j < m → (S j).oneCell' = true)
    (h : ∀ w', Arr w' b e n (over V S off m) → Only (fun k => k = b) w w' → wpList P ops Q rest (a.put o.dst (goInt m)) w') : wpList P ops Q (o :: rest) a w := by
  by_cases h0 : m = 0
  · subst h0
    exact wpList_copy_nothing hgd d s dT sT ho elem hu hsz dp sp dLen dCap sLen sCap hd hs hm.symm (h w (hA.congr fun j _ => by unfold over; rw [if_neg (by omega)]) (Only.refl _ _))
  · obtain rfl := hdp (by omega)
    obtain ⟨b', off', rfl, hc⟩ := hsrc (by omega)
    obtain ⟨cur, hh, hn, hcur⟩ := hA
    have hlen : ((List.range m).map S).length = m := by simp
    refine wpList_copy_own hgd d s dT sT ho elem hu hsz b off dLen dCap ⟨b', off', none⟩ sLen sCap hd hs cur e hh ((List.range m).map S) (by rw [hlen, hm]) ?_ (by rw [hlen]; omega) ?_ ?_
    · intro j v hj
      have hjn : j < m := by
        rcases Nat.lt_or_ge j m with h | h
        · exact h
        · rw [List.getElem?_eq_none (by simpa using h)] at hj; cases hj
      rw [List.getElem?_map, List.getElem?_range hjn] at hj
      rw [add_eq, hc j hjn]
      exact hj
    · intro v hv
      obtain ⟨j, hj, rfl⟩ := List.mem_map.1 hv
      exact h1 j (by simpa using hj)
    · rw [hlen]
      refine h _ ⟨_, setRow_heap _ _ _ _ _ _ hh, ?_, fun j hj => ?_⟩ ⟨rfl, rfl, rfl, by simp [World.setRow], fun k _ hk => ?_⟩
      · simp; omega
      · have hsize : cur.toList.length = n := by simpa using hn
        have hcj := hcur j hj
        unfold over
        rw [List.getElem?_toArray]
        by_cases h2 : j < off
        · rw [if_neg (by omega), List.getElem?_append_left (by simp; omega), List.getElem?_take, if_pos h2]
          simpa using hcj
        · rw [List.getElem?_append_right (by simp; omega)]
          by_cases h3 : j < off + m
          · rw [if_pos ⟨by omega, h3⟩, List.getElem?_append_left (by simp; omega)]
            simp [show min off cur.size = off by omega, show j - off < m by omega]
          · rw [if_neg (by omega), List.getElem?_append_right (by simp; omega), List.getElem?_drop]
            simp only [List.length_take, hlen, hsize]
            rw [show off + m + (j - min off n - m) = j by omega]
            simpa using hcj
      · simp only [World.setRow, Array.getElem?_modify]
        rw [if_neg (fun e => hk e.symm)]

/-- the variable that the closure captured holds the slice of all of block bv -/
def VarAt (w : World) (bc bv nv : Nat) : Prop := w.cell? ⟨bc, 0, none⟩ = some (.slice (some ⟨bv, 0, none⟩) nv nv)

theorem VarAt.heap {w w1 : World} {bc bv nv : Nat} (h : VarAt w bc bv nv) (k : w1.heap = w.heap) : VarAt w1 bc bv nv := by unfold VarAt World.cell? at *; rw [k]; exact h

theorem and_one_i64 {l : Int} (h0 : 0 ≤ l) (h1 : l < 9223372036854775808) : bits .and .i64 l 1 = l % 2 := by
  obtain ⟨n, rfl⟩ := Int.eq_ofNat_of_zero_le h0
  have hn : n < 9223372036854775808 := by omega
  have ha : (BitVec.ofInt 64 (n : Int)).toNat = n := by rw [BitVec.ofInt_natCast, BitVec.toNat_ofNat]; exact Nat.mod_eq_of_lt (by omega)
  have hb : (BitVec.ofInt 64 1).toNat = 1 := by decide
  show IntKind.i64.wrap ((BitVec.ofInt 64 (n : Int) &&& BitVec.ofInt 64 1).toNat : Int) = _
  rw [BitVec.toNat_and, ha, hb, Nat.and_one_is_mod, IntKind.wrap_i64]
  omega

set_option maxHeartbeats 400000 in
theorem at_any (bc bv nv : Nat) (V : Nat → Bool) (l : Int) (w : World) (hb : VarAt w bc bv nv) (ha : Arr w bv 4 nv (fun k => .bool (V k))) (h0 : 0 ≤ l) (h1 : l < 2 * nv) (hn : nv ≤ 1000000000) :
    Calls Try.prog 87 #[.int .i64 l, .pointer (some ⟨bc, 0, none⟩)] w fun e w' => e = .returned (.bool (litF V l)) ∧ w = w' := by
  have hc := ha.cell (k := (l / 2).toNat) (by omega)
  have hv : w.cell? ⟨bc, 0, none⟩ = some (.slice (some ⟨bv, 0, none⟩) nv nv) := hb
  have hbit := and_one_i64 h0 (by omega)
  go_enter Try.func87, Try.ntmps87
  go_wp2
  go_ret
  refine ⟨ret_bool ?_, rfl⟩
  unfold litF
  rw [show (l / 2).toNat = l.toNat / 2 by omega]
  rfl
/-- .. as a quiet call, in whatever world has this heap -/
theorem at_still {bc bv nv : Nat} {V : Nat → Bool} {l : Int} {w : World} {b : Bool} (hb : VarAt w bc bv nv) (ha : Arr w bv 4 nv (fun k => .bool (V k))) (h0 : 0 ≤ l) (h1 : l < 2 * nv) (hn : nv ≤ 1000000000) (hl : litF V l = b) (W : World) (hW : W.heap = w.heap) :
    Calls Try.prog 87 #[.int .i64 l, .pointer (some ⟨bc, 0, none⟩)] W fun e w' => e = .returned (.bool b) ∧ w' = W := by
  subst hl
  exact (at_any bc bv nv V l W (hb.heap hW) (ha.heap hW) h0 h1 hn).mono fun _ _ h => ⟨h.1, h.2.symm⟩

end Go.Proofs.Ytdhgbikmaglgpaa
