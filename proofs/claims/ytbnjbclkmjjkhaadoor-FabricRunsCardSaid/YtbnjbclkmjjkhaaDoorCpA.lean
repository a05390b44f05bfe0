/- For fabric.Run: a chip as it is read while the registers change, the bits that a cell points at. No condition. copy into an array of the call's own (out of Run1, for the Door seat). No condition. -/
import Derived.Test.YtbnjbclkmjjkhaaDoorFrU
import Derived.Test.YtbnjbclkmjjkhaaDoorFrS
import Derived.Laws.BitsAllLaws
import Derived.Laws.BitsLemmas
namespace Go.Proofs.YtbnjbclkmjjkhaaDoor
open Go.RowKit Go.Shelf

theorem own_cells {w : World} {base : Nat} {e : TypeId} {s n c : Nat} {A : Option Addr} {xs : List Value} (h : w.ownsRow base e s (.slice A n c) n xs) : ∀ b, blockOf A b → ∃ cur, w.heap[b]? = some (.cells cur e (0, 0)) := fun b ⟨a, ha, hab⟩ => by
  subst ha; subst hab
  rcases h.2 with ⟨h0, _⟩ | ⟨g, cap, cur', hv, hg, hh, _⟩
  · cases h0
  · injection hv with e1
    injection e1 with e1
    subst e1
    exact ⟨cur', hh⟩
theorem Arr.own {w : World} {b base : Nat} {e : TypeId} {n c : Nat} {V : Nat → Value} (h : Arr w b e c V) (hn : n ≤ c) (hc : c ≤ maxLen) (hb : base ≤ b) : w.ownsRow base e 1 (.slice (some ⟨b, 0, none⟩) n c) n ((List.range n).map V) := by
  obtain ⟨cur, hh, hs, hcc⟩ := h
  refine ⟨by simp, .inr ⟨b, c, cur, rfl, hb, hh, hn, hc, by rw [hs, Nat.mul_one], ?_⟩⟩
  rw [Nat.mul_one]
  apply List.ext_getElem?
  intro k
  by_cases hk : k < n
  · rw [List.getElem?_take, if_pos hk, List.getElem?_map, List.getElem?_range hk]
    have := hcc k (by omega)
    simpa using this
  · rw [List.getElem?_take, if_neg hk, List.getElem?_eq_none (by simp; omega)]
theorem own_flatB {w : World} {base s n c : Nat} {e : TypeId} {A : Option Addr} {f : Nat → Nat → Value} (h : w.ownsRow base e s (.slice A n c) n (flatF s f n)) : RowT (blockOf A) w e s A n f := fun hn => by
  obtain ⟨b, off, cur, eA, ⟨_, hb⟩, hh, hc⟩ := own_rowT h hn
  refine ⟨b, off, cur, eA, ⟨_, hb, rfl⟩, hh, fun k hk j hj => ?_⟩
  rw [hc k hk j hj]
  refine congrArg some ?_
  show (flatF s f n).getD (k * s + j) undef = _
  rw [List.getD_eq_getElem?_getD, flatF_get s f n k hk j hj]; rfl
/-- registers with their states -/
def regS (b : List UInt8) (S : Nat → Bool) (k j : Nat) : Value := if j = 0 then .bool (S k) else .int .i64 (numD b (.rsel k) : Nat)
theorem regV_S (b : List UInt8) : regV b = regS b (dec b).RI := rfl
/-- what a run of the chip may write -/
def RunS (w1 : World) (AR : Option Addr) (b : Nat) : Prop := blockOf AR b ∨ w1.heap.size ≤ b
section
variable {W W1 : World} {base X cC cR cO : Nat} {b : List UInt8} {AC AR AO : Option Addr} {CA : Nat → Option Addr} {cc : Nat → Nat}
theorem Chip.box' (h : Chip W base X b AC cC CA cc AR cR AO cO) (k : Only (RunS W AR) W W1) : W1.heap[X]? = some (chipO (tkv b 32 16) (tkv b 80 16) AC (tkv b 96 16) cC AR (tkv b 64 16) cR AO (tkv b 48 16) cO) := by
  have hX := h.box
  have hlt := (Array.getElem?_eq_some_iff.1 hX).1
  refine (k.block X hlt (fun hs => ?_)).trans hX
  rcases hs with hs | hs
  · exact own_type (e' := 87) h.regs (by decide) X _ hX hs
  · omega
theorem Chip.cols' (h : Chip W base X b AC cC CA cc AR cR AO cO) (k : Only (RunS W AR) W W1) : FCols W1 base b AC (tkv b 96 16) cC (tkv b 80 16) CA cc := by
  refine h.cols.only k (fun b hs hlt => .inr ?_)
  rcases hs with hs | hs
  · obtain ⟨cur, hc⟩ := own_cells h.regs b hs
    exact ⟨cur, _, hc, by decide, by decide⟩
  · omega
theorem Chip.outs' (h : Chip W base X b AC cC CA cc AR cR AO cO) (k : Only (RunS W AR) W W1) : Row1 W1 AO (tkv b 48 16) (fun k => .int .i64 (numD b (.out k) : Nat)) := by
  have ho := own_only h.outs k (fun i hi hs => by
    rcases hs with hs | hs
    · obtain ⟨cur, hc⟩ := own_cells h.regs i hs
      exact own_type (e' := 89) h.outs (by decide) i cur hc hi
    · have := own_lt h.outs i hi; omega)
  exact (own_flat ho).row.one
theorem FCols.col {i R n : Nat} (h : FCols W base b AC n cC R CA cc) (hi : i < n) : ∃ ba oa, AC = some ⟨ba, oa, none⟩ ∧ W.cell? ⟨ba, oa + i, none⟩ = some (.slice (CA i) R (cc i)) := by
  obtain ⟨ba, oa, e, hc⟩ := own_row1 h.own (by omega)
  refine ⟨ba, oa, e, ?_⟩
  rw [hc i hi]; simp [hi]
theorem FCols.cell {i k R n : Nat} (h : FCols W base b AC n cC R CA cc) (hi : i < n) (hk : k < R) : ∃ bc oc, CA i = some ⟨bc, oc, none⟩ ∧ W.cell? ⟨bc, oc + k * 5, none⟩ = some (.int .i64 (numD b (.bits i k) : Nat)) ∧ W.cell? ⟨bc, oc + k * 5 + 1, none⟩ = some (.int .i64 (numD b (.sel i k 0) : Nat)) ∧
    W.cell? ⟨bc, oc + k * 5 + 2, none⟩ = some (.int .i64 (numD b (.sel i k 1) : Nat)) ∧ W.cell? ⟨bc, oc + k * 5 + 3, none⟩ = some (.int .i64 (numD b (.sel i k 2) : Nat)) ∧ W.cell? ⟨bc, oc + k * 5 + 4, none⟩ = some (.int .i64 (numD b (.sel i k 3) : Nat)) := by
  obtain ⟨bc, oc, e, hc⟩ := (h.cells i hi).row (by omega)
  exact ⟨bc, oc, e, hc k hk 0 (by omega), hc k hk 1 (by omega), hc k hk 2 (by omega), hc k hk 3 (by omega), hc k hk 4 (by omega)⟩
end
/-- one register's state is written -/
theorem RowT.setR {p : Nat → Prop} {w : World} {n bs os k : Nat} {b : List UInt8} {S S' : Nat → Bool} {e : TypeId} {v : Bool} (h : RowT p w e 2 (some ⟨bs, os, none⟩) n (regS b S)) (hS : ∀ j, j < n → j ≠ k → S' j = S j) (hv : S' k = v) : RowT p (w.setCell ⟨bs, os + k * 2, none⟩ (.bool v)) e 2 (some ⟨bs, os, none⟩) n (regS b S') := fun hn => by
  obtain ⟨b', o', cur, he, hp, hh, hc⟩ := h hn
  injection he with he; injection he with e1 e2; subst e1 e2
  refine ⟨bs, os, cur.setIfInBounds (os + k * 2) (.bool v), rfl, hp, by simp [World.setCell, Array.getElem?_modify, hh], fun j hj i hi => ?_⟩
  have hcj := hc j hj i hi
  rw [Array.getElem?_setIfInBounds]
  by_cases ej : os + k * 2 = os + j * 2 + i
  · obtain rfl : j = k := by omega
    obtain rfl : i = 0 := by omega
    rw [if_pos ej, if_pos (by rw [ej]; exact (Array.getElem?_eq_some_iff.1 hcj).1)]
    unfold regS; rw [if_pos rfl, hv]
  · rw [if_neg ej, hcj]
    unfold regS
    by_cases h0 : i = 0
    · subst h0; rw [if_pos rfl, if_pos rfl, hS j hj (fun e => ej (by subst e; rfl))]
    · rw [if_neg h0, if_neg h0]
theorem four_index (l0 l1 l2 l3 : Value) (j : Nat) (w : World) (hj : j < 4) : (Instr.index 51 (.agg #[l0, l1, l2, l3]) (.int .i64 j)).run Tryd.prog w = .ok (if j = 0 then l0 else if j = 1 then l1 else if j = 2 then l2 else l3) w := by
  obtain rfl | rfl | rfl | rfl : j = 0 ∨ j = 1 ∨ j = 2 ∨ j = 3 := by omega
  all_goals simp [Instr.index, run_underlying Tryd.underlying51, asIntOf, go_sem]
theorem or_pw4 {r j : Nat} (hr : r < 2 ^ j) (hj : j < 4) : bits .or .i64 (r : Int) ((2 ^ j : Nat) : Int) = ((r + 2 ^ j : Nat) : Int) := by
  obtain rfl | rfl | rfl | rfl : j = 0 ∨ j = 1 ∨ j = 2 ∨ j = 3 := by omega
  · obtain rfl : r = 0 := by omega
    decide +kernel
  · obtain rfl | rfl : r = 0 ∨ r = 1 := by omega
    all_goals decide +kernel
  · obtain rfl | rfl | rfl | rfl : r = 0 ∨ r = 1 ∨ r = 2 ∨ r = 3 := by omega
    all_goals decide +kernel
  · obtain rfl | rfl | rfl | rfl | rfl | rfl | rfl | rfl : r = 0 ∨ r = 1 ∨ r = 2 ∨ r = 3 ∨ r = 4 ∨ r = 5 ∨ r = 6 ∨ r = 7 := by omega
    all_goals decide +kernel
end Go.Proofs.YtbnjbclkmjjkhaaDoor
namespace Go.Proofs.YtbnjbclkmjjkhaaDoor
open Go.RowKit

/-- a stretch of an array laid over -/
def over (V S : Nat → Value) (off m : Nat) (j : Nat) : Value := if off ≤ j ∧ j < off + m then S (j - off) else V j

def over' (V S : Nat → Bool) (off m : Nat) (j : Nat) : Bool := if off ≤ j ∧ j < off + m then S (j - off) else V j

/-- 'copy(dst, src)' into an array of the call's own -/
theorem wp_copy {P : Program} {w : World} {ops : Array Oper} {rest : List Oper} {o : Oper} {a : Act} {Q : Exit → Act → World → Prop} (hgd : o.guard = none) (d s : Operand) (dT sT : TypeId)
    (ho : o.op = .call { callee := .builtin .copy, args := #[d, s], argTypes := #[dT, sT] }) (elem : TypeId) (hu : P.underlying dT = some (.slice elem)) (hsz : (P.info? elem).map (·.size) = some 1)
    (dp : Option Addr) (dLen dCap : Nat) (sp : Option Addr) (sLen sCap : Nat) (hd : a.eval d = .slice dp dLen dCap) (hs : a.eval s = .slice sp sLen sCap)
    (b off n : Nat) (e : TypeId) (V : Nat → Value) (hA : Arr w b e n V) (m : Nat) (S : Nat → Value) (hm : m = Nat.min sLen dLen) (hdp : 0 < m → dp = some ⟨b, off, none⟩) (hsrc : Row1 w sp m S)
    (hfit : off + m ≤ n) (h1 : ∀ j, j < m → (S j).oneCell' = true)
    (h : ∀ w', Arr w' b e n (over V S off m) → Only (fun k => k = b) w w' → wpList P ops Q rest (a.put o.dst (goInt m)) w') : wpList P ops Q (o :: rest) a w := by
  by_cases h0 : m = 0
  · subst h0
    exact wpList_copy_nothing hgd d s dT sT ho elem hu hsz dp sp dLen dCap sLen sCap hd hs hm.symm (h w (hA.congr fun j _ => by unfold over; rw [if_neg (by omega)]) (Only.refl _ _))
  · obtain rfl := hdp (by omega)
    obtain ⟨b', off', rfl, hc⟩ := hsrc (by omega)
    obtain ⟨cur, hh, hn, hcur⟩ := hA
    have hlen : ((List.range m).map S).length = m := by simp
    refine wpList_copy_own hgd d s dT sT ho elem hu hsz b off dLen dCap ⟨b', off', none⟩ sLen sCap hd hs cur e hh ((List.range m).map S) (by rw [hlen, hm]) ?_ (by rw [hlen]; omega) ?_ ?_
    · intro j v hj
      have hjn : j < m := by
        rcases Nat.lt_or_ge j m with h | h
        · exact h
        · rw [List.getElem?_eq_none (by simpa using h)] at hj; cases hj
      rw [List.getElem?_map, List.getElem?_range hjn] at hj
      rw [add_eq, hc j hjn]
      exact hj
    · intro v hv
      obtain ⟨j, hj, rfl⟩ := List.mem_map.1 hv
      exact h1 j (by simpa using hj)
    · rw [hlen]
      refine h _ ⟨_, setRow_heap _ _ _ _ _ _ hh, ?_, fun j hj => ?_⟩ ⟨rfl, rfl, rfl, by simp [World.setRow], fun k _ hk => ?_⟩
      · simp; omega
      · have hsize : cur.toList.length = n := by simpa using hn
        have hcj := hcur j hj
        unfold over
        rw [List.getElem?_toArray]
        by_cases h2 : j < off
        · rw [if_neg (by omega), List.getElem?_append_left (by simp; omega), List.getElem?_take, if_pos h2]
          simpa using hcj
        · rw [List.getElem?_append_right (by simp; omega)]
          by_cases h3 : j < off + m
          · rw [if_pos ⟨by omega, h3⟩, List.getElem?_append_left (by simp; omega)]
            simp [show min off cur.size = off by omega, show j - off < m by omega]
          · rw [if_neg (by omega), List.getElem?_append_right (by simp; omega), List.getElem?_drop]
            simp only [List.length_take, hlen, hsize]
            rw [show off + m + (j - min off n - m) = j by omega]
            simpa using hcj
      · simp only [World.setRow, Array.getElem?_modify]
        rw [if_neg (fun e => hk e.symm)]

theorem and_one_i64 {l : Int} (h0 : 0 ≤ l) (h1 : l < 9223372036854775808) : bits .and .i64 l 1 = l % 2 := by
  obtain ⟨n, rfl⟩ := Int.eq_ofNat_of_zero_le h0
  have hn : n < 9223372036854775808 := by omega
  have ha : (BitVec.ofInt 64 (n : Int)).toNat = n := by rw [BitVec.ofInt_natCast, BitVec.toNat_ofNat]; exact Nat.mod_eq_of_lt (by omega)
  have hb : (BitVec.ofInt 64 1).toNat = 1 := by decide
  show IntKind.i64.wrap ((BitVec.ofInt 64 (n : Int) &&& BitVec.ofInt 64 1).toNat : Int) = _
  rw [BitVec.toNat_and, ha, hb, Nat.and_one_is_mod, IntKind.wrap_i64]
  omega
theorem szB : (Tryd.prog.info? 4).map (·.size) = some 1 := by kernel_rfl
theorem zeroB : (Tryd.prog.info? 4).map (fun i => (i.zero, i.size, i.bytes)) = some (some (.bool false), 1, 1) := by kernel_rfl
theorem mk_bools (a c : Nat) (h : a ≤ c) (hc : c ≤ 100000) (W : World) : (Instr.makeSlice 35 (.int .i64 (a : Int)) (.int .i64 (c : Int))).run Tryd.prog W = .ok (.slice (some ⟨W.heap.size, 0, none⟩) a c) (W.alloc (.cells (madeCells #[.bool false] c) 4)) := by
  have h := run_mk Tryd.underlying35 zeroB .i64 .i64 (a : Int) (c : Int) (by omega) (by omega) (by omega) (by omega) W
  simpa [Value.cells] using h
end Go.Proofs.YtbnjbclkmjjkhaaDoor
