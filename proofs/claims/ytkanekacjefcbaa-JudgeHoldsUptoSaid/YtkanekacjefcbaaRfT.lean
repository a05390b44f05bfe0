/- A queue: a slice that may begin in the midst of its block; append at its end, its head struck. No condition. -/
import Derived.Test.YtkanekacjefcbaaRfP
import Derived.Test.YtkanekacjefcbaaArr
import Derived.ArgAppend
namespace Go.Proofs.Ytkanekacjefcbaa
open Go.RowKit Go.Deep

/-- a slice of ints from somewhere in a block of the call's own on -/
def Tail (w : World) (base : Nat) (A : Option Addr) (n c : Nat) (xs : List Int) : Prop :=
  xs.length = n ∧ n ≤ c ∧ ((A = none ∧ c = 0) ∨ ∃ (g off : Nat) (cur : Array Value), A = some ⟨g, off, none⟩ ∧ base ≤ g ∧ w.heap[g]? = some (.cells cur 3 (0, 0)) ∧ off + c ≤ cur.size ∧ ∀ (k : Nat) (x : Int), xs[k]? = some x → cur[off + k]? = some (.int .i64 x))
theorem Tail.nil (w : World) (base : Nat) : Tail w base none 0 0 [] := ⟨rfl, Nat.le_refl _, .inl ⟨rfl, rfl⟩⟩
section
variable {w w1 : World} {base n c : Nat} {A : Option Addr} {xs : List Int}
theorem Tail.only {S : Nat → Prop} (h : Tail w base A n c xs) (k : Only S w w1) (hs : ∀ b, blockOf A b → ¬ S b) : Tail w1 base A n c xs := by
  refine ⟨h.1, h.2.1, h.2.2.imp id ?_⟩
  rintro ⟨g, off, cur, rfl, hb, hh, r⟩
  exact ⟨g, off, cur, rfl, hb, (k.block g (Array.getElem?_eq_some_iff.1 hh).1 (hs g ⟨_, rfl, rfl⟩)).trans hh, r⟩
theorem Tail.below (h : Tail w base A n c xs) (k : Below w.heap.size w w1) : Tail w1 base A n c xs := by
  refine ⟨h.1, h.2.1, h.2.2.imp id ?_⟩
  rintro ⟨g, off, cur, rfl, hb, hh, r⟩
  exact ⟨g, off, cur, rfl, hb, (k.block g (Array.getElem?_eq_some_iff.1 hh).1).trans hh, r⟩
theorem Tail.lt (h : Tail w base A n c xs) : ∀ b, blockOf A b → base ≤ b ∧ b < w.heap.size := by
  rintro b ⟨a, rfl, rfl⟩
  rcases h.2.2 with ⟨h, _⟩ | ⟨g, off, cur, e, hb, hh, _⟩
  · cases h
  · injection e with e
    subst e
    exact ⟨hb, (Array.getElem?_eq_some_iff.1 hh).1⟩
theorem Tail.typ (h : Tail w base A n c xs) : ∀ b o, w.heap[b]? = some o → (∀ cur, o ≠ .cells cur 3 (0, 0)) → ¬ blockOf A b := by
  rintro b o ho hne ⟨a, rfl, rfl⟩
  rcases h.2.2 with ⟨h, _⟩ | ⟨g, off, cur, e, hb, hh, _⟩
  · cases h
  · injection e with e
    subst e
    rw [hh] at ho
    injection ho with ho
    exact hne cur ho.symm
/-- the head's cell -/
theorem Tail.head {x : Int} (h : Tail w base A n c (x :: xs)) : ∃ g off, A = some ⟨g, off, none⟩ ∧ w.cell? ⟨g, off, none⟩ = some (.int .i64 x) := by
  rcases h.2.2 with ⟨_, h0⟩ | ⟨g, off, cur, e, hb, hh, _, hc⟩
  · have e1 : xs.length + 1 = n := h.1
    have := h.2.1
    omega
  · refine ⟨g, off, e, ?_⟩
    rw [cell_of_row w g off cur _ _ hh]
    exact hc 0 x rfl
/-- without its head; where there is no capacity left the address may stay -/
theorem Tail.tail {x : Int} {g off : Nat} (h : Tail w base (some ⟨g, off, none⟩) n c (x :: xs)) : Tail w base (some ⟨g, off + 1, none⟩) (n - 1) (c - 1) xs ∧ (c = 1 → Tail w base (some ⟨g, off, none⟩) (n - 1) (c - 1) xs) := by
  have h1 := h.1
  have h2 := h.2.1
  simp at h1
  rcases h.2.2 with ⟨h0, _⟩ | ⟨g', off', cur, e, hb, hh, hsz, hc⟩
  · cases h0
  · injection e with e
    injection e with e1 e2
    subst e1; subst e2
    refine ⟨⟨by omega, by omega, .inr ⟨g, off + 1, cur, rfl, hb, hh, by omega, fun k y hk => ?_⟩⟩, fun hc1 => ⟨by omega, by omega, .inr ⟨g, off, cur, rfl, hb, hh, by omega, fun k y hk => ?_⟩⟩⟩
    · have := hc (k + 1) y (by simpa using hk)
      rwa [show off + (k + 1) = off + 1 + k by omega] at this
    · have := (List.getElem?_eq_some_iff.1 hk).1
      omega
/-- a row of the call's own is such a slice -/
theorem Tail.of_own {v : Value} (h : w.ownsRow base 3 1 v n (xs.map (Value.int .i64))) : ∃ A c, v = .slice A n c ∧ Tail w base A n c xs := by
  have hl : xs.length = n := by simpa using h.1
  rcases h.2 with ⟨rfl, h0⟩ | ⟨g, cap, cur, rfl, hb, hh, hle, _, hsz, ht⟩
  · have h0' : n = 0 := by omega
    subst h0'
    exact ⟨none, 0, rfl, hl, Nat.le_refl _, .inl ⟨rfl, rfl⟩⟩
  · refine ⟨_, _, rfl, hl, hle, .inr ⟨g, 0, cur, rfl, hb, hh, by omega, fun k x hk => ?_⟩⟩
    have hlt : k < n := by have := (List.getElem?_eq_some_iff.1 hk).1; omega
    have h1 : (cur.toList.take (n * 1))[k]? = some (.int .i64 x) := by rw [ht, List.getElem?_map, hk]; rfl
    rw [List.getElem?_take, if_pos (by omega)] at h1
    rw [Nat.zero_add]
    simpa using h1
end
theorem elIntT : Elem Try.prog 26 3 1 8 := elem_mk Try.underlying26 (z := .int .i64 0) (by kernel_rfl) rfl (by omega) (by omega)

theorem run_append_tail {w : World} {base n c : Nat} {A : Option Addr} {xs : List Int} (ty : TypeId) (h : Tail w base A n c xs) (hb : base ≤ w.heap.size) (ad : Addr) (d : Nat) (x : Int) (hx : w.cell? ad = some (.int .i64 x)) (hbytes : n ≤ 1000000000000) :
    ∃ A' c' w', (Builtin.append_ #[26, 26] ty #[.slice A n c, .slice (some ad) 1 d]).run Try.prog w = .ok (.slice A' (n + 1) c') w' ∧ Tail w' base A' (n + 1) c' (xs ++ [x]) ∧ Only (blockOf A) w w' ∧ (∀ k, blockOf A' k → blockOf A k ∨ w.heap.size ≤ k) := by
  obtain ⟨i, z, ht, hi, hz, hsz, hby, hzs, hpos, hbpos⟩ := elIntT
  have hnews : ∀ j u, [Value.int .i64 x][j]? = some u → w.cell? (ad.add j) = some u := fun j u hu => by
    rcases j with _ | j
    · simp at hu; subst hu; simpa [Addr.add] using hx
    · simp at hu
  have hl0 := h.1
  have hsome : ∀ (g off : Nat), A = some ⟨g, off, none⟩ → c < n + 1 → (∀ j u, (xs.map (Value.int .i64))[j]? = some u → w.cell? ((⟨g, off, none⟩ : Addr).add j) = some u) → ∃ A' c' w', (Builtin.append_ #[26, 26] ty #[.slice A n c, .slice (some ad) 1 d]).run Try.prog w = .ok (.slice A' (n + 1) c') w' ∧ Tail w' base A' (n + 1) c' (xs ++ [x]) ∧ Only (blockOf A) w w' ∧ (∀ k, blockOf A' k → blockOf A k ∨ w.heap.size ≤ k) := by
    intro g off hA hc holds
    subst hA
    obtain ⟨v', w', hrun, ho, hg⟩ := run_append_arg_grows (P := Try.prog) w 26 ty 3 i z 1 8 ht hi hz hsz hby hzs (by omega) ⟨g, off, none⟩ n c (xs.map (Value.int .i64)) (by simpa using hl0) holds ad 1 d [.int .i64 x] (by simp) hnews hc (by unfold maxLen; omega) (by omega)
    obtain ⟨A', c', rfl, hT⟩ := Tail.of_own (xs := xs ++ [x]) (by simpa using ho)
    refine ⟨A', c', w', hrun, ⟨hT.1, hT.2.1, hT.2.2.imp id ?_⟩, ⟨hg.os, hg.tape, hg.output, hg.size, fun k hk _ => hg.block k hk (by simp)⟩, fun k hk => .inr (hT.lt k hk).1⟩
    rintro ⟨g', off', cur, e, hbg, r⟩
    exact ⟨g', off', cur, e, by omega, r⟩
  rcases h.2.2 with ⟨rfl, rfl⟩ | ⟨g, off, cur, rfl, hbg, hh, hsize, hc⟩
  · have hn : n = 0 := by have := h.2.1; omega
    subst hn
    obtain rfl : xs = [] := List.eq_nil_of_length_eq_zero hl0
    obtain ⟨v', w', hrun, ho, hg, _⟩ := run_append_own (P := Try.prog) w w.heap.size 26 ty 3 i z 1 8 ht hi hz hsz hby hzs (by omega) (.slice none 0 0) 0 [] (World.ownsRow_nil w _ _ _) ad 1 d [.int .i64 x] (by simp) hnews (by simp [Value.oneCell']) (by unfold maxLen; omega) (by omega) (Nat.le_refl _)
    obtain ⟨A', c', rfl, hT⟩ := Tail.of_own (xs := [x]) (by simpa using ho)
    refine ⟨A', c', w', by simpa using hrun, ⟨hT.1, hT.2.1, hT.2.2.imp id ?_⟩, ⟨hg.os, hg.tape, hg.output, hg.size, fun k hk _ => hg.block k hk (by simp [Value.ownBlock])⟩, fun k hk => .inr (hT.lt k hk).1⟩
    rintro ⟨g', off', cur, e, hbg, r⟩
    exact ⟨g', off', cur, e, by omega, r⟩
  · by_cases hroom : n + 1 ≤ c
    · have hcell : w.cell? ⟨g, off + n, none⟩ = some (cur[off + n]'(by omega)) := by
        rw [cell_of_row w g _ cur _ _ hh, Array.getElem?_eq_getElem (by omega)]
      have hfr : w.frozen? ⟨g, off + n, none⟩ = false := by simp [World.frozen?, hh]
      have hrun := run_append_room_cells (P := Try.prog) w 26 ty 3 i ht hi g off n c ad 1 d [.int .i64 x] (by simp [hsz]) hnews (by simp [Value.oneCell']) hroom
        (fun j hj => by
          obtain rfl : j = 0 := by simpa using hj
          rw [hsz, Nat.mul_one, Nat.add_zero, hcell]; rfl)
        (fun j hj => by
          obtain rfl : j = 0 := by simpa using hj
          rw [hsz, Nat.mul_one, Nat.add_zero]; exact hfr)
      rw [hsz, Nat.mul_one] at hrun
      have hset : w.setCells g (off + n) [.int .i64 x] = w.setCell ⟨g, off + n, none⟩ (.int .i64 x) := rfl
      rw [hset] at hrun
      refine ⟨_, _, _, hrun, ⟨by simp [hl0], hroom, .inr ⟨g, off, cur.setIfInBounds (off + n) (.int .i64 x), rfl, hbg, by simp [World.setCell, Array.getElem?_modify, hh], by simpa using hsize, fun k y hk => ?_⟩⟩, (Only.refl _ w).setCell (p := ⟨g, off + n, none⟩) (fun _ => ⟨_, rfl, rfl⟩) _, fun k hk => .inl hk⟩
      rw [Array.getElem?_setIfInBounds]
      by_cases e : k = n
      · subst e
        rw [List.getElem?_append_right (by omega), hl0] at hk
        simp at hk
        subst hk
        rw [if_pos rfl, if_pos (by omega)]
      · have hk' : k < xs.length := by
          have := (List.getElem?_eq_some_iff.1 hk).1
          simp at this; omega
        rw [if_neg (by omega)]
        rw [List.getElem?_append_left hk'] at hk
        exact hc k y hk
    · refine hsome g off rfl (by omega) (fun j u hu => ?_)
      rw [List.getElem?_map] at hu
      cases hx2 : xs[j]? with
      | none => rw [hx2] at hu; cases hu
      | some y =>
        rw [hx2] at hu
        simp at hu
        subst hu
        rw [add_eq, cell_of_row w g _ cur _ _ hh]
        exact hc j y hx2
/-- 'append(todo, x)' in a walk -/
theorem wp_append_tail {w : World} {ops : Array Oper} {rest : List Oper} {o : Oper} {a : Act} {Q : Exit → Act → World → Prop} (hgd : o.guard = none) (s x : Operand)
    (ho : o.op = .call { callee := .builtin .append, args := #[s, x], argTypes := #[26, 26] }) {base n c : Nat} {A : Option Addr} {xs : List Int} (hs : a.eval s = .slice A n c) (h : Tail w base A n c xs) (hb : base ≤ w.heap.size)
    (ad : Addr) (d : Nat) (y : Int) (hx : a.eval x = .slice (some ad) 1 d) (hy : w.cell? ad = some (.int .i64 y)) (hbytes : n ≤ 1000000000000)
    (hK : ∀ A' c' w', Tail w' base A' (n + 1) c' (xs ++ [y]) → Only (blockOf A) w w' → (∀ k, blockOf A' k → blockOf A k ∨ w.heap.size ≤ k) → wpList Try.prog ops Q rest (a.put o.dst (.slice A' (n + 1) c')) w') :
    wpList Try.prog ops Q (o :: rest) a w := by
  obtain ⟨A', c', w', hr, h1, h2, h3⟩ := run_append_tail o.type h hb ad d y hy hbytes
  refine wpList_plain hgd fun K hK' => ?_
  unfold Oper.wp execOp
  simp only [ho, resolve, invoke, builtin, Sem.run_bind, Sem.run_pure, Result.andThen_ok, List.map_toArray, List.map_cons, List.map_nil, hs, hx, hr]
  exact hK' _ _ (hK A' c' w' h1 h2 h3)
end Go.Proofs.Ytkanekacjefcbaa
