/- Words for a list of clauses of the call's own; a literal's number in a frame, walked on both sides. Conditions: the maker lies in memory, the numbers are small. -/
import Derived.Test.YtkanekacjefcbaaMovedJ
import Derived.Test.YtkanekacjefcbaaArr
import Derived.Test.YtkanekacjefcbaaDrawnQ
import Derived.Deep.DeepCutAuto
namespace Go.Proofs.Ytkanekacjefcbaa
open Go.RowKit

/-- a clause in a block of the call's own from base on -/
def OwnL (w : World) (base : Nat) (B : Option Addr) (l : List Int) : Prop :=
  0 < l.length → ∃ (b m : Nat) (U : Nat → Value), B = some ⟨b, 0, none⟩ ∧ base ≤ b ∧ l.length ≤ m ∧ Arr w b 3 m U ∧ ∀ k x, l[k]? = some x → U k = .int .i64 x
theorem OwnL.typ {S : Nat → Prop} {w w1 : World} {base : Nat} {B : Option Addr} {l : List Int} (h : OwnL w base B l) (k : Only S w w1) (hs : ∀ b cur, base ≤ b → w.heap[b]? = some (.cells cur 3 (0, 0)) → ¬ S b) : OwnL w1 base B l := fun hn => by
  obtain ⟨b, m, U, e, hb, hm, ⟨cur, hh, hc⟩, hU⟩ := h hn
  exact ⟨b, m, U, e, hb, hm, Arr.only ⟨cur, hh, hc⟩ k (hs b cur hb hh), hU⟩
theorem OwnL.below {w w1 : World} {base : Nat} {B : Option Addr} {l : List Int} (h : OwnL w base B l) (k : Below w.heap.size w w1) : OwnL w1 base B l := fun hn => by
  obtain ⟨b, m, U, e, hb, hm, hA, hU⟩ := h hn
  exact ⟨b, m, U, e, hb, hm, hA.below k, hU⟩
theorem OwnL.row {w : World} {base : Nat} {B : Option Addr} {l : List Int} (h : OwnL w base B l) : Row1 w B l.length (fun k => .int .i64 (l.getD k 0)) := fun hn => by
  obtain ⟨b, m, U, rfl, _, hm, hA, hU⟩ := h hn
  refine ⟨b, 0, rfl, fun k hk => ?_⟩
  rw [Nat.zero_add, hA.cell (by omega), hU k (l.getD k 0) (by rw [List.getElem?_eq_getElem hk, List.getD_eq_getElem?_getD, List.getElem?_eq_getElem hk]; rfl)]
/-- a clause as a literal slice makes it -/
theorem OwnL.new (w : World) (base : Nat) (l : List Int) (us : Array Value) (hu : us = (l.map (Value.int .i64)).toArray) (hb : base ≤ w.heap.size) : OwnL (w.alloc (.cells us 3)) base (some ⟨w.heap.size, 0, none⟩) l := fun _ => by
  subst hu
  refine ⟨w.heap.size, _, _, rfl, hb, by simp, Arr.new w _ _, fun k x hx => ?_⟩
  simp only [Array.getD_eq_getD_getElem?]
  simp [hx]

/-- where a clause of a list lies -/
def clauseV (v : Option Addr × Nat) (l : List Int) : Value := .slice v.1 l.length v.2
/-- a list of clauses of the call's own -/
structure Cl (w : World) (base : Nat) (A : Option Addr) (c : Nat) (L : List (List Int)) (vs : List (Option Addr × Nat)) : Prop where
  len : vs.length = L.length
  own : w.ownsRow base 26 1 (.slice A L.length c) L.length (List.zipWith clauseV vs L)
  rows : ∀ (i : Nat) (v : Option Addr × Nat) (l : List Int), vs[i]? = some v → L[i]? = some l → OwnL w base v.1 l
theorem Cl.nil (w : World) (base : Nat) : Cl w base none 0 [] [] := ⟨rfl, World.ownsRow_nil _ _ _ _, fun i v l h => by simp at h⟩
section
variable {w w1 : World} {base c : Nat} {A : Option Addr} {L : List (List Int)} {vs : List (Option Addr × Nat)}
theorem Cl.below (h : Cl w base A c L vs) (k : Below w.heap.size w w1) : Cl w1 base A c L vs := ⟨h.len, own_below h.own k, fun i v l h1 h2 => (h.rows i v l h1 h2).below k⟩
theorem Cl.only {S : Nat → Prop} (h : Cl w base A c L vs) (k : Only S w w1) (hs : ∀ b, base ≤ b → ¬ S b) : Cl w1 base A c L vs :=
  ⟨h.len, own_only h.own k (fun b hb => hs b (own_base h.own b hb)), fun i v l h1 h2 => (h.rows i v l h1 h2).typ k (fun b _ hb _ => hs b hb)⟩
theorem Cl.push {A' B : Option Addr} {c' d : Nat} {l : List Int} (h : Cl w base A c L vs)
    (ho : w1.ownsRow base 26 1 (.slice A' (L.length + 1) c') (L.length + 1) (List.zipWith clauseV vs L ++ [.slice B l.length d])) (hk : Only (blockOf A) w w1) (hB : OwnL w base B l) : Cl w1 base A' c' (L ++ [l]) (vs ++ [(B, d)]) := by
  have hty := own_type (e' := 3) h.own (by decide)
  refine ⟨by simp [h.len], ?_, fun i v x h1 h2 => ?_⟩
  · rw [List.length_append, List.length_singleton, List.zipWith_append h.len]
    exact ho
  · by_cases hi : i < L.length
    · rw [List.getElem?_append_left (by rw [h.len]; exact hi)] at h1
      rw [List.getElem?_append_left hi] at h2
      exact (h.rows i v x h1 h2).typ hk (fun b cur _ hb => hty b cur hb)
    · have hi' : i = L.length := by
        have := (List.getElem?_eq_some_iff.1 h2).1
        simp at this; omega
      rw [List.getElem?_append_right (by rw [h.len]; omega)] at h1
      rw [List.getElem?_append_right (by omega)] at h2
      rw [h.len, hi', Nat.sub_self] at h1
      rw [hi', Nat.sub_self] at h2
      simp only [List.getElem?_cons_zero, Option.some.injEq] at h1 h2
      subst h1; subst h2
      exact hB.typ hk (fun b cur _ hb => hty b cur hb)
end
/-- a row of ints that an append has made, as a clause -/
theorem OwnL.of_own {w : World} {base n c : Nat} {B : Option Addr} {l : List Int} (h : w.ownsRow base 3 1 (.slice B n c) n (l.map (Value.int .i64))) (hn : l.length = n) : OwnL w base B l := fun hp => by
  rcases h.2 with ⟨_, h0⟩ | ⟨g, cap, cur, hv, hb, hh, hle, _, hsz, htake⟩
  · omega
  · injection hv with hA _ hc
    subst hA
    refine ⟨g, cur.size, fun k => cur.getD k undef, rfl, hb, by omega, ⟨cur, hh, rfl, fun k hk => by simp [hk]⟩, fun k x hx => ?_⟩
    have hk : k < l.length := (List.getElem?_eq_some_iff.1 hx).1
    have h1 : (cur.toList.take (n * 1))[k]? = some (.int .i64 x) := by rw [htake, List.getElem?_map, hx]; rfl
    rw [List.getElem?_take, if_pos (by omega)] at h1
    have h2 : cur[k]? = some (.int .i64 x) := by simpa using h1
    simp [h2]
/-- no clause of the list lies in the row B -/
def Off (vs : List (Option Addr × Nat)) (L : List (List Int)) (B : Option Addr) : Prop := ∀ (i : Nat) (v : Option Addr × Nat) (l : List Int), vs[i]? = some v → L[i]? = some l → 0 < l.length → ∀ k, blockOf v.1 k → ¬ blockOf B k
theorem Off.nil (vs : List (Option Addr × Nat)) (L : List (List Int)) : Off vs L none := fun _ _ _ _ _ _ _ _ ⟨_, e, _⟩ => by cases e
section
variable {w w1 : World} {base c : Nat} {A B : Option Addr} {L : List (List Int)} {vs : List (Option Addr × Nat)}
theorem Off.push {B' : Option Addr} {d : Nat} {l : List Int} (h : Off vs L B) (hlen : vs.length = L.length) (hn : ∀ k, blockOf B' k → ¬ blockOf B k) : Off (vs ++ [(B', d)]) (L ++ [l]) B := by
  intro i v x h1 h2 h3
  by_cases hi : i < L.length
  · rw [List.getElem?_append_left (by rw [hlen]; exact hi)] at h1
    rw [List.getElem?_append_left hi] at h2
    exact h i v x h1 h2 h3
  · have hi' : i = L.length := by
      have := (List.getElem?_eq_some_iff.1 h2).1
      simp at this; omega
    rw [List.getElem?_append_right (by rw [hlen]; omega), hlen, hi', Nat.sub_self] at h1
    simp only [List.getElem?_cons_zero, Option.some.injEq] at h1
    subst h1
    exact hn
theorem Off.moved {B' : Option Addr} (h : Off vs L B) (hc : Cl w base A c L vs) (hB : ∀ k, blockOf B' k → blockOf B k ∨ w.heap.size ≤ k) : Off vs L B' := by
  intro i v l h1 h2 h3 k hk hb
  rcases hB k hb with hb | hb
  · exact h i v l h1 h2 h3 k hk hb
  · obtain ⟨b, m, U, e, _, _, hA, _⟩ := hc.rows i v l h1 h2 h3
    obtain ⟨a, ha, rfl⟩ := hk
    rw [e] at ha
    injection ha with ha
    subst ha
    have hlt := hA.lt
    have hb' : w.heap.size ≤ b := hb
    omega
/-- writes to a row of ints that is none of its clauses -/
theorem Cl.off (h : Cl w base A c L vs) (k : Only (blockOf B) w w1) (ho : Off vs L B) (hty : ∀ k, blockOf A k → ¬ blockOf B k) : Cl w1 base A c L vs :=
  ⟨h.len, own_only h.own k hty, fun i v l h1 h2 hn => by
    obtain ⟨b, m, U, e, hb, hm, hA, hU⟩ := h.rows i v l h1 h2 hn
    exact ⟨b, m, U, e, hb, hm, hA.only k (ho i v l h1 h2 hn b ⟨_, e, rfl⟩), hU⟩⟩
end
theorem elIntRow : Elem Try.prog 22 26 1 24 := elem_mk Try.underlying22 (z := .slice none 0 0) (by kernel_rfl) rfl (by omega) (by omega)

set_option maxHeartbeats 1000000 in
/-- how many variables, as the reference has it -/
theorem varsJ_any (ins : Int) (A1 A2 A3 : Option Addr) (n1 n2 n3 c1 c2 c3 : Nat) (w : World) (h0 : 0 ≤ ins) (h1 : ins ≤ 1000000000000000) (hn1 : n1 ≤ 1000000000000000) (hn2 : n2 ≤ 1000000000000000) :
    Calls Try.prog 42 #[.agg #[.int .i64 ins, .slice A1 n1 c1, .slice A2 n2 c2, .slice A3 n3 c3]] w fun e w' => e = .returned (.int .i64 (1 + ins + n1 + n2)) ∧ Below w.heap.size w w' := by
  go_enter Try.func42, Try.ntmps42
  go_wp2
  go_ret
  exact ⟨rfl, (Below.refl _ _).alloc (Nat.le_refl _) _⟩

set_option maxHeartbeats 1000000 in
theorem atW_any (b n fr l : Nat) (w : World) (hb : w.cell? ⟨b, 4, none⟩ = some (.int .i64 n)) (hn : n ≤ 1000000000000) (hf : fr ≤ 2) (hl : l ≤ 1000000000000) :
    Calls Try.prog 37 #[.pointer (some ⟨b, 0, none⟩), .int .i64 fr, .int .i64 l] w fun e w' => e = .returned (.int .i64 (atC n fr l)) ∧ w = w' := by
  have E1 := Lib.hid (and1_nat (n := l) (by omega))
  obtain ⟨m, hm⟩ : ∃ m : Nat, m = fr * n := ⟨_, rfl⟩
  have hmul : (fr : Int) * n = m := by rw [hm]; simp
  have hmb : m ≤ 2000000000000 := by
    rw [hm]
    exact Nat.le_trans (Nat.mul_le_mul hf hn) (by decide)
  clear hm
  go_enter Try.func37, Try.ntmps37
  by_cases ho : l % 2 = 1
  · have hd : (bits .and .i64 (l : Int) 1 == 1) = true := by rw [E1.out, ho]; rfl
    have HV : Hid (-((m : Int) + (l : Int) / 2 + 1) = atC n fr l) := Lib.hid (by unfold atC; rw [hmul, if_pos (by omega)])
    generalize atC n fr l = z at *
    go_wp2
    go_ret
    exact ⟨congrArg (fun x => Ending.returned (Value.int .i64 x)) HV.out, rfl⟩
  · have hd : (bits .and .i64 (l : Int) 1 == 1) = false := by rw [E1.out, show l % 2 = 0 by omega]; rfl
    have HV : Hid ((m : Int) + (l : Int) / 2 + 1 = atC n fr l) := Lib.hid (by unfold atC; rw [hmul, if_neg (by omega)])
    generalize atC n fr l = z at *
    go_wp2
    go_ret
    exact ⟨congrArg (fun x => Ending.returned (Value.int .i64 x)) HV.out, rfl⟩

set_option maxHeartbeats 1000000 in
theorem atM_any (g : G) (b fr l : Nat) (A1 A2 A3 : Option Addr) (c1 c2 c3 : Nat) (n : Nat) (w : World) (h0 : w.cell? ⟨b, 0, none⟩ = some (.int .i64 g.ins)) (h1 : w.cell? ⟨b, 1, none⟩ = some (.slice A1 g.n1 c1)) (h2 : w.cell? ⟨b, 2, none⟩ = some (.slice A2 g.n2 c2)) (h3 : w.cell? ⟨b, 3, none⟩ = some (.slice A3 g.n3 c3))
    (hg : 0 ≤ g.ins) (hgn : g.vars = n) (hn : n ≤ 1000000000000) (hf : fr ≤ 2) (hl : l ≤ 1000000000000) :
    Calls Try.prog 47 #[.pointer (some ⟨b, 0, none⟩), .int .i64 fr, .int .i64 l] w fun e w' => e = .returned (.int .i64 (atC n fr l)) ∧ Below w.heap.size w w' := by
  have hvb : g.ins + g.n1 + g.n2 < n := by unfold G.vars at hgn; omega
  have HV0 := Lib.hid hgn
  clear hgn
  obtain ⟨m, hm⟩ : ∃ m : Nat, m = fr * n := ⟨_, rfl⟩
  have hmul : (fr : Int) * n = m := by rw [hm]; simp
  have hmb : m ≤ 2000000000000 := by
    rw [hm]
    exact Nat.le_trans (Nat.mul_le_mul hf hn) (by decide)
  clear hm
  go_enter Try.func47, Try.ntmps47
  go_wp2_with fail
  refine (varsJ_any g.ins A1 A2 A3 g.n1 g.n2 g.n3 c1 c2 c3 _ hg (by omega) (by omega) (by omega)).mono ?_
  rintro e w1 ⟨rfl, hb1⟩
  have hw : 1 + g.ins + g.n1 + g.n2 = (n : Int) := HV0.out
  rw [hw]
  clear hw
  by_cases ho : l % 2 = 1
  · have hd : ((l : Int) % 2 == 1) = true := by simp; omega
    have HV : Hid (-((m : Int) + (l : Int) / 2 + 1) = atC n fr l) := Lib.hid (by unfold atC; rw [hmul, if_pos (by omega)])
    go_wp2
    go_ret
    exact ⟨congrArg (fun x => Ending.returned (Value.int .i64 x)) HV.out, hb1⟩
  · have hd : ((l : Int) % 2 == 1) = false := by simp; omega
    have HV : Hid ((m : Int) + (l : Int) / 2 + 1 = atC n fr l) := Lib.hid (by unfold atC; rw [hmul, if_neg (by omega)])
    go_wp2
    go_ret
    exact ⟨congrArg (fun x => Ending.returned (Value.int .i64 x)) HV.out, hb1⟩

set_option maxHeartbeats 1000000 in
theorem putW_any (b base : Nat) (V : Nat → Value) (A : Option Addr) (c : Nat) (L : List (List Int)) (vs : List (Option Addr × Nat)) (B : Option Addr) (d : Nat) (l : List Int) (w : World)
    (hb : Arr w b 73 7 V) (hV : V 6 = .slice A L.length c) (hC : Cl w base A c L vs) (hl : OwnL w base B l) (hlt : b < base) (hbase : base ≤ w.heap.size) (hsm : L.length ≤ 100000000000) :
    Calls Try.prog 36 #[.pointer (some ⟨b, 0, none⟩), .slice B l.length d] w fun e w' => (∃ v, e = .returned v) ∧ ∃ A' c', Arr w' b 73 7 (fun j => if j = 6 then .slice A' (L ++ [l]).length c' else V j) ∧ Cl w' base A' c' (L ++ [l]) (vs ++ [(B, d)]) ∧ Only (fun k => k = b ∨ blockOf A k) w w' := by
  have c0 := hb.cell (k := 6) (by omega)
  rw [hV] at c0
  have HA := Lib.hid hb; have HV := Lib.hid hV
  clear hb hV
  have hal : Below w.heap.size w (w.alloc (.cells #[.slice B l.length d] 26)) := (Below.refl _ _).alloc (Nat.le_refl _) _
  go_enter Try.func36, Try.ntmps36
  go_wp2_with (at_builtin; refine wp_append rfl (.tmp 9) (.tmp 11) _ rfl elIntRow base A L.length c _ rfl (hC.own.alloc _) _ 1 1 [.slice B l.length d] rfl (src_new _ _ _ rfl) (by omega) (sz_alloc hbase) ?_; intro A' c' w8 ho hk' hb'; have hA8 := (HA.out.below hal).only hk' (fun c => by have := own_base hC.own _ c; omega); have c8 := hA8.cell (k := 6) (by omega); have f8 := hA8.thaw 6)
  have hC8 := (hC.below hal).push (l := l) ho hk' (hl.below hal)
  have hO8 : Only (fun k => k = b ∨ blockOf A k) w (w8.setCell ⟨b, 6, none⟩ (.slice A' (L.length + 1) c')) :=
    (((Only.refl (fun k => k = b ∨ blockOf A k) w).alloc (.cells #[.slice B l.length d] 26)).then_ hk' (fun i _ c => .inr c)).setCell (p := ⟨b, 6, none⟩) (fun _ => .inl rfl) _
  have hOs : Only (fun k => k = b) w8 (w8.setCell ⟨b, 6, none⟩ (.slice A' (L.length + 1) c')) := (Only.refl (fun k => k = b) w8).setCell (p := ⟨b, 6, none⟩) (fun _ => rfl) _
  have hCs := hC8.only hOs (fun k hk e => by omega)
  have hAs := hA8.set (k := 6) (x := .slice A' (L.length + 1) c') (V' := fun j => if j = 6 then .slice A' (L ++ [l]).length c' else V j) (fun j _ hj => by simp [hj]) (by simp)
  go_end0
  exact ⟨⟨_, rfl⟩, A', c', hAs, hCs, hO8⟩

set_option maxHeartbeats 1000000 in
theorem putM_any (b base : Nat) (V : Nat → Value) (A : Option Addr) (c : Nat) (L : List (List Int)) (vs : List (Option Addr × Nat)) (B : Option Addr) (d : Nat) (l : List Int) (w : World)
    (hb : Arr w b 83 6 V) (hV : V 5 = .slice A L.length c) (hC : Cl w base A c L vs) (hl : OwnL w base B l) (hlt : b < base) (hbase : base ≤ w.heap.size) (hsm : L.length ≤ 100000000000) :
    Calls Try.prog 46 #[.pointer (some ⟨b, 0, none⟩), .slice B l.length d] w fun e w' => (∃ v, e = .returned v) ∧ ∃ A' c', Arr w' b 83 6 (fun j => if j = 5 then .slice A' (L ++ [l]).length c' else V j) ∧ Cl w' base A' c' (L ++ [l]) (vs ++ [(B, d)]) ∧ Only (fun k => k = b ∨ blockOf A k) w w' := by
  have c0 := hb.cell (k := 5) (by omega)
  rw [hV] at c0
  have HA := Lib.hid hb; have HV := Lib.hid hV
  clear hb hV
  have hal : Below w.heap.size w (w.alloc (.cells #[.slice B l.length d] 26)) := (Below.refl _ _).alloc (Nat.le_refl _) _
  go_enter Try.func46, Try.ntmps46
  go_wp2_with (at_builtin; refine wp_append rfl (.tmp 9) (.tmp 11) _ rfl elIntRow base A L.length c _ rfl (hC.own.alloc _) _ 1 1 [.slice B l.length d] rfl (src_new _ _ _ rfl) (by omega) (sz_alloc hbase) ?_; intro A' c' w8 ho hk' hb'; have hA8 := (HA.out.below hal).only hk' (fun c => by have := own_base hC.own _ c; omega); have c8 := hA8.cell (k := 5) (by omega); have f8 := hA8.thaw 5)
  have hC8 := (hC.below hal).push (l := l) ho hk' (hl.below hal)
  have hO8 : Only (fun k => k = b ∨ blockOf A k) w (w8.setCell ⟨b, 5, none⟩ (.slice A' (L.length + 1) c')) :=
    (((Only.refl (fun k => k = b ∨ blockOf A k) w).alloc (.cells #[.slice B l.length d] 26)).then_ hk' (fun i _ c => .inr c)).setCell (p := ⟨b, 5, none⟩) (fun _ => .inl rfl) _
  have hOs : Only (fun k => k = b) w8 (w8.setCell ⟨b, 5, none⟩ (.slice A' (L.length + 1) c')) := (Only.refl (fun k => k = b) w8).setCell (p := ⟨b, 5, none⟩) (fun _ => rfl) _
  have hCs := hC8.only hOs (fun k hk e => by omega)
  have hAs := hA8.set (k := 5) (x := .slice A' (L.length + 1) c') (V' := fun j => if j = 5 then .slice A' (L ++ [l]).length c' else V j) (fun j _ hj => by simp [hj]) (by simp)
  go_end0
  exact ⟨⟨_, rfl⟩, A', c', hAs, hCs, hO8⟩
end Go.Proofs.Ytkanekacjefcbaa
