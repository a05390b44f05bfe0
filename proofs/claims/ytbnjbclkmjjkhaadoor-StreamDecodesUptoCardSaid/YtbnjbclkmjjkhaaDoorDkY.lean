/- For stream.Decode: the loop over the fields begins; a field's slot; what the loop leaves. No condition. -/
import Derived.Test.YtbnjbclkmjjkhaaDoorDkX
namespace Go.Proofs.YtbnjbclkmjjkhaaDoor
open Go.RowKit Go.Shelf Go.Deep

theorem blank_fits {l : List UInt8} {AC : Option Addr} {cC bR bO : Nat} {CB : Nat → Nat} (h : ShOk (shD l)) : (blankC l AC cC bR bO CB).Fits := by
  have h0 := h.s0; have h1 := h.s1; have h2 := h.s2; have h3 := h.s3; have h4 := h.s4
  have e1 : shD l 1 = (tkv l 48 16 : Nat) := rfl
  have e2 : shD l 2 = (tkv l 64 16 : Nat) := rfl
  have e3 : shD l 3 = (tkv l 80 16 : Nat) := rfl
  have e4 : shD l 4 = (tkv l 96 16 : Nat) := rfl
  refine ⟨?_, fun i _ => ?_, ?_, ?_, fun i hi => ?_⟩
  · show tkv l 96 16 ≤ _; omega
  · show tkv l 80 16 ≤ _; omega
  · show tkv l 64 16 ≤ _; omega
  · show tkv l 48 16 ≤ _; omega
  · show -9223372036854775808 ≤ shD l i ∧ shD l i ≤ 9223372036854775807
    obtain rfl | rfl | rfl | rfl | rfl : i = 0 ∨ i = 1 ∨ i = 2 ∨ i = 3 ∨ i = 4 := by omega
    all_goals omega
theorem blank_ptr {l : List UInt8} {AC : Option Addr} {cC bR bO : Nat} {CB : Nat → Nat} : (blankC l AC cC bR bO CB).Ptr :=
  ⟨fun i _ _ => ⟨CB i, 0, rfl⟩, fun _ => ⟨bR, 0, rfl⟩, fun _ => ⟨bO, 0, rfl⟩⟩
theorem blank_dims {l : List UInt8} {AC : Option Addr} {cC bR bO : Nat} {CB : Nat → Nat} (h : ShOk (shD l)) : (blankC l AC cC bR bO CB).Dims := lay_dims.2 (dec_dims l h)

/-- the loop over the fields begins -/
theorem dkJ0 {l : List UInt8} {A : Option Addr} {c n0 m na bX bR bO cC : Nat} {AC : Option Addr} {CB : Nat → Nat} {wb wr : World}
    (hL : Lay8 l A c n0 m 5 wb) (hO : Only (fun b => b = bX ∨ wb.heap.size ≤ b) wb wr)
    (hX : wr.heap[bX]? = some (.cells #[.int .i64 (shD (body l) 0), .int .i64 (shD (body l) 1), .int .i64 (shD (body l) 2), .int .i64 (shD (body l) 3), .int .i64 (shD (body l) 4), .slice AC (dec (body l)).nc cC, .slice (some ⟨bR, 0, none⟩) (dec (body l)).nr (dec (body l)).nr, .slice (some ⟨bO, 0, none⟩) (dec (body l)).no (dec (body l)).no] 31))
    (hC : ColsZ wr wb.heap.size AC (dec (body l)).nc cC (tkv (body l) 80 16) CB) (hR : Arr wb bR 57 ((dec (body l)).nr * 2) regZ) (hU : Arr wb bO 3 (dec (body l)).no (fun _ => .int .i64 0))
    (hRB : wb.heap[n0 + 1]? = some (.cells #[.int .i64 0, .int .i64 0, .int .i64 0, .int .i64 0, .int .i64 0, .slice none 0 0, .slice none 0 0, .slice none 0 0] 31)) (hFB : wb.heap[n0 + 1 + 1]? = some (.cells #[.int .i64 18, .int .i64 0] 41))
    (hXb : ∃ cur, wb.heap[bX]? = some (.cells cur 31 (0, 0))) (h1 : n0 + 1 + 1 + 1 ≤ m) (h2 : m + 1 + 1 + 1 < na) (h3 : na ≤ bX) (h4 : na ≤ bR) (h5 : na ≤ bO) (h6 : na ≤ wb.heap.size) (hM : ∀ b, blockOf A b → b < m) :
    DkJ l A c m (m + 1) n0 (m + 1 + 1) (n0 + 1) bX (blankC (body l) AC cC bR bO CB) n0 na [] wr ∧ DkB A m (m + 1) n0 (m + 1 + 1) (n0 + 1) n0 na ∧ (blankC (body l) AC cC bR bO CB).Apart ∧
    Row1 wr AC (dec (body l)).nc (fun i => .slice (some ⟨CB i, 0, none⟩) (tkv (body l) 80 16) (tkv (body l) 80 16)) := by
  have hlR := hR.lt; have hlO := hU.lt
  have hnR : bR ≠ bX := fun e => by
    obtain ⟨cur, hc, _⟩ := hR
    obtain ⟨cur', hX'⟩ := hXb
    rw [e, hX'] at hc
    injection hc with hc; injection hc with _ h; exact absurd h (by decide)
  have hnO : bO ≠ bX := fun e => by
    obtain ⟨cur, hc, _⟩ := hU
    obtain ⟨cur', hX'⟩ := hXb
    rw [e, hX'] at hc
    injection hc with hc; injection hc with _ h; exact absurd h (by decide)
  have gR := hR.only hO (by omega)
  have gO := hU.only hO (by omega)
  have hB : DkB A m (m + 1) n0 (m + 1 + 1) (n0 + 1) n0 na := ⟨by omega, by omega, fun h => by have := hM m h; omega, by omega, by omega, by omega, by omega, by omega, by omega, by omega, by omega, by omega, by omega, fun b hb => by have := hM b hb; omega⟩
  have hC' := hC.mono h6
  obtain ⟨hs, hw, hap⟩ := blank_slots (l := body l) hC' gR gO h4 h5
  have hrow : Row1 wr AC (dec (body l)).nc (fun i => .slice (some ⟨CB i, 0, none⟩) (tkv (body l) 80 16) (tkv (body l) 80 16)) := fun hn => by
    obtain ⟨b, off, e, hc⟩ := own_row1 hC.own hn
    refine ⟨b, off, e, fun k hk => ?_⟩
    rw [hc k hk]; simp [hk]
  refine ⟨⟨?_, ⟨_, hs, Cf.Got.nil _ _ _⟩, hw, ?_, ?_, ?_, ?_, ⟨fun j v e => ?_, fun i hi => ?_⟩⟩, hB, hap, hrow⟩
  · exact hL.take.only hO (by omega) (by omega) (by omega) (fun b hb e => by have := hM b hb; omega)
  · obtain ⟨cur, z, hc⟩ := hL.at_
    exact ⟨cur, z, (hO.block m (Array.getElem?_eq_some_iff.1 hc).1 (by omega)).trans hc⟩
  · exact hO.cell hL.fn (by show ¬ (m + 1 + 1 = bX ∨ wb.heap.size ≤ m + 1 + 1); omega)
  · exact (hO.block _ (Array.getElem?_eq_some_iff.1 hRB).1 (by omega)).trans hRB
  · exact (hO.block _ (Array.getElem?_eq_some_iff.1 hFB).1 (by omega)).trans hFB
  · refine ⟨?_, .inr ⟨_, _, _, .inl rfl, hX⟩⟩
    rw [cell_of_row wr bX j _ _ _ hX]
    simpa [Cf.cells, blankC, Cf.lay, show (dec (body l)).sh = shD (body l) from rfl] using e
  · obtain ⟨b, off, cur, e, hb, hh, hc⟩ := own_rowT hC.own (show 0 < (dec (body l)).nc from Nat.lt_of_le_of_lt (Nat.zero_le _) hi)
    refine ⟨b, off, e, ?_, .inr ⟨_, _, _, .inr (.inr (.inr rfl)), hh⟩⟩
    rw [cell_of_row wr b (off + i) _ _ _ hh]
    have := hc i hi 0 (by omega)
    simp only [Nat.mul_one, Nat.add_zero] at this
    rw [this]
    simp [show i < (dec (body l)).nc from hi]
    exact ⟨rfl, rfl, rfl⟩

/-- a field: where its slot lies, how wide it is -/
theorem Cf.fv_slot {c : Cf} (hp : c.Ptr) (hs : ShOk c.sh) (x : c.F) : ∃ b o, c.slot x.1 = some ⟨b, o, none⟩ ∧
    ((∃ m : Int, c.fv x.1 = .agg #[.pointer (some ⟨b, o, none⟩), .pointer none, .int .i64 m, .int .i64 (c.wf x.1 : Nat)] ∧ ∀ v, x.1.val v = .int .i64 v) ∨
     (c.fv x.1 = .agg #[.pointer none, .pointer (some ⟨b, o, none⟩), .int .i64 2, .int .i64 (c.wf x.1 : Nat)] ∧ ∀ v, x.1.val v = .bool (v == 1))) := by
  have hw : ∀ i, ((wid (c.src i)).toNat : Int) = wid (c.src i) := fun i => by
    have h1 := c.src_le hs i
    have h2 := wid_le (n := c.src i) (by omega) (by omega)
    omega
  obtain ⟨x, hx⟩ := x
  cases x with
  | bits i k =>
    obtain ⟨b, o, e⟩ := hp.col i hx.1 (by have := hx.2; omega)
    exact ⟨b, o + (k * 5 + 4), by simp [Cf.slot, e], .inl ⟨65536, by simp [Cf.fv, plus, e, Cf.wf], fun v => rfl⟩⟩
  | sel i k j =>
    obtain ⟨b, o, e⟩ := hp.col i hx.1.1 (by have := hx.1.2; omega)
    exact ⟨b, o + (k * 5 + j), by simp [Cf.slot, e], .inl ⟨c.src i, by simp only [Cf.wf, hw]; simp [Cf.fv, plus, e], fun v => rfl⟩⟩
  | init k =>
    obtain ⟨b, o, e⟩ := hp.reg (by have : k < c.nr := hx; omega)
    exact ⟨b, o + (k * 2 + 1), by simp [Cf.slot, e], .inr ⟨by simp [Cf.fv, plus, e, Cf.wf], fun v => rfl⟩⟩
  | rsel k =>
    obtain ⟨b, o, e⟩ := hp.reg (by have : k < c.nr := hx; omega)
    exact ⟨b, o + k * 2, by simp [Cf.slot, e], .inl ⟨c.src 1, by simp only [Cf.wf, hw]; simp [Cf.fv, plus, e], fun v => rfl⟩⟩
  | out k =>
    obtain ⟨b, o, e⟩ := hp.out (by have : k < c.no := hx; omega)
    exact ⟨b, o + k, by simp [Cf.slot, e], .inl ⟨c.src 1, by simp only [Cf.wf, hw]; simp [Cf.fv, plus, e], fun v => rfl⟩⟩
theorem Cf.part_bits {c : Cf} (h : c.Dims) {l : List Fi} (hl : l.length < c.flds.length) : 112 + c.wsum l ≤ 1000000000000 := by
  have h1 := c.wsum_le h.sh l
  have h2 := Cf.flds_len h
  omega
/-- no exit by a panic is asked for -/
def noPan (Q : Exit → Act → World → Prop) : Exit → Act → World → Prop
  | .panic _, _, _ => False
  | x, a, w => Q x a w
theorem noPan_out {Q : Exit → Act → World → Prop} {x : Exit} {a : Act} {w : World} (h : noPan Q x a w) : Q x a w := by
  cases x <;> first | exact h.elim | exact h
theorem wpIn_noPan {F : Fence} {n : Nat} {P : Program} {code : Code} {Q : Exit → Act → World → Prop} {a : Act} {w : World} (h : Code.wpIn F n P code (noPan Q) a w) : Code.wpIn F n P code Q a w := wpIn_mono h (fun _ _ _ => noPan_out)

theorem dk_at {l : List UInt8} {A AC : Option Addr} {c bA bE bB bF RB BX n0 n1 cC bR bO : Nat} {CB : Nat → Nat} {cf : Cf} {W : World} (hcf : cf = blankC (body l) AC cC bR bO CB) (h : DkJ l A c bA bE bB bF RB BX cf n0 n1 cf.flds W) : cf.At W := by
  subst hcf
  obtain ⟨ct, hs, hg⟩ := h.slot
  refine hs.at (got_dec hg) (fun hn => ?_) blank_ptr
  obtain ⟨b, off, e, _⟩ := h.hdr.cols 0 hn
  refine ⟨b, off, e, fun k hk => ?_⟩
  obtain ⟨b', off', e', hf⟩ := h.hdr.cols k hk
  rw [e] at e'; injection e' with e'; injection e' with e1 e2; subst e1 e2
  exact hf.1
theorem dk_bits {l : List UInt8} {AC : Option Addr} {cC bR bO : Nat} {CB : Nat → Nat} {cf : Cf} (hcf : cf = blankC (body l) AC cC bR bO CB) : 112 + cf.wsum cf.flds = bitsD (body l) := by
  subst hcf
  unfold bitsD
  rw [wsum_congr (c := blankC (body l) AC cC bR bO CB) (d := decH (body l)) rfl, flds_congr (c := blankC (body l) AC cC bR bO CB) (d := decH (body l)) rfl rfl rfl rfl]
theorem dk_ok {l : List UInt8} {AC : Option Addr} {cC bR bO : Nat} {CB : Nat → Nat} {cf : Cf} (hcf : cf = blankC (body l) AC cC bR bO CB) : (cf.Ok ↔ (dec (body l)).Ok) ∧ cf.text = (dec (body l)).text := by
  subst hcf
  exact ⟨lay_ok, lay_text⟩
/-- the results' box and the fault's, behind the deferred calls' block -/
theorem put_row {W : World} {D b : Nat} {x : Option (List Deferred)} {cur : Array Value} {t : TypeId} {z : Nat × Nat} (hK : W.heap[D]? = some (.deferred x)) (h : W.heap[b]? = some (.cells cur t z)) (o : Obj) : (W.putObj D o).heap[b]? = some (.cells cur t z) :=
  (World.putObj_heap_other (fun e => by rw [e, hK] at h; cases h)).trans h
theorem told_no2 {l : List UInt8} {w V : World} {R : Prop} (h : ¬ GoodB l) (hF : V.heap[w.heap.size + 1 + 1]? = some (.cells #[.int .i64 18, .int .i64 0] 41)) (hb : Below w.heap.size w V) :
    (R ∨ (¬ GoodB l ∧ ∃ b, Ending.returned (.tuple #[cfgZero, .iface 63 (.pointer (some ⟨w.heap.size + 1 + 1, 0, none⟩))]) = .returned (.tuple #[cfgZero, .iface 63 (.pointer (some ⟨b, 0, none⟩))]) ∧ V.cell? ⟨b, 0, none⟩ = some (.int .i64 18) ∧ V.cell? ⟨b, 1, none⟩ = some (.int .i64 0))) ∧
      Below w.heap.size w V :=
  ⟨.inr ⟨h, _, rfl, by rw [cell_of_row V (w.heap.size + 1 + 1) 0 _ _ _ hF]; rfl, by rw [cell_of_row V (w.heap.size + 1 + 1) 1 _ _ _ hF]; rfl⟩, hb⟩
theorem Cf.At.put {c : Cf} {W : World} {D : Nat} {x : Option (List Deferred)} (h : c.At W) (hK : W.heap[D]? = some (.deferred x)) (o : Obj) : c.At (W.putObj D o) := by
  refine h.keeps (fun a v hv => ?_)
  obtain ⟨ob, ho, hc⟩ := cells_of_cell hv
  refine (World.cell?_of_block (World.putObj_heap_other (fun e => ?_))).trans hv
  rw [e, hK] at ho; cases ho; cases hc
/-- a configuration stands where a box that it does not hold is written -/
theorem Cf.At.apart {cf : Cf} {n1 RB : Nat} {W W0 W1 : World} (h : cf.At W) (hAC : ∀ k, blockOf cf.AC k → RB < k) (hOw : cf.Own n1 W0) (hRB : RB < n1) (ho : Only (fun k => k = RB) W W1) : cf.At W1 := by
  refine ⟨fun hn => ?_, fun i hi hn => ?_, fun hn => ?_, fun hn => ?_⟩
  · obtain ⟨b, off, e, hc⟩ := h.cols hn
    exact ⟨b, off, e, fun k hk => ho.cell (hc k hk) (fun e2 => by have := hAC b ⟨_, e, rfl⟩; have e2 : b = RB := e2; omega)⟩
  · obtain ⟨b, off, e, hc⟩ := h.cells i hi hn
    obtain ⟨b', o', _, _, _, hs, hb, _⟩ := hOw.at_ (.bits i 0) ⟨hi, hn⟩
    rw [Cf.slot, e] at hs
    injection hs with hs; injection hs with e1 _
    exact ⟨b, off, e, fun k hk j hj => ho.cell (hc k hk j hj) (fun e2 => by have e2 : b = RB := e2; have e1 : b = b' := e1; omega)⟩
  · obtain ⟨b, off, e, hc⟩ := h.regs hn
    obtain ⟨b', o', _, _, _, hs, hb, _⟩ := hOw.at_ (.init 0) hn
    rw [Cf.slot, e] at hs
    injection hs with hs; injection hs with e1 _
    exact ⟨b, off, e, fun k hk j hj => ho.cell (hc k hk j hj) (fun e2 => by have e2 : b = RB := e2; have e1 : b = b' := e1; omega)⟩
  · obtain ⟨b, off, e, hc⟩ := h.outs hn
    obtain ⟨b', o', _, _, _, hs, hb, _⟩ := hOw.at_ (.out 0) hn
    rw [Cf.slot, e] at hs
    injection hs with hs; injection hs with e1 _
    exact ⟨b, off, e, fun k hk => ho.cell (hc k hk) (fun e2 => by have e2 : b = RB := e2; have e1 : b = b' := e1; omega)⟩
end Go.Proofs.YtbnjbclkmjjkhaaDoor
