/- What bytes hold, bit by bit, in plain Lean: a configuration's text is the bytes just when its fields' bits fill them but for zeros behind them. No condition. When bytes are a configuration, said bit by bit, in plain Lean: as fabric's load looks at them. No condition. -/
import Derived.Test.YtbnjbclkmjjkhaaDoorDkQ
namespace Go.Proofs.YtbnjbclkmjjkhaaDoor
open Go.RowKit Go.Shelf

/-- n bits of bytes from bit p on -/
def seg (l : List UInt8) (p n : Nat) : List Bool := (List.range n).map fun k => decide (bitN l (p + k) = 1)
theorem seg_len (l : List UInt8) (p n : Nat) : (seg l p n).length = n := by simp [seg]
theorem seg_add (l : List UInt8) (p n m : Nat) : seg l p (n + m) = seg l p n ++ seg l (p + n) m := by
  unfold seg
  rw [List.range_add, List.map_append, List.map_map]
  congr 1
  refine List.map_congr_left fun k _ => ?_
  simp only [Function.comp, Nat.add_assoc]
theorem tkv_div (l : List UInt8) (p : Nat) : ∀ n k, k < n → tkv l p n / 2 ^ (n - 1 - k) % 2 = bitN l (p + k)
  | n + 1, k, hk => by
    have hb := bitN_le l (p + n)
    simp only [tkv]
    by_cases e : k = n
    · subst e
      rw [show k + 1 - 1 - k = 0 by omega, Nat.pow_zero, Nat.div_one]; omega
    · rw [show n + 1 - 1 - k = (n - 1 - k) + 1 by omega, Nat.pow_succ, Nat.mul_comm (2 ^ (n - 1 - k)) 2, ← Nat.div_div_eq_div_mul, show (2 * tkv l p n + bitN l (p + n)) / 2 = tkv l p n by omega]
      exact tkv_div l p n k (by omega)
theorem bits_seg (l : List UInt8) (p n : Nat) : bitsOf (tkv l p n) n = seg l p n := by
  unfold bitsOf seg
  refine List.map_congr_left fun k hk => ?_
  rw [tkv_div l p n k (List.mem_range.1 hk)]
theorem bits_seg' {l : List UInt8} {p n v : Nat} (h : v = tkv l p n) : bitsOf v n = seg l p n := by rw [h, bits_seg]

/-! ### The fields in order -/
theorem Cf.inn_of_mem {c : Cf} {x : Fi} (h : x ∈ c.flds) : c.inn x := by
  have hcol : ∀ (i : Nat) {n : Nat}, x ∈ colF i n → ∃ k, k < n ∧ (x = .bits i k ∨ ∃ j, j < 4 ∧ x = .sel i k j) := fun i n => by
    induction n with
    | zero => intro h; simp [colF] at h
    | succ n ih =>
      intro h
      simp only [colF, List.mem_append] at h
      rcases h with h | h
      · obtain ⟨k, hk, e⟩ := ih h; exact ⟨k, by omega, e⟩
      · refine ⟨n, by omega, ?_⟩
        simp only [cellF, List.mem_cons, List.not_mem_nil, or_false] at h
        rcases h with h | h | h | h | h
        · exact .inl h
        · exact .inr ⟨0, by omega, h⟩
        · exact .inr ⟨1, by omega, h⟩
        · exact .inr ⟨2, by omega, h⟩
        · exact .inr ⟨3, by omega, h⟩
  have hall : ∀ {n : Nat}, n ≤ c.nc → x ∈ c.allF n → c.inn x := fun {n} => by
    induction n with
    | zero => intro _ h; simp [Cf.allF] at h
    | succ n ih =>
      intro hn h
      simp only [Cf.allF, List.mem_append] at h
      rcases h with h | h
      · exact ih (by omega) h
      · obtain ⟨k, hk, e⟩ := hcol n h
        rcases e with rfl | ⟨j, hj, rfl⟩
        · exact ⟨by omega, hk⟩
        · exact ⟨⟨by omega, hk⟩, hj⟩
  rcases List.mem_append.1 h with h | h
  · exact hall (Nat.le_refl _) h
  rcases List.mem_append.1 h with h | h
  · obtain ⟨k, hk, e⟩ := mem_reg h
    rcases e with rfl | rfl
    · exact hk
    · exact hk
  · obtain ⟨k, hk, rfl⟩ := mem_out h
    exact hk
theorem pre_same {α : Type} {f a b : List α} {x : α} (hf : f.Nodup) (ha : a ++ [x] <+: f) (hb : b ++ [x] <+: f) : a = b := by
  have key : ∀ {u v : List α}, u ++ [x] <+: f → v ++ [x] <+: f → u.length ≤ v.length → u = v := fun {u v} hu hv hle => by
    have hv' : v <+: f := (List.prefix_append v [x]).trans hv
    have hu' : u <+: f := (List.prefix_append u [x]).trans hu
    rcases Nat.lt_or_ge u.length v.length with hlt | hge
    · exfalso
      have h1 := List.prefix_of_prefix_length_le hu hv' (by simp; omega)
      have hx : x ∈ v := h1.subset (by simp)
      have hn : (v ++ [x]).Nodup := hv.sublist.nodup hf
      exact (List.nodup_append.1 hn).2.2 x hx x (by simp) rfl
    · obtain ⟨r, hr⟩ := List.prefix_of_prefix_length_le hu' hv' hle
      have : r.length = 0 := by have := congrArg List.length hr; simp at this; omega
      rw [← hr, List.eq_nil_of_length_eq_zero this, List.append_nil]
  rcases Nat.le_total a.length b.length with h | h
  · exact key ha hb h
  · exact (key hb ha h).symm

/-- a field's bits, as the bytes hold them -/
theorem dec_fbits (b : List UInt8) (x : Fi) : (dec b).fbits x = seg b (112 + (decH b).wsum ((decH b).before x)) ((decH b).wf x) := by
  cases x with
  | init k =>
    have h1 : numD b (.init k) < 2 := by
      have := tkv_lt b (112 + (decH b).wsum ((decH b).before (.init k))) 1
      unfold numD; simp only [Cf.wf]; omega
    show bitsOf (if (numD b (.init k) == 1) = true then 1 else 0) 1 = _
    rw [show (if (numD b (.init k) == 1) = true then 1 else 0) = numD b (.init k) by
      have h01 : numD b (.init k) = 0 ∨ numD b (.init k) = 1 := by omega
      rcases h01 with e | e <;> rw [e] <;> rfl]
    exact bits_seg' rfl
  | bits i k => exact bits_seg' rfl
  | sel i k j => exact bits_seg' rfl
  | rsel k => exact bits_seg' rfl
  | out k => exact bits_seg' rfl
theorem enc_pre (b : List UInt8) : ∀ (n : Nat) (a : List Fi), a.length = n → a <+: (decH b).flds → (dec b).enc a = seg b 112 ((decH b).wsum a)
  | 0, a, h, _ => by
    obtain rfl := List.eq_nil_of_length_eq_zero h
    simp [Cf.enc, Cf.wsum, seg]
  | n + 1, a, h, hp => by
    rcases List.eq_nil_or_concat a with rfl | ⟨a', x, e⟩
    · simp at h
    · rw [List.concat_eq_append] at e
      subst e
      have hx : (decH b).inn x := Cf.inn_of_mem (hp.subset (by simp))
      have hb := pre_same (decH b).nodup_flds hp ((decH b).before_pre x hx)
      rw [Cf.enc_append, Cf.enc_one, enc_pre b n a' (by simpa using h) ((List.prefix_append a' [x]).trans hp), dec_fbits, Cf.wsum_snoc, seg_add, ← hb]
theorem shB_seg (b : List UInt8) (hm : b.take 4 = [71, 87, 66, 49]) : ∀ k, k ≤ 5 → (dec b).shB k = seg b 0 (32 + 16 * k)
  | 0, _ => by
    have h : ∀ j, j < 4 → b.getD j 0 = [71, 87, 66, 49].getD j 0 := fun j hj => by
      rw [← hm]
      simp only [List.getD_eq_getElem?_getD, List.getElem?_take, if_pos hj]
    have e0 := h 0 (by omega); have e1 := h 1 (by omega); have e2 := h 2 (by omega); have e3 := h 3 (by omega)
    simp only [List.getD_cons_zero, List.getD_cons_succ] at e0 e1 e2 e3
    show magicL = seg b 0 32
    have hk : seg b 0 32 = (List.range 32).map fun k => decide (([71, 87, 66, 49].getD (k / 8) (0 : UInt8)).toNat / 2 ^ (7 - k % 8) % 2 = 1) := by
      unfold seg
      refine List.map_congr_left fun k hk => ?_
      have hk32 := List.mem_range.1 hk
      unfold bitN
      rw [Nat.zero_add, h (k / 8) (by omega)]
    rw [hk]; decide
  | k + 1, hk => by
    show (dec b).shB k ++ bitsOf ((dec b).sh k).toNat 16 = _
    rw [shB_seg b hm k (by omega), show 32 + 16 * (k + 1) = 32 + 16 * k + 16 by omega, seg_add b 0 (32 + 16 * k) 16, Nat.zero_add]
    congr 1
    exact bits_seg' rfl
theorem encB_seg (b : List UInt8) (hm : b.take 4 = [71, 87, 66, 49]) : (dec b).encB = seg b 0 (bitsD b) := by
  unfold Cf.encB bitsD
  rw [shB_seg b hm 5 (by omega), show (dec b).flds = (decH b).flds from flds_congr rfl rfl rfl rfl, enc_pre b _ _ rfl (List.prefix_refl _), seg_add b 0 112, Nat.zero_add]

/-! ### Bits packed into bytes -/
theorem bitv_seg (b : List UInt8) (T i : Nat) : bitv (seg b 0 T) i = if i < T then bitN b i else 0 := by
  unfold bitv seg
  have hb := bitN_le b i
  by_cases h : i < T
  · simp only [List.getD_eq_getElem?_getD, List.getElem?_map, List.getElem?_range h, Option.map_some, Option.getD_some, Nat.zero_add, if_pos h]
    by_cases h1 : bitN b i = 1
    · simp [h1]
    · simp [h1]; omega
  · simp [List.getD_eq_getElem?_getD, h]
theorem byte_bits (x : Nat) (h : x < 256) : x = 128 * (x / 2 ^ 7 % 2) + 64 * (x / 2 ^ 6 % 2) + 32 * (x / 2 ^ 5 % 2) + 16 * (x / 2 ^ 4 % 2) + 8 * (x / 2 ^ 3 % 2) + 4 * (x / 2 ^ 2 % 2) + 2 * (x / 2 ^ 1 % 2) + x / 2 ^ 0 % 2 := by
  simp only [Nat.reducePow]; omega
theorem byte_bitN (b : List UInt8) (q : Nat) : (b.getD q 0).toNat = 128 * bitN b (8 * q) + 64 * bitN b (8 * q + 1) + 32 * bitN b (8 * q + 2) + 16 * bitN b (8 * q + 3) + 8 * bitN b (8 * q + 4) + 4 * bitN b (8 * q + 5) + 2 * bitN b (8 * q + 6) + bitN b (8 * q + 7) := by
  have h := byte_bits (b.getD q 0).toNat (b.getD q 0).toNat_lt
  have e : ∀ j, j < 8 → bitN b (8 * q + j) = (b.getD q 0).toNat / 2 ^ (7 - j) % 2 := fun j hj => by
    unfold bitN
    rw [show (8 * q + j) / 8 = q by omega, show (8 * q + j) % 8 = j by omega]
  have e0 := e 0 (by omega); have e1 := e 1 (by omega); have e2 := e 2 (by omega); have e3 := e 3 (by omega); have e4 := e 4 (by omega); have e5 := e 5 (by omega); have e6 := e 6 (by omega); have e7 := e 7 (by omega)
  simp only [Nat.add_zero, Nat.reduceSub] at e0 e1 e2 e3 e4 e5 e6 e7
  rw [e0, e1, e2, e3, e4, e5, e6, e7]
  exact h
/-- bytes are their first bits packed just when there are no more bytes and only zeros behind -/
theorem pack_seg (b : List UInt8) (T : Nat) : packB (seg b 0 T) = b ↔ ((T + 7) / 8 = b.length ∧ ∀ p, T ≤ p → bitN b p = 0) := by
  have hl : (packB (seg b 0 T)).length = (T + 7) / 8 := by rw [packB_len]; unfold nby; rw [seg_len]
  have hq : ∀ q, byteN (seg b 0 T) q = 128 * (if 8 * q < T then bitN b (8 * q) else 0) + 64 * (if 8 * q + 1 < T then bitN b (8 * q + 1) else 0) + 32 * (if 8 * q + 2 < T then bitN b (8 * q + 2) else 0) + 16 * (if 8 * q + 3 < T then bitN b (8 * q + 3) else 0) + 8 * (if 8 * q + 4 < T then bitN b (8 * q + 4) else 0) + 4 * (if 8 * q + 5 < T then bitN b (8 * q + 5) else 0) + 2 * (if 8 * q + 6 < T then bitN b (8 * q + 6) else 0) + (if 8 * q + 7 < T then bitN b (8 * q + 7) else 0) := fun q => by
    unfold byteN
    simp only [bitv_seg]
  have hg : ∀ q, q < (T + 7) / 8 → (packB (seg b 0 T)).getD q 0 = UInt8.ofNat (byteN (seg b 0 T) q) := fun q h => by
    unfold packB rowQ nby
    rw [seg_len]
    simp [List.getD_eq_getElem?_getD, h]
  constructor
  · intro e
    have e1 : (T + 7) / 8 = b.length := by rw [← hl, e]
    refine ⟨e1, fun p hp => ?_⟩
    by_cases hfar : 8 * b.length ≤ p
    · exact bitN_far hfar
    · have h1 := hg (p / 8) (by omega)
      rw [e] at h1
      have h2 := byte_bitN b (p / 8)
      have h3 := hq (p / 8)
      have h4 : (b.getD (p / 8) 0).toNat = byteN (seg b 0 T) (p / 8) := by
        rw [h1]
        have := byteN_lt (seg b 0 T) (p / 8)
        simp; omega
      rw [h2, h3] at h4
      have hle : ∀ i, (if i < T then bitN b i else 0) ≤ bitN b i := fun i => by split <;> omega
      have hz : (if p < T then bitN b p else 0) = 0 := if_neg (by omega)
      clear h1 h2 h3 hg hq
      obtain ⟨q, hqd⟩ : ∃ q, q = p / 8 := ⟨_, rfl⟩
      rw [← hqd] at h4
      have l0 := hle (8 * q)
      have l1 := hle (8 * q + 1)
      have l2 := hle (8 * q + 2)
      have l3 := hle (8 * q + 3)
      have l4 := hle (8 * q + 4)
      have l5 := hle (8 * q + 5)
      have l6 := hle (8 * q + 6)
      have l7 := hle (8 * q + 7)
      have hm : p = 8 * q ∨ p = 8 * q + 1 ∨ p = 8 * q + 2 ∨ p = 8 * q + 3 ∨ p = 8 * q + 4 ∨ p = 8 * q + 5 ∨ p = 8 * q + 6 ∨ p = 8 * q + 7 := by omega
      clear hle hqd hfar hp e e1 hl
      rcases hm with rfl | rfl | rfl | rfl | rfl | rfl | rfl | rfl
      all_goals
        generalize (if 8 * q < T then bitN b (8 * q) else 0) = t0 at *
        generalize (if 8 * q + 1 < T then bitN b (8 * q + 1) else 0) = t1 at *
        generalize (if 8 * q + 2 < T then bitN b (8 * q + 2) else 0) = t2 at *
        generalize (if 8 * q + 3 < T then bitN b (8 * q + 3) else 0) = t3 at *
        generalize (if 8 * q + 4 < T then bitN b (8 * q + 4) else 0) = t4 at *
        generalize (if 8 * q + 5 < T then bitN b (8 * q + 5) else 0) = t5 at *
        generalize (if 8 * q + 6 < T then bitN b (8 * q + 6) else 0) = t6 at *
        generalize (if 8 * q + 7 < T then bitN b (8 * q + 7) else 0) = t7 at *
        omega
  · rintro ⟨e1, h0⟩
    refine List.ext_getElem? fun q => ?_
    by_cases h : q < (T + 7) / 8
    · have h1 := hg q h
      have h2 := byte_bitN b q
      have h3 := hq q
      have hz : ∀ j, (if 8 * q + j < T then bitN b (8 * q + j) else 0) = bitN b (8 * q + j) := fun j => by
        split
        · rfl
        · exact (h0 _ (by omega)).symm
      have z0 := hz 0
      rw [Nat.add_zero] at z0
      rw [z0, hz 1, hz 2, hz 3, hz 4, hz 5, hz 6, hz 7, ← h2] at h3
      rw [h3] at h1
      have h5 : (packB (seg b 0 T)).getD q 0 = b.getD q 0 := by rw [h1]; simp
      have l1 : q < (packB (seg b 0 T)).length := by omega
      have l2 : q < b.length := by omega
      rw [List.getElem?_eq_getElem l1, List.getElem?_eq_getElem l2]
      simpa [List.getD_eq_getElem?_getD, l1, l2] using h5
    · rw [List.getElem?_eq_none (by omega), List.getElem?_eq_none (by omega)]
end Go.Proofs.YtbnjbclkmjjkhaaDoor
namespace Go.Proofs.YtbnjbclkmjjkhaaDoor
open Go.RowKit Go.Shelf

/-- among how many a selector chooses -/
def Cf.srcI (c : Cf) : Fi → Option Int
  | .sel i _ _ => some (c.src i)
  | .rsel _ => some (c.src 1)
  | .out _ => some (c.src 1)
  | _ => none
/-- every selector is one -/
def SelOk (b : List UInt8) : Prop := ∀ x, (decH b).inn x → ∀ n, (decH b).srcI x = some n → (numD b x : Int) < n
theorem dec_ok_iff {b : List UInt8} (h : ShOk (shD b)) : (dec b).Ok ↔ SelOk b := by
  have hbit : ∀ i k, numD b (.bits i k) < 65536 := fun i k => tkv_small b _ (n := 16) (by omega)
  constructor
  · intro ho x hx n hn
    cases x with
    | bits i k => cases hn
    | init k => cases hn
    | sel i k j =>
      have e : (decH b).src i = n := Option.some.inj hn
      rw [← e]; exact (ho.l i hx.1.1 k hx.1.2 j hx.2).2
    | rsel k =>
      have e : (decH b).src 1 = n := Option.some.inj hn
      rw [← e]; exact (ho.r k hx).2
    | out k =>
      have e : (decH b).src 1 = n := Option.some.inj hn
      rw [← e]; exact (ho.o k hx).2
  · intro hs
    refine ⟨dec_dims b h, fun i hi k hk => ⟨?_, ?_⟩, fun i hi k hk j hj => ⟨?_, ?_⟩, fun k hk => ⟨?_, ?_⟩, fun k hk => ⟨?_, ?_⟩⟩
    · exact Int.natCast_nonneg _
    · have := hbit i k
      show ((numD b (.bits i k) : Nat) : Int) < 65536
      omega
    · exact Int.natCast_nonneg _
    · exact hs (.sel i k j) ⟨⟨hi, hk⟩, hj⟩ _ rfl
    · exact Int.natCast_nonneg _
    · exact hs (.rsel k) hk _ rfl
    · exact Int.natCast_nonneg _
    · exact hs (.out k) hk _ rfl
theorem take_body {l : List UInt8} (h : 18 ≤ l.length) : (body l).take 4 = l.take 4 := by
  unfold body
  rw [List.take_take, Nat.min_eq_left (by omega)]
theorem text_iff {l : List UInt8} (h18 : 18 ≤ l.length) (hm : l.take 4 = [71, 87, 66, 49]) (hc : l = body l ++ be4 (crcF (body l))) :
    (dec (body l)).text = l ↔ ((bitsD (body l) + 7) / 8 = (body l).length ∧ ∀ p, bitsD (body l) ≤ p → bitN (body l) p = 0) := by
  rw [← pack_seg]
  have he := encB_seg (body l) ((take_body h18).trans hm)
  unfold Cf.text
  rw [he]
  constructor
  · intro e
    have e2 := congrArg List.length e
    rw [List.length_append] at e2
    have hb := body_len l
    have h4 : (be4 (crcF (packB (seg (body l) 0 (bitsD (body l)))))).length = 4 := rfl
    have e3 := congrArg (List.take (l.length - 4)) e
    rw [List.take_left' (by omega)] at e3
    exact e3
  · intro e
    rw [e]; exact hc.symm
/-- the bytes are a configuration, as fabric's load asks -/
theorem good_iff {l : List UInt8} (h18 : 18 ≤ l.length) (hm : l.take 4 = [71, 87, 66, 49]) (hc : l = body l ++ be4 (crcF (body l))) (hs : ShOk (shD (body l))) :
    GoodB l ↔ (SelOk (body l) ∧ bitsD (body l) ≤ 8 * (body l).length ∧ (bitsD (body l) + 7) / 8 = (body l).length ∧ ∀ p, bitsD (body l) ≤ p → bitN (body l) p = 0) := by
  have hb := body_len l
  constructor
  · intro h
    exact ⟨(dec_ok_iff hs).1 h.ok, by rw [hb]; exact h.fits, (text_iff h18 hm hc).1 h.text⟩
  · rintro ⟨h1, h2, h3⟩
    exact ⟨h18, hm, hc, hs, by rw [← hb]; exact h2, (dec_ok_iff hs).2 h1, (text_iff h18 hm hc).2 h3⟩
end Go.Proofs.YtbnjbclkmjjkhaaDoor
