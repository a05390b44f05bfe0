/- What the reference's Reader returns as an expression: contracts said, trees made. Condition: the text is shorter than 1000000 bytes. -/
import Derived.Test.YtbdcpealkllfnaaDoorRdB
namespace Go.Proofs.YtbdcpealkllfnaaDoor
open Go.RowKit Go.Deep

theorem stE : StT Tryd.prog 56 7 := ⟨_, Tryd.underlying56, by kernel_rfl⟩
theorem elE : Elem Tryd.prog 54 56 7 80 := elem_mk Tryd.underlying54 (z := .agg #[.int .i64 0, .int .i64 0, .int .i64 0, .int .i64 0, .int .u64 0, .string ⟨#[]⟩, .slice none 0 0]) (by kernel_rfl) rfl (by omega) (by omega)
abbrev zE : Array Value := #[.int .i64 0, .int .i64 0, .int .i64 0, .int .i64 0, .int .u64 0, .string ⟨#[]⟩, .slice none 0 0]
theorem builtE1 {c : List Value} (hc : c.length = 7) : Tryd.prog.builtSlice 56 1 [(0, .agg c.toArray)] = some c.toArray := by
 obtain ⟨x0, x1, x2, x3, x4, x5, x6, rfl⟩ := len7 hc
 kernel_rfl
theorem builtE2 {c a : List Value} (hc : c.length = 7) (ha : a.length = 7) : Tryd.prog.builtSlice 56 2 [(0, .agg c.toArray), (1, .agg a.toArray)] = some (c ++ a).toArray := by
 obtain ⟨x0, x1, x2, x3, x4, x5, x6, rfl⟩ := len7 hc
 obtain ⟨y0, y1, y2, y3, y4, y5, y6, rfl⟩ := len7 ha
 kernel_rfl
theorem builtE3 {c a b : List Value} (hc : c.length = 7) (ha : a.length = 7) (hb : b.length = 7) : Tryd.prog.builtSlice 56 3 [(0, .agg c.toArray), (1, .agg a.toArray), (2, .agg b.toArray)] = some (c ++ (a ++ b)).toArray := by
 obtain ⟨x0, x1, x2, x3, x4, x5, x6, rfl⟩ := len7 hc
 obtain ⟨y0, y1, y2, y3, y4, y5, y6, rfl⟩ := len7 ha
 obtain ⟨z0, z1, z2, z3, z4, z5, z6, rfl⟩ := len7 hb
 kernel_rfl
section
variable {p : Nat → Prop} {n c : Nat} {w : World} {A : Option Addr} {T : Nat → LB × Int} {cs : List Value} {t : LB × Int}
theorem TrP.len (h : TrP FE p w cs t) : cs.length = 7 := by
 obtain ⟨d, h⟩ := h
 exact PrE.len h
theorem TrP.one (h : TrP FE p w cs t) : ∀ u ∈ cs, u.oneCell' = true := by
 obtain ⟨d, h⟩ := h
 cases d with
 | zero => exact h.elim
 | succ d =>
  obtain ⟨a, o, wd, nu, nm, A, n, c, T, e, _⟩ := h
  subst e
  intro u hu
  exact List.all_eq_true.1 (show (cellsE t.2 a o wd nu nm A n c).all (·.oneCell') = true from rfl) u hu
theorem TrP.size (h : TrP FE p w cs t) : cs.toArray.size = 7 := by simp [h.len]
theorem TrP.ones (h : TrP FE p w cs t) : ∀ u ∈ cs.toArray.toList, u.oneCell' = true := by simpa using h.one
theorem tre_mk {kd at_ op wd : Int} {num : Nat} {nm : LB} (h : LfP FE 56 7 p w A n T) (hn : n ≤ 3000000) (ok : OkE kd op wd num nm n) :
  TrP FE p w (cellsE kd at_ op wd num nm A n c) (txE kd op wd num nm n (fun i => (T i).2) (fun i => (T i).1), kd) := by
 obtain ⟨d, h⟩ := Rw.of h hn
 exact ⟨d + 1, at_, op, wd, num, nm, A, n, c, T, rfl, ok, h, rfl⟩
end
theorem digL_len : ∀ (k n : Nat), n < 10 ^ k → (digL n).length ≤ k + 1
 | 0, n, h => by
  have : n < 10 := Nat.lt_of_lt_of_le h (by decide)
  unfold digL; rw [Lib.decDigits, dif_pos this]; simp
 | k + 1, n, h => by
  unfold digL
  rw [Lib.decDigits]
  split
  ·
   simp
  ·
   have := digL_len k (n / 10) (by rw [Nat.pow_succ] at h; omega)
   unfold digL at this
   simp only [List.length_append, List.length_cons, List.length_nil]
   omega
theorem digL_small {n : Nat} (h : n < 4294967296) : (digL n).length ≤ 11 := digL_len 10 n (by omega)
theorem sgnL_len (op : Int) : (sgnL op).length ≤ 2 := by unfold sgnL; split <;> simp
theorem rowF_eq {C : Nat → List Value} {k sz : Nat} (h : (C k).length = sz) : (List.range sz).map (rowF C k) = C k := row_eq h
section
variable {Z H : Nat} {w : World} {cs : List Value} {t : LB × Int}
theorem Tr.len (h : Tr FE Z H w cs t) : cs.length = 7 := TrP.len h
theorem Tr.one (h : Tr FE Z H w cs t) : ∀ u ∈ cs, u.oneCell' = true := TrP.one h
theorem Tr.size (h : Tr FE Z H w cs t) : cs.toArray.size = 7 := TrP.size h
theorem Tr.ones (h : Tr FE Z H w cs t) : ∀ u ∈ cs.toArray.toList, u.oneCell' = true := TrP.ones h
end
def fn3 {τ : Type} (a b c : τ) (i : Nat) : τ := if i = 0 then a else if i = 1 then b else c
section
variable {p : Nat → Prop} {n c : Nat} {w : World} {A : Option Addr} {cs c0 c1 c2 : List Value} {t t0 t1 t2 : LB} {k k0 k1 k2 : Int} {T : Nat → LB × Int} {D : Nat}
theorem lf1 (hh : w.heap[D]? = some (.cells c0.toArray 56)) (hD : p D) (h0 : TrP FE p w c0 (t0, k0)) : LfP FE 56 7 p w (some ⟨D, 0, none⟩) 1 (fn3 (t0, k0) (t0, k0) (t0, k0)) :=
 LfP.mk hh hD (fn3 c0 c0 c0) (by simp only [flatF]; rw [rowF_eq (C := fn3 c0 c0 c0) (k := 0) h0.len]; simp [fn3]) (fun i hi => by
  obtain rfl : i = 0 := by omega
  exact ⟨h0.len, h0⟩)
theorem lf2 (hh : w.heap[D]? = some (.cells (c0 ++ c1).toArray 56)) (hD : p D) (h0 : TrP FE p w c0 (t0, k0)) (h1 : TrP FE p w c1 (t1, k1)) : LfP FE 56 7 p w (some ⟨D, 0, none⟩) 2 (fn3 (t0, k0) (t1, k1) (t1, k1)) :=
 LfP.mk hh hD (fn3 c0 c1 c1) (by simp only [flatF]; rw [rowF_eq (C := fn3 c0 c1 c1) (k := 0) h0.len, rowF_eq (C := fn3 c0 c1 c1) (k := 1) h1.len]; simp [fn3]) (fun i hi => by
  obtain rfl | rfl : i = 0 ∨ i = 1 := by omega
  ·
   exact ⟨h0.len, h0⟩
  ·
   exact ⟨h1.len, h1⟩)
theorem lf3 (hh : w.heap[D]? = some (.cells (c0 ++ (c1 ++ c2)).toArray 56)) (hD : p D) (h0 : TrP FE p w c0 (t0, k0)) (h1 : TrP FE p w c1 (t1, k1)) (h2 : TrP FE p w c2 (t2, k2)) : LfP FE 56 7 p w (some ⟨D, 0, none⟩) 3 (fn3 (t0, k0) (t1, k1) (t2, k2)) :=
 LfP.mk hh hD (fn3 c0 c1 c2) (by simp only [flatF]; rw [rowF_eq (C := fn3 c0 c1 c2) (k := 0) h0.len, rowF_eq (C := fn3 c0 c1 c2) (k := 1) h1.len, rowF_eq (C := fn3 c0 c1 c2) (k := 2) h2.len]; simp [fn3]) (fun i hi => by
  obtain rfl | rfl | rfl : i = 0 ∨ i = 1 ∨ i = 2 := by omega
  ·
   exact ⟨h0.len, h0⟩
  ·
   exact ⟨h1.len, h1⟩
  ·
   exact ⟨h2.len, h2⟩)
theorem tre_name {at_ : Int} {nm : LB} (hm : nm.length ≤ 100000) : TrP FE p w (cellsE 2 at_ 0 0 0 nm none 0 0) (nm, 2) :=
 tre_mk (T := fun _ => ([], 0)) LfP.nil (by omega) ⟨by omega, by omega, by omega, by omega, hm, fun h => by omega, fun h => by omega, fun h => by omega, fun h => by omega, fun h => by omega, fun h => by omega⟩
theorem tre_zero : TrP FE p w (cellsE 0 0 0 0 0 [] none 0 0) ([123, 125], 0) :=
 tre_mk (T := fun _ => ([], 0)) LfP.nil (by omega) ⟨by omega, by omega, by omega, by omega, by simp, fun h => by omega, fun h => by omega, fun h => by omega, fun h => by omega, fun h => by omega, fun h => by omega⟩
theorem tre_num {at_ : Int} {wd num : Nat} (hw : wd ≤ 32) (hn : num < 4294967296) : ∃ t : LB, t.length ≤ 30 ∧ TrP FE p w (cellsE 1 at_ 0 wd num [] none 0 0) (t, 1) := by
 refine ⟨_, ?_, tre_mk (T := fun _ => ([], 0)) LfP.nil (by omega) ⟨by omega, by omega, by omega, by omega, by simp, fun h => by omega, fun h => by omega, fun h => by omega, fun h => by omega, fun h => by omega, fun h => by omega⟩⟩
 have h1 := digL_small hn
 have h2 := digL_small (n := wd) (by omega)
 show (txE 1 0 (wd : Int) num [] 0 _ _).length ≤ 30
 unfold txE
 rw [if_pos rfl]
 split
 ·
  omega
 ·
  simp only [List.length_append, Int.toNat_natCast, List.length_cons, List.length_nil]
  omega
theorem tre_idx {at_ : Int} {nm : LB} (hm : nm.length ≤ 100000) (h : LfP FE 56 7 p w A 1 T) (h0 : T 0 = (t0, k0)) : TrP FE p w (cellsE 3 at_ 0 0 0 nm A 1 c) (nm ++ [91] ++ t0 ++ [93], 3) := by
 have := tre_mk (kd := 3) (at_ := at_) (op := 0) (wd := 0) (num := 0) (nm := nm) (c := c) h (by omega) ⟨by omega, by omega, by omega, by omega, hm, fun h => by omega, fun h => by omega, fun h => by omega, fun h => by omega, fun h => by omega, fun h => by omega⟩
 have h9 : TrP FE p w (cellsE 3 at_ 0 0 0 nm A 1 c) (nm ++ [91] ++ (T 0).1 ++ [93], 3) := this
 rw [h0] at h9
 exact h9
theorem tre_part {at_ : Int} {nm : LB} (hm : nm.length ≤ 100000) (h : LfP FE 56 7 p w A 2 T) (h0 : T 0 = (t0, k0)) (h1 : T 1 = (t1, k1)) : TrP FE p w (cellsE 4 at_ 0 0 0 nm A 2 c) (nm ++ [91] ++ t0 ++ [58] ++ t1 ++ [93], 4) := by
 have := tre_mk (kd := 4) (at_ := at_) (op := 0) (wd := 0) (num := 0) (nm := nm) (c := c) h (by omega) ⟨by omega, by omega, by omega, by omega, hm, fun h => by omega, fun h => by omega, fun h => by omega, fun h => by omega, fun h => by omega, fun h => by omega⟩
 have h9 : TrP FE p w (cellsE 4 at_ 0 0 0 nm A 2 c) (nm ++ [91] ++ (T 0).1 ++ [58] ++ (T 1).1 ++ [93], 4) := this
 rw [h0, h1] at h9
 exact h9
theorem tre_un {at_ op : Int} (ho : 0 ≤ op ∧ op ≤ 22) (h : LfP FE 56 7 p w A 1 T) (h0 : T 0 = (t0, k0)) : TrP FE p w (cellsE 5 at_ op 0 0 [] A 1 c) (sgnL op ++ innL k0 t0, 5) := by
 have := tre_mk (kd := 5) (at_ := at_) (op := op) (wd := 0) (num := 0) (nm := []) (c := c) h (by omega) ⟨by omega, ho, by omega, by omega, by simp, fun h => by omega, fun h => by omega, fun h => by omega, fun h => by omega, fun h => by omega, fun h => by omega⟩
 have h9 : TrP FE p w (cellsE 5 at_ op 0 0 [] A 1 c) (sgnL op ++ innL (T 0).2 (T 0).1, 5) := this
 rw [h0] at h9
 exact h9
theorem tre_bin {at_ op : Int} (ho : 0 ≤ op ∧ op ≤ 22) (h : LfP FE 56 7 p w A 2 T) (h0 : T 0 = (t0, k0)) (h1 : T 1 = (t1, k1)) : TrP FE p w (cellsE 6 at_ op 0 0 [] A 2 c) (innL k0 t0 ++ [32] ++ sgnL op ++ [32] ++ innL k1 t1, 6) := by
 have := tre_mk (kd := 6) (at_ := at_) (op := op) (wd := 0) (num := 0) (nm := []) (c := c) h (by omega) ⟨by omega, ho, by omega, by omega, by simp, fun h => by omega, fun h => by omega, fun h => by omega, fun h => by omega, fun h => by omega, fun h => by omega⟩
 have h9 : TrP FE p w (cellsE 6 at_ op 0 0 [] A 2 c) (innL (T 0).2 (T 0).1 ++ [32] ++ sgnL op ++ [32] ++ innL (T 1).2 (T 1).1, 6) := this
 rw [h0, h1] at h9
 exact h9
theorem tre_cond {at_ : Int} (h : LfP FE 56 7 p w A 3 T) (h0 : T 0 = (t0, k0)) (h1 : T 1 = (t1, k1)) (h2 : T 2 = (t2, k2)) : TrP FE p w (cellsE 7 at_ 0 0 0 [] A 3 c) (innL k0 t0 ++ [32, 63, 32] ++ innL k1 t1 ++ [32, 58, 32] ++ innL k2 t2, 7) := by
 have := tre_mk (kd := 7) (at_ := at_) (op := 0) (wd := 0) (num := 0) (nm := []) (c := c) h (by omega) ⟨by omega, by omega, by omega, by omega, by simp, fun h => by omega, fun h => by omega, fun h => by omega, fun h => by omega, fun h => by omega, fun h => by omega⟩
 have h9 : TrP FE p w (cellsE 7 at_ 0 0 0 [] A 3 c) (innL (T 0).2 (T 0).1 ++ [32, 63, 32] ++ innL (T 1).2 (T 1).1 ++ [32, 58, 32] ++ innL (T 2).2 (T 2).1, 7) := this
 rw [h0, h1, h2] at h9
 exact h9
theorem tre_cat {at_ : Int} (hn : n ≤ 3000000) (h : LfP FE 56 7 p w A n T) : TrP FE p w (cellsE 8 at_ 0 0 0 [] A n c) ([123] ++ comL (fun i => (T i).1) n ++ [125], 8) := by
 have := tre_mk (kd := 8) (at_ := at_) (op := 0) (wd := 0) (num := 0) (nm := []) (c := c) h (by omega) ⟨by omega, by omega, by omega, by omega, by simp, fun h => by omega, fun h => by omega, fun h => by omega, fun h => by omega, fun h => by omega, fun h => by omega⟩
 exact this
theorem tre_rep {at_ : Int} (h : LfP FE 56 7 p w A 2 T) (h0 : T 0 = (t0, k0)) (h1 : T 1 = (t1, k1)) : TrP FE p w (cellsE 9 at_ 0 0 0 [] A 2 c) ([123] ++ t0 ++ t1 ++ [125], 9) := by
 have := tre_mk (kd := 9) (at_ := at_) (op := 0) (wd := 0) (num := 0) (nm := []) (c := c) h (by omega) ⟨by omega, by omega, by omega, by omega, by simp, fun h => by omega, fun h => by omega, fun h => by omega, fun h => by omega, fun h => by omega, fun h => by omega⟩
 have h9 : TrP FE p w (cellsE 9 at_ 0 0 0 [] A 2 c) ([123] ++ (T 0).1 ++ (T 1).1 ++ [125], 9) := this
 rw [h0, h1] at h9
 exact h9
end
/-- lists of texts -/
theorem comL_len {T : Nat → LB} : ∀ n, (comL T (n + 1)).length = (comL T n).length + (if n = 0 then 0 else 2) + (T n).length
 | 0 => by simp [comL]
 | n + 1 => by
  show (comL T (n + 1) ++ (if n + 1 = 0 then [] else [44, 32]) ++ T (n + 1)).length = _
  rw [if_neg (Nat.succ_ne_zero n), if_neg (Nat.succ_ne_zero n)]
  simp only [List.length_append, List.length_cons, List.length_nil]
theorem comL_congr {T T' : Nat → LB} : ∀ n, (∀ i, i < n → T i = T' i) → comL T n = comL T' n
 | 0, _ => rfl
 | n + 1, h => by simp only [comL]; rw [comL_congr n (fun i hi => h i (by omega)), h n (by omega)]
theorem catL_congr {T T' : Nat → LB} : ∀ n, (∀ i, i < n → T i = T' i) → catL T n = catL T' n
 | 0, _ => rfl
 | n + 1, h => by simp only [catL]; rw [catL_congr n (fun i hi => h i (by omega)), h n (by omega)]
theorem innL_len (k : Int) (t : LB) : (innL k t).length ≤ t.length + 2 := by
 unfold innL; split
 ·
  simp
 ·
  omega
/-- what expr and its like return -/
def ExOut (s : ByteArray) (b m : Nat) (w : World) (e : Ending) (w' : World) : Prop :=
 ∃ (cs : List Value) (t : LB) (k : Int) (m' : Nat), e = .returned (.agg cs.toArray) ∧ RdS s b w' m' ∧ OnlyB b w w' ∧ Tr FE w.heap.size w'.heap.size w' cs (t, k) ∧ (m' = 0 ∨ (m' < m ∧ t.length + 60 * m' ≤ 60 * m))
theorem ExOut.mk {s : ByteArray} {b m m' : Nat} {w w' : World} {cs : List Value} {t : LB} {k : Int} {v : Value} (h1 : RdS s b w' m') (h2 : OnlyB b w w') (h3 : Tr FE w.heap.size w'.heap.size w' cs (t, k)) (h4 : m' = 0 ∨ (m' < m ∧ t.length + 60 * m' ≤ 60 * m)) (hv : v = .agg cs.toArray) : ExOut s b m w (.returned v) w' :=
 ⟨cs, t, k, m', by rw [hv], h1, h2, h3, h4⟩
/-- what is known of expr, unary, braces for what is less -/
structure ExI (s : ByteArray) (b m : Nat) : Prop where
 expr : ∀ w m', m' < m → RdS s b w m' → Calls Tryd.prog 18 #[.pointer (some ⟨b, 0, none⟩)] w (ExOut s b m' w)
 unary : ∀ w m', m' < m → RdS s b w m' → Calls Tryd.prog 54 #[.pointer (some ⟨b, 0, none⟩)] w (ExOut s b m' w)
 binary : ∀ w m' l, m' < m → l ≤ 10 → RdS s b w m' → Calls Tryd.prog 36 #[.pointer (some ⟨b, 0, none⟩), .int .i64 ((l : Nat) : Int)] w (ExOut s b m' w)
 braces : ∀ w m' x, m' < m → 0 < m' → RdS s b w m' → Calls Tryd.prog 79 #[.pointer (some ⟨b, 0, none⟩), .bool x] w (ExOut s b m' w)
/-- a list in braces, under way -/
structure BrI (s : ByteArray) (b m : Nat) (w : World) (Z b4 b5 at_ : Nat) (g : Nat) (wr : World) (A : Option Addr) (n c : Nat) (T : Nat → LB × Int) : Prop where
 rd : RdS s b wr g
 ol : OnlyB b w wr
 k4 : wr.heap[b4]? = some (.cells #[.int .i64 0, .int .i64 0, .int .i64 0, .int .i64 0, .int .u64 0, .string ⟨#[]⟩, .slice none 0 0] 56)
 k5 : wr.heap[b5]? = some (.cells #[.int .i64 8, .int .i64 (at_ : Int), .int .i64 0, .int .i64 0, .int .u64 0, .string ⟨#[]⟩, .slice A n c] 56)
 ls : Ls FE 56 7 Z b wr A n c T
 nn : n + g ≤ m + 1
 tx : g = 0 ∨ (g < m ∧ (comL (fun i => (T i).1) n).length + 60 * g + 60 ≤ 60 * m)
 sz : Z ≤ wr.heap.size
theorem comL_snoc {T : Nat → LB × Int} {n : Nat} {t : LB × Int} : comL (fun i => (snocF T n t i).1) (n + 1) = comL (fun i => (T i).1) n ++ (if n = 0 then [] else [44, 32]) ++ t.1 := by
 simp only [comL]
 rw [comL_congr (T' := fun i => (T i).1) n (fun i hi => by rw [snocF_lt _ _ hi]), snocF_at]
theorem comL_snoc_len {T : Nat → LB × Int} {n : Nat} {t : LB} {k : Int} : (comL (fun i => (snocF T n (t, k) i).1) (n + 1)).length ≤ (comL (fun i => (T i).1) n).length + 2 + t.length := by
 rw [comL_snoc]
 split <;> simp only [List.length_append, List.length_cons, List.length_nil] <;> omega
theorem comL_one_len {T : Nat → LB × Int} {t : LB} {k : Int} : (comL (fun i => (snocF T 0 (t, k) i).1) 1).length = t.length := by
 rw [show (1 : Nat) = 0 + 1 from rfl, comL_snoc]
 simp [comL]
/-- .. at just so much -/
def ExA (s : ByteArray) (b m : Nat) (f : Nat) (args : Array Value) : Prop := ∀ w, RdS s b w m → Calls Tryd.prog f args w (ExOut s b m w)
end Go.Proofs.YtbdcpealkllfnaaDoor
