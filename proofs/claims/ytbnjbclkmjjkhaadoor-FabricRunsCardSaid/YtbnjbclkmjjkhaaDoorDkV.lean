/- For stream.Decode: a configuration written over another, what the function tells, exits by a panic. No condition. bytes.HasPrefix and bytes.Equal of rows of bytes in memory. No condition. -/
import Derived.Test.YtbnjbclkmjjkhaaDoorDkQ
import Derived.Test.YtbnjbclkmjjkhaaDoorFdW
import Derived.Test.YtbnjbclkmjjkhaaDoorEnR
import Derived.Test.YtbnjbclkmjjkhaaDoorShelfS
import Derived.Lib.SlBytesConst
namespace Go.Proofs.YtbnjbclkmjjkhaaDoor
open Go.RowKit Go.Shelf Go.Deep
attribute [local go_sem] Oper.semAt_some

/-- no configuration -/
def cfgZero : Value := .agg #[.int .i64 0, .int .i64 0, .int .i64 0, .int .i64 0, .int .i64 0, .slice none 0 0, .slice none 0 0, .slice none 0 0]

/-- an exit by a panic leaves nothing behind -/
def noDef (Q : Exit → Act → World → Prop) : Exit → Act → World → Prop
  | .panic c, a, w => a.defers = [] ∧ Q (.panic c) a w
  | x, a, w => Q x a w
theorem noDef_out {Q : Exit → Act → World → Prop} {x : Exit} {a : Act} {w : World} (h : noDef Q x a w) : Q x a w := by
  cases x <;> first | exact h.2 | exact h
theorem wpIn_noDef {F : Fence} {n : Nat} {P : Program} {code : Code} {Q : Exit → Act → World → Prop} {a : Act} {w : World} (h : Code.wpIn F n P code (noDef Q) a w) : Code.wpIn F n P code Q a w := wpIn_mono h (fun _ _ _ => noDef_out)
theorem panicM {F : Fence} {n : Nat} {P : Program} {fn : Func} {R : Ending → World → Prop} {c : _} {a a' : Act} {w : World} (h3 : a.defers = []) (h1 : a'.defers = []) (h : bodyPostM F n P fn R (.panic c) a' w) : bodyPostM F n P fn R (.panic c) a w := by
  simp only [bodyPostM, h1, h3] at h ⊢
  exact h
theorem cells8 {W : World} {b : Nat} {x0 x1 x2 x3 x4 x5 x6 x7 : Value} {t : TypeId} (h : W.heap[b]? = some (.cells #[x0, x1, x2, x3, x4, x5, x6, x7] t)) :
    (W.cell? ⟨b, 0, none⟩ = some x0 ∧ W.cell? ⟨b, 1, none⟩ = some x1 ∧ W.cell? ⟨b, 2, none⟩ = some x2 ∧ W.cell? ⟨b, 3, none⟩ = some x3 ∧ W.cell? ⟨b, 4, none⟩ = some x4 ∧ W.cell? ⟨b, 5, none⟩ = some x5 ∧ W.cell? ⟨b, 6, none⟩ = some x6 ∧ W.cell? ⟨b, 7, none⟩ = some x7) ∧
    ∀ j, W.frozen? ⟨b, j, none⟩ = false := by
  refine ⟨⟨?_, ?_, ?_, ?_, ?_, ?_, ?_, ?_⟩, fun j => by simp [World.frozen?, h]⟩
  all_goals (rw [cell_of_row W b _ _ _ _ h]; rfl)

/-- a configuration written over another -/
def set8 (W : World) (b : Nat) (x0 x1 x2 x3 x4 x5 x6 x7 : Value) : World := (((((((W.setCell ⟨b, 0, none⟩ x0).setCell ⟨b, 1, none⟩ x1).setCell ⟨b, 2, none⟩ x2).setCell ⟨b, 3, none⟩ x3).setCell ⟨b, 4, none⟩ x4).setCell ⟨b, 5, none⟩ x5).setCell ⟨b, 6, none⟩ x6).setCell ⟨b, 7, none⟩ x7
theorem set1_heap {W : World} {b : Nat} {cur : Array Value} {t : TypeId} {z : Nat × Nat} (h : W.heap[b]? = some (.cells cur t z)) (o : Nat) (v : Value) : (W.setCell ⟨b, o, none⟩ v).heap[b]? = some (.cells (cur.setIfInBounds o v) t z) := by
  simp [World.setCell, Array.getElem?_modify, h]
theorem set8_heap {W : World} {b : Nat} {y0 y1 y2 y3 y4 y5 y6 y7 : Value} {t : TypeId} (h : W.heap[b]? = some (.cells #[y0, y1, y2, y3, y4, y5, y6, y7] t)) (x0 x1 x2 x3 x4 x5 x6 x7 : Value) :
    (set8 W b x0 x1 x2 x3 x4 x5 x6 x7).heap[b]? = some (.cells #[x0, x1, x2, x3, x4, x5, x6, x7] t) := by
  have h0 := set1_heap h 0 x0
  have h1 := set1_heap h0 1 x1
  have h2 := set1_heap h1 2 x2
  have h3 := set1_heap h2 3 x3
  have h4 := set1_heap h3 4 x4
  have h5 := set1_heap h4 5 x5
  have h6 := set1_heap h5 6 x6
  have h7 := set1_heap h6 7 x7
  unfold set8
  rw [h7]
  simp
theorem set8_only {S : Nat → Prop} {w W : World} {b : Nat} (h : Only S w W) (hb : b < w.heap.size → S b) (x0 x1 x2 x3 x4 x5 x6 x7 : Value) : Only S w (set8 W b x0 x1 x2 x3 x4 x5 x6 x7) :=
  ((((((((h.setCell (p := ⟨b, 0, none⟩) hb x0).setCell (p := ⟨b, 1, none⟩) hb x1).setCell (p := ⟨b, 2, none⟩) hb x2).setCell (p := ⟨b, 3, none⟩) hb x3).setCell (p := ⟨b, 4, none⟩) hb x4).setCell (p := ⟨b, 5, none⟩) hb x5).setCell (p := ⟨b, 6, none⟩) hb x6).setCell (p := ⟨b, 7, none⟩) hb x7)
theorem set8_below {w W : World} {b : Nat} (h : Below w.heap.size w W) (hb : w.heap.size ≤ b) (x0 x1 x2 x3 x4 x5 x6 x7 : Value) : Below w.heap.size w (set8 W b x0 x1 x2 x3 x4 x5 x6 x7) :=
  ((((((((h.setCell (p := ⟨b, 0, none⟩) hb x0).setCell (p := ⟨b, 1, none⟩) hb x1).setCell (p := ⟨b, 2, none⟩) hb x2).setCell (p := ⟨b, 3, none⟩) hb x3).setCell (p := ⟨b, 4, none⟩) hb x4).setCell (p := ⟨b, 5, none⟩) hb x5).setCell (p := ⟨b, 6, none⟩) hb x6).setCell (p := ⟨b, 7, none⟩) hb x7)
/-- what Decode tells: the configuration in its box, the error -/
theorem outs9 {tmps : Array Value} {W : World} {b : Nat} {x0 x1 x2 x3 x4 x5 x6 x7 v : Value} (h2 : tmps[2]? = some (.pointer (some ⟨b, 0, none⟩))) (h3 : tmps[3]? = some v) (h : W.heap[b]? = some (.cells #[x0, x1, x2, x3, x4, x5, x6, x7] 31)) :
    (results Tryd.f9 tmps).run Tryd.prog W = .ok (.tuple #[.agg #[x0, x1, x2, x3, x4, x5, x6, x7], v]) W := by
  obtain ⟨⟨c0, c1, c2, c3, c4, c5, c6, c7⟩, _⟩ := cells8 h
  simp [results, Tryd.f9, go_sem, h2, h3, c0, c1, c2, c3, c4, c5, c6, c7]

theorem fold8 (W : World) (b : Nat) (x0 x1 x2 x3 x4 x5 x6 x7 : Value) : (((((((W.setCell ⟨b, 0, none⟩ x0).setCell ⟨b, 1, none⟩ x1).setCell ⟨b, 2, none⟩ x2).setCell ⟨b, 3, none⟩ x3).setCell ⟨b, 4, none⟩ x4).setCell ⟨b, 5, none⟩ x5).setCell ⟨b, 6, none⟩ x6).setCell ⟨b, 7, none⟩ x7 = set8 W b x0 x1 x2 x3 x4 x5 x6 x7 := by unfold set8; rfl
theorem outs9d {tmps : Array Value} {W : World} {b : Nat} {x0 x1 x2 x3 x4 x5 x6 x7 v : Value} (h2 : tmps[2]? = some (.pointer (some ⟨b, 0, none⟩))) (h3 : tmps[3]? = some v) (h : W.heap[b]? = some (.cells #[x0, x1, x2, x3, x4, x5, x6, x7] 31)) :
    (results Tryd.f9 tmps).run Tryd.prog W.drew = .ok (.tuple #[.agg #[x0, x1, x2, x3, x4, x5, x6, x7], v]) W.drew := outs9 h2 h3 (by exact h)
/-- a way out without a configuration -/
theorem told_no {l : List UInt8} {w W V : World} {R : Prop} (h : ¬ GoodB l) (hF : W.heap[w.heap.size + 1 + 1]? = some (.cells #[.int .i64 18, .int .i64 0] 41)) (ho : Only (fun k => k = w.heap.size + 1) W V) (hb : Below w.heap.size w V) :
    (R ∨ (¬ GoodB l ∧ ∃ b, Ending.returned (.tuple #[cfgZero, .iface 63 (.pointer (some ⟨w.heap.size + 1 + 1, 0, none⟩))]) = .returned (.tuple #[cfgZero, .iface 63 (.pointer (some ⟨b, 0, none⟩))]) ∧ V.cell? ⟨b, 0, none⟩ = some (.int .i64 18) ∧ V.cell? ⟨b, 1, none⟩ = some (.int .i64 0))) ∧
      Below w.heap.size w V :=
  ⟨.inr ⟨h, _, rfl, ho.cell (by rw [cell_of_row W (w.heap.size + 1 + 1) 0 _ _ _ hF]; rfl) (by simp), ho.cell (by rw [cell_of_row W (w.heap.size + 1 + 1) 1 _ _ _ hF]; rfl) (by simp)⟩, hb⟩
/-- the results' configuration is cleared -/
def zap (W : World) (b : Nat) : World := set8 W b (.int .i64 0) (.int .i64 0) (.int .i64 0) (.int .i64 0) (.int .i64 0) (.slice none 0 0) (.slice none 0 0) (.slice none 0 0)
theorem fold_zap (W : World) (b : Nat) : (((((((W.setCell ⟨b, 0, none⟩ (.int .i64 0)).setCell ⟨b, 1, none⟩ (.int .i64 0)).setCell ⟨b, 2, none⟩ (.int .i64 0)).setCell ⟨b, 3, none⟩ (.int .i64 0)).setCell ⟨b, 4, none⟩ (.int .i64 0)).setCell ⟨b, 5, none⟩ (.slice none 0 0)).setCell ⟨b, 6, none⟩ (.slice none 0 0)).setCell ⟨b, 7, none⟩ (.slice none 0 0) = zap W b := by unfold zap set8; rfl
theorem zap_only (W : World) (b : Nat) : Only (fun k => k = b) W (zap W b) := set8_only (Only.refl (fun k => k = b) W) (fun _ => rfl) _ _ _ _ _ _ _ _
theorem zap_below {w W : World} {b : Nat} (h : Below w.heap.size w W) (hb : w.heap.size ≤ b) : Below w.heap.size w (zap W b) := set8_below h hb _ _ _ _ _ _ _ _
theorem zap_heap {W : World} {b : Nat} {y0 y1 y2 y3 y4 y5 y6 y7 : Value} {t : TypeId} (h : W.heap[b]? = some (.cells #[y0, y1, y2, y3, y4, y5, y6, y7] t)) : (zap W b).heap[b]? = some (.cells #[.int .i64 0, .int .i64 0, .int .i64 0, .int .i64 0, .int .i64 0, .slice none 0 0, .slice none 0 0, .slice none 0 0] t) := set8_heap h _ _ _ _ _ _ _ _
end Go.Proofs.YtbnjbclkmjjkhaaDoor
namespace Go.Proofs.YtbnjbclkmjjkhaaDoor
open Go.RowKit Go.Shelf

def ints (l : List UInt8) : List Int := l.map fun b => (b.toNat : Int)
theorem bytes_ints (l : List UInt8) : Lib.bytesOf (ints l) = l := by
  simp only [Lib.bytesOf, ints, List.map_map]
  refine (List.map_congr_left (fun b _ => ?_)).trans (List.map_id l)
  simp
theorem Mem.ints {w : World} {A : Option Addr} {l : List UInt8} (h : Mem w A l) : Lib.BytesIn w A l.length (ints l) := fun hn => by
  obtain ⟨b, o, e, hc⟩ := h hn
  refine ⟨b, o, e, fun i hi => ?_⟩
  rw [hc i hi]
  simp [Go.Proofs.YtbnjbclkmjjkhaaDoor.ints, List.getD_eq_getElem?_getD, hi]
theorem prefix_any (A D : Option Addr) (l m : List UInt8) (c d : Nat) (w : World) (hl : Mem w A l) (hm : Mem w D m) (hc : l.length ≤ c) :
    Calls Tryd.prog 20 #[.slice A l.length c, .slice D m.length d] w fun e w' => e = .returned (.bool (Lib.hasPrefix l m)) ∧ w' = w := by
  have h := Go.Proofs.Tryd.bytes_HasPrefix_all A D l.length c m.length d (ints l) (ints m) w (by simp [ints]) (by simp [ints]) hc hl.ints hm.ints
  rwa [bytes_ints, bytes_ints] at h
theorem equal_any (A D : Option Addr) (l m : List UInt8) (c d : Nat) (w : World) (hl : Mem w A l) (hm : Mem w D m) :
    Calls Tryd.prog 21 #[.slice A l.length c, .slice D m.length d] w fun e w' => e = .returned (.bool (l == m)) ∧ w' = w := by
  have h := Go.Proofs.Tryd.bytes_Equal_all A D l.length c m.length d (ints l) (ints m) w (by simp [ints]) (by simp [ints]) hl.ints hm.ints
  rwa [bytes_ints, bytes_ints] at h
theorem equaln_any (A D : Option Addr) (l m : List UInt8) (n c d : Nat) (w : World) (hn : n = l.length) (hl : Mem w A l) (hm : Mem w D m) :
    Calls Tryd.prog 21 #[.slice A n c, .slice D m.length d] w fun e w' => (∃ q, e = .returned (.bool q) ∧ Hid (q = true ↔ l = m)) ∧ w' = w := by
  subst hn
  exact (equal_any A D l m c d w hl hm).mono fun e w' ⟨h, hw⟩ => ⟨⟨_, h, Lib.hid (by simp)⟩, hw⟩
theorem prefix4_any (A D : Option Addr) (l : List UInt8) (c : Nat) (w : World) (hl : Mem w A l) (hm : Mem w D [71, 87, 66, 49]) (hc : l.length ≤ c) :
    Calls Tryd.prog 20 #[.slice A l.length c, .slice D 4 4] w fun e w' => e = .returned (.bool (Lib.hasPrefix l [71, 87, 66, 49])) ∧ w' = w := prefix_any A D l [71, 87, 66, 49] c 4 w hl hm hc
theorem prefix_yes {l : List UInt8} (h : l.take 4 = [71, 87, 66, 49]) : Lib.hasPrefix l [71, 87, 66, 49] = true := by
  unfold Lib.hasPrefix
  rw [List.isPrefixOf_iff_prefix, ← h]
  exact List.take_prefix _ _
theorem prefix_no {l : List UInt8} (h : l.take 4 ≠ [71, 87, 66, 49]) : Lib.hasPrefix l [71, 87, 66, 49] = false := by
  rw [Bool.eq_false_iff]
  intro hp
  unfold Lib.hasPrefix at hp
  rw [List.isPrefixOf_iff_prefix] at hp
  exact h (List.prefix_iff_eq_take.1 hp).symm
theorem mem_body {w : World} {A : Option Addr} {l : List UInt8} (h : Mem w A l) : Mem w A (body l) := fun hn => by
  rw [body_len] at hn
  obtain ⟨b, o, e, hc⟩ := h (by omega)
  refine ⟨b, o, e, fun k hk => ?_⟩
  rw [body_len] at hk
  rw [hc k (by omega)]
  simp only [body, List.getD_eq_getElem?_getD, List.getElem?_take, if_pos hk]
/-- the four bytes of the head are laid -/
theorem magic_lay (v : World) : ∃ w4, (convert 22 22 (.slice (some ⟨v.heap.size, 0, none⟩) 4 4)).run Tryd.prog ((v.alloc (.cells #[.int .u8 71, .int .u8 87, .int .u8 66, .int .u8 49] 5)).drew) = .ok (.slice (some ⟨v.heap.size, 0, none⟩) 4 4) w4 ∧
    Below v.heap.size v w4 ∧ Mem w4 (some ⟨v.heap.size, 0, none⟩) [71, 87, 66, 49] ∧ w4.heap.size = v.heap.size + 1 := by
  refine ⟨_, Go.Lib.run_convert_bytes_const (P := Tryd.prog) v.drew 22 5 #[.int .u8 71, .int .u8 87, .int .u8 66, .int .u8 49] 4 4 Tryd.underlying22 Tryd.underlying5, ((Below.refl _ v).drew).alloc (by simp) _, fun _ => ⟨v.heap.size, 0, rfl, fun k hk => ?_⟩, by simp⟩
  rw [show v.heap.size = v.drew.heap.size from rfl, cell_of_row _ _ _ _ _ _ (heap_alloc_new v.drew _)]
  have hk : k < 4 := hk
  obtain rfl | rfl | rfl | rfl : k = 0 ∨ k = 1 ∨ k = 2 ∨ k = 3 := by omega
  all_goals rfl
end Go.Proofs.YtbnjbclkmjjkhaaDoor
