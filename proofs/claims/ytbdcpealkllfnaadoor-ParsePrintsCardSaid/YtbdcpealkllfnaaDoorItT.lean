/- What the reference's Reader returns as ranges, bindings, items: contracts said, trees made. Condition: the text has at most 60000 bytes. What the reference's Reader returns as ranges, bindings, items: contracts said, trees made. Condition: the text has at most 60000 bytes. -/
import Derived.Test.YtbdcpealkllfnaaDoorStC
import Derived.Test.YtbdcpealkllfnaaDoorItC
namespace Go.Proofs.YtbdcpealkllfnaaDoor
open Go.RowKit Go.Deep

theorem stR : StT Tryd.prog 61 15 := ⟨_, Tryd.underlying61, by kernel_rfl⟩
theorem stB : StT Tryd.prog 58 10 := ⟨_, Tryd.underlying58, by kernel_rfl⟩
theorem stP : StT Tryd.prog 63 19 := ⟨_, Tryd.underlying63, by kernel_rfl⟩
theorem stI : StT Tryd.prog 75 65 := ⟨_, Tryd.underlying75, by kernel_rfl⟩
theorem stM : StT Tryd.prog 40 5 := ⟨_, Tryd.underlying40, by kernel_rfl⟩
abbrev zEL : List Value := [.int .i64 0, .int .i64 0, .int .i64 0, .int .i64 0, .int .u64 0, .string ⟨#[]⟩, .slice none 0 0]
abbrev zSL : List Value := [.int .i64 0, .int .i64 0, .bool false, .string ⟨#[]⟩, .slice none 0 0, .slice none 0 0, .slice none 0 0]
abbrev zRL : List Value := .bool false :: (zEL ++ zEL)
abbrev zBL : List Value := .string ⟨#[]⟩ :: .int .i64 0 :: .bool false :: zEL
abbrev zPL : List Value := .string ⟨#[]⟩ :: .int .i64 0 :: .bool false :: .bool false :: zRL
def zI : ItV := ⟨0, 0, [], [], zRL, zRL, false, zEL, zEL, false, zSL, none, 0, 0, none, 0, 0, none, 0, 0, [], none, 0, 0, false, [], none, 0, 0⟩
theorem zeroI (w : World) : (zeroValue 75).run Tryd.prog w = .ok (.agg (cellsI zI).toArray) w := by
 have h : (Tryd.prog.info? 75).map (fun i => i.zero) = some (some (.agg (cellsI zI).toArray)) := by kernel_rfl
 cases hq : Tryd.prog.info? 75 with
 | none => simp [hq] at h
 | some i =>
  simp [hq] at h
  simp [zeroValue, typeInfo, hq, h]
theorem elB : Elem Tryd.prog 36 58 10 112 := elem_mk Tryd.underlying36 (z := .agg zBL.toArray) (by kernel_rfl) rfl (by omega) (by omega)
theorem elP : Elem Tryd.prog 37 63 19 200 := elem_mk Tryd.underlying37 (z := .agg zPL.toArray) (by kernel_rfl) rfl (by omega) (by omega)
theorem elI : Elem Tryd.prog 38 75 65 832 := elem_mk Tryd.underlying38 (z := .agg (cellsI zI).toArray) (by kernel_rfl) rfl (by omega) (by omega)
theorem elM : Elem Tryd.prog 24 40 5 96 := elem_mk Tryd.underlying24 (z := .agg #[.string ⟨#[]⟩, .int .i64 0, .slice none 0 0, .slice none 0 0, .slice none 0 0]) (by kernel_rfl) rfl (by omega) (by omega)
theorem len10 {l : List Value} (h : l.length = 10) : ∃ x0 x1 x2 x3 x4 x5 x6 x7 x8 x9, l = [x0, x1, x2, x3, x4, x5, x6, x7, x8, x9] := by
 match l, h with
 | [x0, x1, x2, x3, x4, x5, x6, x7, x8, x9], _ => exact ⟨x0, x1, x2, x3, x4, x5, x6, x7, x8, x9, rfl⟩
theorem built10 {c : List Value} (hc : c.length = 10) : Tryd.prog.builtSlice 58 1 [(0, .agg c.toArray)] = some c.toArray := by
 obtain ⟨x0, x1, x2, x3, x4, x5, x6, x7, x8, x9, rfl⟩ := len10 hc
 kernel_rfl
theorem len19 {l : List Value} (h : l.length = 19) : ∃ x0 x1 x2 x3 x4 x5 x6 x7 x8 x9 x10 x11 x12 x13 x14 x15 x16 x17 x18, l = [x0, x1, x2, x3, x4, x5, x6, x7, x8, x9, x10, x11, x12, x13, x14, x15, x16, x17, x18] := by
 match l, h with
 | [x0, x1, x2, x3, x4, x5, x6, x7, x8, x9, x10, x11, x12, x13, x14, x15, x16, x17, x18], _ => exact ⟨x0, x1, x2, x3, x4, x5, x6, x7, x8, x9, x10, x11, x12, x13, x14, x15, x16, x17, x18, rfl⟩
theorem built19 {c : List Value} (hc : c.length = 19) : Tryd.prog.builtSlice 63 1 [(0, .agg c.toArray)] = some c.toArray := by
 obtain ⟨x0, x1, x2, x3, x4, x5, x6, x7, x8, x9, x10, x11, x12, x13, x14, x15, x16, x17, x18, rfl⟩ := len19 hc
 kernel_rfl
theorem len65 {l : List Value} (h : l.length = 65) : ∃ x0 x1 x2 x3 x4 x5 x6 x7 x8 x9 x10 x11 x12 x13 x14 x15 x16 x17 x18 x19 x20 x21 x22 x23 x24 x25 x26 x27 x28 x29 x30 x31 x32 x33 x34 x35 x36 x37 x38 x39 x40 x41 x42 x43 x44 x45 x46 x47 x48 x49 x50 x51 x52 x53 x54 x55 x56 x57 x58 x59 x60 x61 x62 x63 x64, l = (x0 :: x1 :: x2 :: x3 :: x4 :: x5 :: x6 :: x7 :: x8 :: x9 :: x10 :: x11 :: x12 :: x13 :: x14 :: x15 :: x16 :: x17 :: x18 :: x19 :: x20 :: x21 :: x22 :: x23 :: x24 :: x25 :: x26 :: x27 :: x28 :: x29 :: x30 :: x31 :: x32 :: x33 :: x34 :: x35 :: x36 :: x37 :: x38 :: x39 :: x40 :: x41 :: x42 :: x43 :: x44 :: x45 :: x46 :: x47 :: x48 :: x49 :: x50 :: x51 :: x52 :: x53 :: x54 :: x55 :: x56 :: x57 :: x58 :: x59 :: x60 :: x61 :: x62 :: x63 :: x64 :: []) := by
 match l, h with
 | (x0 :: x1 :: x2 :: x3 :: x4 :: x5 :: x6 :: x7 :: x8 :: x9 :: x10 :: x11 :: x12 :: x13 :: x14 :: x15 :: x16 :: x17 :: x18 :: x19 :: x20 :: x21 :: x22 :: x23 :: x24 :: x25 :: x26 :: x27 :: x28 :: x29 :: x30 :: x31 :: x32 :: x33 :: x34 :: x35 :: x36 :: x37 :: x38 :: x39 :: x40 :: x41 :: x42 :: x43 :: x44 :: x45 :: x46 :: x47 :: x48 :: x49 :: x50 :: x51 :: x52 :: x53 :: x54 :: x55 :: x56 :: x57 :: x58 :: x59 :: x60 :: x61 :: x62 :: x63 :: x64 :: []), _ => exact ⟨x0, x1, x2, x3, x4, x5, x6, x7, x8, x9, x10, x11, x12, x13, x14, x15, x16, x17, x18, x19, x20, x21, x22, x23, x24, x25, x26, x27, x28, x29, x30, x31, x32, x33, x34, x35, x36, x37, x38, x39, x40, x41, x42, x43, x44, x45, x46, x47, x48, x49, x50, x51, x52, x53, x54, x55, x56, x57, x58, x59, x60, x61, x62, x63, x64, rfl⟩
theorem built65 {c : List Value} (hc : c.length = 65) : Tryd.prog.builtSlice 75 1 [(0, .agg c.toArray)] = some c.toArray := by
 obtain ⟨x0, x1, x2, x3, x4, x5, x6, x7, x8, x9, x10, x11, x12, x13, x14, x15, x16, x17, x18, x19, x20, x21, x22, x23, x24, x25, x26, x27, x28, x29, x30, x31, x32, x33, x34, x35, x36, x37, x38, x39, x40, x41, x42, x43, x44, x45, x46, x47, x48, x49, x50, x51, x52, x53, x54, x55, x56, x57, x58, x59, x60, x61, x62, x63, x64, rfl⟩ := len65 hc
 kernel_rfl
theorem len5 {l : List Value} (h : l.length = 5) : ∃ x0 x1 x2 x3 x4, l = [x0, x1, x2, x3, x4] := by
 match l, h with
 | [x0, x1, x2, x3, x4], _ => exact ⟨x0, x1, x2, x3, x4, rfl⟩
theorem built5 {c : List Value} (hc : c.length = 5) : Tryd.prog.builtSlice 40 1 [(0, .agg c.toArray)] = some c.toArray := by
 obtain ⟨x0, x1, x2, x3, x4, rfl⟩ := len5 hc
 kernel_rfl
end Go.Proofs.YtbdcpealkllfnaaDoor
namespace Go.Proofs.YtbdcpealkllfnaaDoor
open Go.RowKit Go.Deep

section
variable {p : Nat → Prop} {w : World} {cs : List Value}
theorem lenR {r : SpT} (h : TrP FR p w cs r) : cs.length = 15 := by
 obtain ⟨d, h⟩ := h
 exact PrR.len h
theorem oneR {r : SpT} (h : TrP FR p w cs r) : ∀ u ∈ cs, u.oneCell' = true := by
 obtain ⟨d, H, L, kH, kL, e, h1, h2⟩ := h
 subst e
 intro u hu
 rcases List.mem_cons.1 hu with rfl | hu
 ·
  rfl
 ·
  rcases List.mem_append.1 hu with h | h
  ·
   exact TrP.one (t := (r.2.1, kH)) ⟨d, h1⟩ u h
  ·
   exact TrP.one (t := (r.2.2, kL)) ⟨d, h2⟩ u h
theorem lenB {t : BiT} (h : TrP FB p w cs t) : cs.length = 10 := by
 obtain ⟨d, a, V, k, e, hn, h1⟩ := h
 rw [e, List.length_cons, List.length_cons, List.length_cons, PrE.len h1]
theorem oneB {t : BiT} (h : TrP FB p w cs t) : ∀ u ∈ cs, u.oneCell' = true := by
 obtain ⟨d, a, V, k, e, hn, h1⟩ := h
 subst e
 intro u hu
 rcases List.mem_cons.1 hu with rfl | hu
 ·
  rfl
 rcases List.mem_cons.1 hu with rfl | hu
 ·
  rfl
 rcases List.mem_cons.1 hu with rfl | hu
 ·
  rfl
 exact TrP.one (t := (t.2.2, k)) ⟨d, h1⟩ u hu
theorem lenP {t : PoT} (h : TrP FPo p w cs t) : cs.length = 19 := by
 obtain ⟨d, a, R, e, hn, ho, h1⟩ := h
 rw [e, List.length_cons, List.length_cons, List.length_cons, List.length_cons, PrR.len h1]
theorem oneP {t : PoT} (h : TrP FPo p w cs t) : ∀ u ∈ cs, u.oneCell' = true := by
 obtain ⟨d, a, R, e, hn, ho, h1⟩ := h
 subst e
 intro u hu
 rcases List.mem_cons.1 hu with rfl | hu
 ·
  rfl
 rcases List.mem_cons.1 hu with rfl | hu
 ·
  rfl
 rcases List.mem_cons.1 hu with rfl | hu
 ·
  rfl
 rcases List.mem_cons.1 hu with rfl | hu
 ·
  rfl
 exact oneR ⟨d, h1⟩ u hu
theorem trr_mk {on : Bool} {H L : List Value} {tH tL : LB × Int} (h1 : TrP FE p w H tH) (h2 : TrP FE p w L tL) : TrP FR p w (.bool on :: (H ++ L)) (on, tH.1, tL.1) := by
 obtain ⟨d1, h1⟩ := h1
 obtain ⟨d2, h2⟩ := h2
 exact ⟨d1 + d2, H, L, tH.2, tL.2, rfl, PrE.deep (by omega) h1, PrE.deep (by omega) h2⟩
theorem trr_zero : TrP FR p w zRL (false, [123, 125], [123, 125]) := trr_mk (on := false) (tH := ([123, 125], 0)) (tL := ([123, 125], 0)) tre_zero tre_zero
theorem trb_mk {nm : LB} {at_ : Int} {given : Bool} {V : List Value} {t : LB × Int} (hn : nm.length ≤ 100000) (h : TrP FE p w V t) : TrP FB p w (.string (bstr nm) :: .int .i64 at_ :: .bool given :: V) (nm, given, t.1) := by
 obtain ⟨d, h⟩ := h
 exact ⟨d, at_, V, t.2, rfl, hn, h⟩
theorem trp_mk {nm : LB} {at_ : Int} {out reg : Bool} {R : List Value} {r : SpT} (hn : nm.length ≤ 100000) (ho : reg = true → out = true) (h : TrP FR p w R r) : TrP FPo p w (.string (bstr nm) :: .int .i64 at_ :: .bool out :: .bool reg :: R) (out, reg, r, nm) := by
 obtain ⟨d, h⟩ := h
 exact ⟨d, at_, R, rfl, hn, ho, h⟩
theorem tri_mk {x : ItV} {r wd : SpT} {tV tG : LB × Int} {tB : LB} {TP TQ : Nat → BiT} {TE : Nat → LB × Int} {TI TL : Nat → LB} (ok : OkI x) (hR : TrP FR p w x.R r) (hW : TrP FR p w x.W wd) (hV : TrP FE p w x.V tV) (hG : TrP FE p w x.G tG) (hB : x.kd = 6 → TrP FS p w x.B tB)
  (hP : LfP FB 58 10 p w x.AP x.np TP) (hQ : LfP FB 58 10 p w x.AQ x.nq TQ) (hE : LfP FE 56 7 p w x.AE x.ne TE) (hI : LfP FI 75 65 p w x.AI x.ni TI) (hL : LfP FI 75 65 p w x.AL x.nl TL)
  (hn : x.np ≤ 3000000 ∧ x.nq ≤ 3000000 ∧ x.ne ≤ 3000000 ∧ x.ni ≤ 3000000 ∧ x.nl ≤ 3000000) : TrP FI p w (cellsI x) (itx x r wd tV tG tB TP TQ TE TI TL) := by
 obtain ⟨d1, h1⟩ := hR
 obtain ⟨d2, h2⟩ := hW
 obtain ⟨d3, h3⟩ := hV
 obtain ⟨d4, h4⟩ := hG
 obtain ⟨d5, h5⟩ : ∃ d, x.kd = 6 → FS.P d w p x.B tB := by
  by_cases hk : x.kd = 6
  ·
   obtain ⟨d, h⟩ := hB hk
   exact ⟨d, fun _ => h⟩
  ·
   exact ⟨0, fun h => absurd h hk⟩
 obtain ⟨d6, h6⟩ := Rw.of hP hn.1
 obtain ⟨d7, h7⟩ := Rw.of hQ hn.2.1
 obtain ⟨d8, h8⟩ := Rw.of hE hn.2.2.1
 obtain ⟨d9, h9⟩ := Rw.of hI hn.2.2.2.1
 obtain ⟨da, ha⟩ := Rw.of hL hn.2.2.2.2
 exact ⟨d9 + da + 1, x, r, wd, tV, tG, tB, TP, TQ, TE, TI, TL, d1 + d2 + d3 + d4 + d5 + d6 + d7 + d8, rfl, ok, FR.deep (by omega) h1, FR.deep (by omega) h2, PrE.deep (by omega) h3, PrE.deep (by omega) h4, fun hk => PrS.deep (by omega) (h5 hk),
  h6.imp (fun _ _ h => FB.deep (by omega) h), h7.imp (fun _ _ h => FB.deep (by omega) h), h8.imp (fun _ _ h => PrE.deep (by omega) h), h9.imp (fun _ _ h => PrI.deep (by omega) h), ha.imp (fun _ _ h => PrI.deep (by omega) h), rfl⟩
theorem lenI {t : LB} (h : TrP FI p w cs t) : cs.length = 65 ∧ ∀ u ∈ cs, u.oneCell' = true := by
 obtain ⟨d, h⟩ := h
 cases d with
 | zero => exact h.elim
 | succ d =>
  obtain ⟨x, r, wd, tV, tG, tB, TP, TQ, TE, TI, TL, dE, e, ok, h1, h2, h3, h4, _⟩ := h
  subst e
  have hx : LenI x := ⟨PrR.len h1, PrR.len h2, PrE.len h3, PrE.len h4, ok.b.1⟩
  refine ⟨cellsI_len hx, fun u hu => ?_⟩
  have o1 := oneR (p := p) (w := w) ⟨dE, h1⟩
  have o2 := oneR (p := p) (w := w) ⟨dE, h2⟩
  have o3 := TrP.one (p := p) (w := w) (t := tV) ⟨dE, h3⟩
  have o4 := TrP.one (p := p) (w := w) (t := tG) ⟨dE, h4⟩
  unfold cellsI at hu
  rcases List.mem_cons.1 hu with rfl | hu
  ·
   rfl
  rcases List.mem_cons.1 hu with rfl | hu
  ·
   rfl
  rcases List.mem_cons.1 hu with rfl | hu
  ·
   rfl
  rcases List.mem_cons.1 hu with rfl | hu
  ·
   rfl
  rcases List.mem_append.1 hu with hu | hu
  ·
   exact o1 u hu
  rcases List.mem_append.1 hu with hu | hu
  ·
   exact o2 u hu
  rcases List.mem_cons.1 hu with rfl | hu
  ·
   rfl
  rcases List.mem_append.1 hu with hu | hu
  ·
   exact o3 u hu
  rcases List.mem_append.1 hu with hu | hu
  ·
   exact o4 u hu
  rcases List.mem_cons.1 hu with rfl | hu
  ·
   rfl
  rcases List.mem_append.1 hu with hu | hu
  ·
   exact ok.b.2 u hu
  exact List.all_eq_true.1 (show ([.slice x.AP x.np x.cp, .slice x.AQ x.nq x.cq, .slice x.AE x.ne x.ce, .string (bstr x.lab), .slice x.AI x.ni x.ci, .bool x.he, .string (bstr x.elab_), .slice x.AL x.nl x.cl] : List Value).all (·.oneCell') = true from rfl) u hu
theorem sizeI {t : LB} (h : TrP FI p w cs t) : cs.toArray.size = 65 := by simp [(lenI h).1]
theorem onesI {t : LB} (h : TrP FI p w cs t) : ∀ u ∈ cs.toArray.toList, u.oneCell' = true := by simpa using (lenI h).2
end
theorem okB_zero : zSL.length = 7 ∧ ∀ u ∈ zSL, u.oneCell' = true := ⟨rfl, fun u hu => List.all_eq_true.1 (show zSL.all (·.oneCell') = true from rfl) u hu⟩
/-- how long a text may get for what is taken -/
def KK : Nat := 8000000
def SpOut (s : ByteArray) (b m : Nat) (w : World) (e : Ending) (w' : World) : Prop :=
 ∃ (cs : List Value) (r : SpT) (m' : Nat), e = .returned (.agg cs.toArray) ∧ RdS s b w' m' ∧ OnlyB b w w' ∧ Tr FR w.heap.size w'.heap.size w' cs r ∧ (m' = 0 ∨ (m' ≤ m ∧ (spanT r).length + 60 * m' ≤ 60 * m ∧ r.2.1.length + r.2.2.length + 60 * m' ≤ 60 * m + 4))
theorem SpOut.mk {s : ByteArray} {b m m' : Nat} {w w' : World} {cs : List Value} {r : SpT} {v : Value} (h1 : RdS s b w' m') (h2 : OnlyB b w w') (h3 : Tr FR w.heap.size w'.heap.size w' cs r) (h4 : m' = 0 ∨ (m' ≤ m ∧ (spanT r).length + 60 * m' ≤ 60 * m ∧ r.2.1.length + r.2.2.length + 60 * m' ≤ 60 * m + 4)) (hv : v = .agg cs.toArray) : SpOut s b m w (.returned v) w' :=
 ⟨cs, r, m', by rw [hv], h1, h2, h3, h4⟩
def BiOut (s : ByteArray) (b m : Nat) (w : World) (e : Ending) (w' : World) : Prop :=
 ∃ (cs : List Value) (t : BiT) (m' : Nat), e = .returned (.agg cs.toArray) ∧ RdS s b w' m' ∧ OnlyB b w w' ∧ Tr FB w.heap.size w'.heap.size w' cs t ∧ (m' = 0 ∨ (m' < m ∧ (bindT t).length + 60 * m' + 10 ≤ 60 * m))
theorem BiOut.mk {s : ByteArray} {b m m' : Nat} {w w' : World} {cs : List Value} {t : BiT} {v : Value} (h1 : RdS s b w' m') (h2 : OnlyB b w w') (h3 : Tr FB w.heap.size w'.heap.size w' cs t) (h4 : m' = 0 ∨ (m' < m ∧ (bindT t).length + 60 * m' + 10 ≤ 60 * m)) (hv : v = .agg cs.toArray) : BiOut s b m w (.returned v) w' :=
 ⟨cs, t, m', by rw [hv], h1, h2, h3, h4⟩
def BsOut (s : ByteArray) (b m : Nat) (w : World) (e : Ending) (w' : World) : Prop :=
 ∃ (A : Option Addr) (n c : Nat) (T : Nat → BiT) (m' : Nat), e = .returned (.slice A n c) ∧ RdS s b w' m' ∧ OnlyB b w w' ∧ Lf FB 58 10 w.heap.size w'.heap.size w' A n T ∧ n ≤ 300000 ∧ (m' = 0 ∨ (m' < m ∧ (bindsL (fun i => bindT (T i)) n).length + 60 * m' ≤ 60 * m))
def LiOut (s : ByteArray) (b m : Nat) (w : World) (e : Ending) (w' : World) : Prop :=
 ∃ (A : Option Addr) (n c : Nat) (T : Nat → LB) (m' : Nat), e = .returned (.slice A n c) ∧ RdS s b w' m' ∧ OnlyB b w w' ∧ Lf FI 75 65 w.heap.size w'.heap.size w' A n T ∧ n + 2 * m' ≤ 2 * m + 2 ∧ (m' = 0 ∨ (m' < m ∧ (catL T n).length + KK * m' ≤ KK * m))
def LsOut (s : ByteArray) (b m : Nat) (w : World) (e : Ending) (w' : World) : Prop :=
 ∃ (A : Option Addr) (n c : Nat) (T : Nat → LB) (m' : Nat), e = .returned (.slice A n c) ∧ RdS s b w' m' ∧ OnlyB b w w' ∧ Lf FI 75 65 w.heap.size w'.heap.size w' A n T ∧ n + 4 * m' ≤ 4 * m ∧ m' ≤ m ∧ (m' = 0 ∨ (catL T n).length + KK * m' ≤ KK * m)
def PtOut (s : ByteArray) (b m : Nat) (w : World) (e : Ending) (w' : World) : Prop :=
 ∃ (nm : LB) (A : Option Addr) (n c : Nat) (T : Nat → LB) (m' : Nat), e = .returned (.tuple #[.string (bstr nm), .slice A n c]) ∧ nm.length ≤ 40 ∧ RdS s b w' m' ∧ OnlyB b w w' ∧ Lf FI 75 65 w.heap.size w'.heap.size w' A n T ∧ n ≤ 500000 ∧ (m' = 0 ∨ (m' < m ∧ (catL T n).length + KK * m' + KK ≤ KK * m))
def UseOut (s : ByteArray) (b m : Nat) (w : World) (e : Ending) (w' : World) : Prop :=
 ∃ (cs : List Value) (t : LB) (m' : Nat), e = .returned (.agg cs.toArray) ∧ RdS s b w' m' ∧ OnlyB b w w' ∧ Tr FI w.heap.size w'.heap.size w' cs t ∧ (m' = 0 ∨ (m' < m ∧ t.length + 60 * m' ≤ 60 * m))
def PoOut (s : ByteArray) (b m : Nat) (w : World) (e : Ending) (w' : World) : Prop :=
 ∃ (cs : List Value) (t : PoT) (m' : Nat), e = .returned (.agg cs.toArray) ∧ RdS s b w' m' ∧ OnlyB b w w' ∧ Tr FPo w.heap.size w'.heap.size w' cs t ∧ (m' = 0 ∨ (m' < m ∧ (spanT t.2.2.1).length + t.2.2.2.length + 60 * m' + 15 ≤ 60 * m))
def MoOut (s : ByteArray) (b m : Nat) (w : World) (e : Ending) (w' : World) : Prop :=
 ∃ (cs : List Value) (t : LB) (m' : Nat), e = .returned (.agg cs.toArray) ∧ RdS s b w' m' ∧ OnlyB b w w' ∧ Tr FM w.heap.size w'.heap.size w' cs t ∧ (m' = 0 ∨ (m' < m ∧ t.length + KK * m' ≤ KK * m))
end Go.Proofs.YtbdcpealkllfnaaDoor
