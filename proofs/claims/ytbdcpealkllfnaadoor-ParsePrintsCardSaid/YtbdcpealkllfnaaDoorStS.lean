/- What the reference's Reader returns as a statement: contracts said, trees made. Condition: the text is shorter than 1000000 bytes. -/
import Derived.Test.YtbdcpealkllfnaaDoorExC
namespace Go.Proofs.YtbdcpealkllfnaaDoor
open Go.RowKit Go.Deep

theorem stSt : StT Tryd.prog 73 7 := ⟨_, Tryd.underlying73, by kernel_rfl⟩
theorem stAr : StT Tryd.prog 117 9 := ⟨_, Tryd.underlying117, by kernel_rfl⟩
theorem elS : Elem Tryd.prog 70 73 7 112 := elem_mk Tryd.underlying70 (z := .agg #[.int .i64 0, .int .i64 0, .bool false, .string ⟨#[]⟩, .slice none 0 0, .slice none 0 0, .slice none 0 0]) (by kernel_rfl) rfl (by omega) (by omega)
theorem elA : Elem Tryd.prog 71 117 9 144 := elem_mk Tryd.underlying71 (z := .agg #[.bool false, .slice none 0 0, .int .i64 0, .int .i64 0, .bool false, .string ⟨#[]⟩, .slice none 0 0, .slice none 0 0, .slice none 0 0]) (by kernel_rfl) rfl (by omega) (by omega)
theorem builtS1 {c : List Value} (hc : c.length = 7) : Tryd.prog.builtSlice 73 1 [(0, .agg c.toArray)] = some c.toArray := by
 obtain ⟨x0, x1, x2, x3, x4, x5, x6, rfl⟩ := len7 hc
 kernel_rfl
theorem len9 {l : List Value} (h : l.length = 9) : ∃ x0 x1 x2 x3 x4 x5 x6 x7 x8, l = [x0, x1, x2, x3, x4, x5, x6, x7, x8] := by
 match l, h with
 | [a, b, c, d, e, f, g, i, j], _ => exact ⟨a, b, c, d, e, f, g, i, j, rfl⟩
theorem builtA1 {c : List Value} (hc : c.length = 9) : Tryd.prog.builtSlice 117 1 [(0, .agg c.toArray)] = some c.toArray := by
 obtain ⟨x0, x1, x2, x3, x4, x5, x6, x7, x8, rfl⟩ := len9 hc
 kernel_rfl
section
variable {p : Nat → Prop} {w : World} {cs : List Value} {t : LB}
theorem lenS (h : TrP FS p w cs t) : cs.length = 7 := by
 obtain ⟨d, h⟩ := h
 exact PrS.len h
theorem oneS (h : TrP FS p w cs t) : ∀ u ∈ cs, u.oneCell' = true := by
 obtain ⟨d, h⟩ := h
 cases d with
 | zero => exact h.elim
 | succ d =>
  obtain ⟨kd, at_, later, nm, AE, AS, AR, ne, cE, ns, cS, na, cR, TE, TS, TR, dE, e, _⟩ := h
  subst e
  intro u hu
  exact List.all_eq_true.1 (show (cellsS kd at_ later nm AE ne cE AS ns cS AR na cR).all (·.oneCell') = true from rfl) u hu
theorem sizeS (h : TrP FS p w cs t) : cs.toArray.size = 7 := by simp [lenS h]
theorem onesS (h : TrP FS p w cs t) : ∀ u ∈ cs.toArray.toList, u.oneCell' = true := by simpa using oneS h
theorem lenA (h : TrP FA p w cs t) : cs.length = 9 := by
 obtain ⟨d, df, AL, nL, cL, TL, CB, TB, e, h7, _⟩ := h
 rw [e, List.length_append, h7]; rfl
theorem oneA (h : TrP FA p w cs t) : ∀ u ∈ cs, u.oneCell' = true := by
 obtain ⟨d, df, AL, nL, cL, TL, CB, TB, e, h7, _, _, hb, _⟩ := h
 subst e
 intro u hu
 rcases List.mem_append.1 hu with h | h
 ·
  exact List.all_eq_true.1 (show ([.bool df, .slice AL nL cL] : List Value).all (·.oneCell') = true from rfl) u h
 ·
  exact oneS ⟨d, hb⟩ u h
theorem sizeA (h : TrP FA p w cs t) : cs.toArray.size = 9 := by simp [lenA h]
theorem onesA (h : TrP FA p w cs t) : ∀ u ∈ cs.toArray.toList, u.oneCell' = true := by simpa using oneA h
theorem trs_mk {kd at_ : Int} {later : Bool} {nm : LB} {AE AS AR : Option Addr} {ne cE ns cS na cR : Nat} {TE : Nat → LB × Int} {TS TR : Nat → LB} (hE : LfP FE 56 7 p w AE ne TE) (hS : LfP FS 73 7 p w AS ns TS) (hA : LfP FA 117 9 p w AR na TR) (hne : ne ≤ 3000000) (hns : ns ≤ 3000000) (hna : na ≤ 3000000) (ok : OkS kd nm ne ns) :
  TrP FS p w (cellsS kd at_ later nm AE ne cE AS ns cS AR na cR) (txS kd later nm (fun i => (TE i).1) ns TS na TR) := by
 obtain ⟨d1, h1⟩ := Rw.of hE hne
 obtain ⟨d2, h2⟩ := Rw.of hS hns
 obtain ⟨d3, h3⟩ := Rw.of hA hna
 refine ⟨d2 + d3 + 1, kd, at_, later, nm, AE, AS, AR, ne, cE, ns, cS, na, cR, TE, TS, TR, d1 + d3, rfl, ok, h1.imp (fun _ _ h => PrE.deep (by omega) h), h2.imp (fun _ _ h => PrS.deep (by omega) h), h3.imp (fun _ _ h => ?_), rfl⟩
 exact (ArmP.imp h (fun _ _ h => PrS.deep (by omega) h)).deep (by omega)
theorem tra_mk {df : Bool} {AL : Option Addr} {nL cL : Nat} {TL : Nat → LB × Int} {CB : List Value} {TB : LB} (hL : LfP FE 56 7 p w AL nL TL) (hn : nL ≤ 3000000) (hd : df = true → nL = 0) (hB : TrP FS p w CB TB) :
  TrP FA p w ([.bool df, .slice AL nL cL] ++ CB) (armL df (comL (fun i => (TL i).1) nL) TB) := by
 obtain ⟨d1, h1⟩ := Rw.of hL hn
 have h7 := lenS hB
 obtain ⟨d2, h2⟩ := hB
 exact ⟨d1 + d2, df, AL, nL, cL, TL, CB, TB, rfl, h7, hd, h1.imp (fun _ _ h => PrE.deep (by omega) h), PrS.deep (by omega) h2, rfl⟩
end
def StOut (s : ByteArray) (b m : Nat) (w : World) (e : Ending) (w' : World) : Prop :=
 ∃ (cs : List Value) (t : LB) (m' : Nat), e = .returned (.agg cs.toArray) ∧ RdS s b w' m' ∧ OnlyB b w w' ∧ Tr FS w.heap.size w'.heap.size w' cs t ∧ (m' = 0 ∨ (m' < m ∧ t.length + 60 * m' + 10 ≤ 60 * m))
theorem StOut.mk {s : ByteArray} {b m m' : Nat} {w w' : World} {cs : List Value} {t : LB} {v : Value} (h1 : RdS s b w' m') (h2 : OnlyB b w w') (h3 : Tr FS w.heap.size w'.heap.size w' cs t) (h4 : m' = 0 ∨ (m' < m ∧ t.length + 60 * m' + 10 ≤ 60 * m)) (hv : v = .agg cs.toArray) : StOut s b m w (.returned v) w' :=
 ⟨cs, t, m', by rw [hv], h1, h2, h3, h4⟩
def LoopOut (s : ByteArray) (b m : Nat) (w : World) (e : Ending) (w' : World) : Prop :=
 ∃ (nm : LB) (D : Nat) (t0 t1 t2 : LB) (k0 k1 k2 : Int) (m' : Nat), e = .returned (.tuple #[.string (bstr nm), .slice (some ⟨D, 0, none⟩) 3 3]) ∧ nm.length ≤ 40 ∧ RdS s b w' m' ∧ OnlyB b w w' ∧ Lf FE 56 7 w.heap.size w'.heap.size w' (some ⟨D, 0, none⟩) 3 (fn3 (t0, k0) (t1, k1) (t2, k2)) ∧ (m' = 0 ∨ (m' < m ∧ t0.length + t1.length + t2.length + 60 * m' + 300 ≤ 60 * m))
structure TgI (s : ByteArray) (b m : Nat) (w : World) (Z b2 b5 b6 at_ : Nat) (g : Nat) (wr : World) (A : Option Addr) (n c : Nat) (T : Nat → LB × Int) (c0 : List Value) : Prop where
 rd : RdS s b wr g
 ol : OnlyB b w wr
 k2 : wr.heap[b2]? = some (.cells #[.int .i64 0, .int .i64 0, .int .i64 0, .int .i64 0, .int .u64 0, .string ⟨#[]⟩, .slice none 0 0] 56)
 k5 : wr.heap[b5]? = some (.cells #[.int .i64 8, .int .i64 (at_ : Int), .int .i64 0, .int .i64 0, .int .u64 0, .string ⟨#[]⟩, .slice A n c] 56)
 k6 : wr.heap[b6]? = some (.cells c0.toArray 56)
 l0 : c0.length = 7
 ls : Ls FE 56 7 Z b6 wr A n c T
 nn : n + g ≤ m + 1
 tx : g = 0 ∨ (g < m ∧ (comL (fun i => (T i).1) n).length + 60 * g + 60 ≤ 60 * m)
 sz : Z ≤ wr.heap.size ∧ b6 < wr.heap.size
end Go.Proofs.YtbdcpealkllfnaaDoor
