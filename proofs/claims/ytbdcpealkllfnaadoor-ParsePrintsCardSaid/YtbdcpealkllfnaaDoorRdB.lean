/- The reference's Reader: accept, must, name, walked. Condition: the text is shorter than 1000000 bytes. -/
import Derived.Test.YtbdcpealkllfnaaDoorRdA
import Derived.Test.YtbdcpealkllfnaaDoorPpM
namespace Go.Proofs.YtbdcpealkllfnaaDoor
open Go.RowKit Go.Deep

def AccOut (s : ByteArray) (b m : Nat) (w : World) (e : Ending) (w' : World) : Prop := ∃ (ok : Bool) (m' : Nat), e = .returned (.bool ok) ∧ RdS s b w' m' ∧ OnlyB b w w' ∧ (ok = true → 0 < m' ∧ m' < m) ∧ (ok = false → m' = m)
set_option maxRecDepth 100000 in
set_option maxHeartbeats 4000000 in
theorem accept_any {s : ByteArray} {b m : Nat} {w : World} (h : RdS s b w m) (t : ByteArray) : Calls Tryd.prog 17 #[.pointer (some ⟨b, 0, none⟩), .string t] w (AccOut s b m w) := by
 have H := Lib.hid h
 clear h
 go_enter Tryd.func17, Tryd.ntmps17
 go_wp2_with fail
 refine (is_any H.out t).mono ?_
 rintro e w1 ⟨ok, rfl, rfl, hok⟩
 cases ok with
 | false =>
  clear hok
  go_wp2_with fail
  go_ret
  exact ⟨false, m, rfl, H.out, Only.refl _ _, (fun h => by cases h), fun _ => rfl⟩
 | true =>
  obtain ⟨⟨a1, a2, a3, a4, a5, a6, a7, hk⟩, hm⟩ := hok rfl
  have HK := Lib.hid hk
  have HM := Lib.hid hm
  clear hk hm hok
  go_wp2_with fail
  refine (stepK_any HK.out).mono ?_
  rintro e w2 ⟨rfl, m', h1, h2, h3, h4, h5⟩
  have HN := Lib.hid (show AccOut s b m w1 (.returned (.bool true)) w2 from ⟨true, m', rfl, h1, h2, fun _ => ⟨h4 HM.out, h5 (by omega) HM.out⟩, fun h => by cases h⟩)
  clear h1 h2 h3 h4 h5
  go_wp2_with fail
  go_ret
  exact HN.out
def MustOut (s : ByteArray) (b m : Nat) (w : World) (e : Ending) (w' : World) : Prop := e = .returned (.tuple #[]) ∧ ∃ m' : Nat, RdS s b w' m' ∧ OnlyB b w w' ∧ (m' = 0 ∨ m' < m)
set_option maxRecDepth 100000 in
set_option maxHeartbeats 4000000 in
theorem must_any {s : ByteArray} {b m : Nat} {w : World} (h : RdS s b w m) (t : ByteArray) : Calls Tryd.prog 15 #[.pointer (some ⟨b, 0, none⟩), .string t] w (MustOut s b m w) := by
 have H := Lib.hid h
 clear h
 go_enter Tryd.func15, Tryd.ntmps15
 go_wp2_with fail
 refine (accept_any H.out t).mono ?_
 rintro e w1 ⟨ok, m', rfl, h1, h2, h3, h4⟩
 cases ok with
 | true =>
  have HN := Lib.hid (show MustOut s b m w (.returned (.tuple #[])) w1 from ⟨rfl, m', h1, h2, .inr (h3 rfl).2⟩)
  clear h1 h2 h3 h4
  go_wp2_with fail
  go_end0
  exact HN.out
 | false =>
  have H1 := Lib.hid h1
  have H2 := Lib.hid h2
  clear h1 h2 h3 h4
  go_wp2_with fail
  refine (fail_any H1.out).mono ?_
  rintro e w2 ⟨rfl, h5, h6⟩
  have HN := Lib.hid (show MustOut s b m w (.returned (.tuple #[])) w2 from ⟨rfl, 0, h5, H2.out.trans (h6.mono fun k _ h => h), .inl rfl⟩)
  clear h5 h6
  go_wp2_with fail
  go_end0
  exact HN.out
def NameOut (s : ByteArray) (b m : Nat) (w : World) (e : Ending) (w' : World) : Prop := ∃ (nm : LB) (m' : Nat), e = .returned (.string (bstr nm)) ∧ nm.length ≤ 40 ∧ RdS s b w' m' ∧ OnlyB b w w' ∧ (m' = 0 ∨ m' < m)
set_option maxRecDepth 100000 in
set_option maxHeartbeats 8000000 in
theorem name_any {s : ByteArray} {b m : Nat} {w : World} (h : RdS s b w m) : Calls Tryd.prog 16 #[.pointer (some ⟨b, 0, none⟩)] w (NameOut s b m w) := by
 obtain ⟨kd, at_, wd, T, num, q, code, fat, h⟩ := h
 have H := Lib.hid h
 clear h
 obtain ⟨y1, z1⟩ := H.out.c1
 obtain ⟨y2, z2⟩ := H.out.c2
 obtain ⟨y3, z3⟩ := H.out.c3
 obtain ⟨y4, z4⟩ := H.out.c4
 obtain ⟨y5, z5⟩ := H.out.c5
 have hk4 := heap_alloc_new w (.cells #[.int .i64 (kd : Int), .int .i64 (at_ : Int), .int .i64 (wd : Int), .string T, .int .u64 (num : Int)] 33)
 have ho := (Only.refl (fun k => k = b) w).alloc (.cells #[.int .i64 (kd : Int), .int .i64 (at_ : Int), .int .i64 (wd : Int), .string T, .int .u64 (num : Int)] 33)
 have hr : RdF s b (w.alloc (.cells #[.int .i64 (kd : Int), .int .i64 (at_ : Int), .int .i64 (wd : Int), .string T, .int .u64 (num : Int)] 33)) m kd at_ wd T num q code fat := H.out.only ((Only.refl (fun _ => False) w).alloc _) (fun h => h)
 have hz : b < w.heap.size := H.out.lt
 have HHR := Lib.hid hr
 have HO := Lib.hid ho
 have HK4 := Lib.hid hk4
 clear hr ho hk4
 go_enter Tryd.func16, Tryd.ntmps16
 go_upto_region 2 with (fail)
 clear y1 y2 y3 y4 y5 z1 z2 z3 z4 z5
 generalize w.alloc (.cells #[.int .i64 (kd : Int), .int .i64 (at_ : Int), .int .i64 (wd : Int), .string T, .int .u64 (num : Int)] 33) = wa at *
 obtain ⟨b4, hb4⟩ : ∃ x, x = w.heap.size := ⟨_, rfl⟩
 rw [← hb4] at HK4 ⊢
 have HB4 := Lib.hid hb4
 replace hz : b < b4 := by omega
 clear hb4
 obtain ⟨y7, z7⟩ := HHR.out.c7
 by_cases hc : code = 0
 ·
  subst hc
  by_cases hk : kd = 1
  ·
   subst hk
   obtain ⟨x0, _⟩ : wa.cell? ⟨b4, 0, none⟩ = some (.int .i64 1) ∧ wa.frozen? ⟨b4, 0, none⟩ = false := cell_at HK4.out rfl
   go_wp2_with fail
   clear x0 y7 z7
   refine (stepK_any HHR.out).mono ?_
   rintro e w2 ⟨rfl, m', h1, h2, h3, h4, h5⟩
   obtain ⟨x3, _⟩ : w2.cell? ⟨b4, 3, none⟩ = some (.string T) ∧ w2.frozen? ⟨b4, 3, none⟩ = false := cell_at (h2.heap HK4.out (by omega)) rfl
   have HN := Lib.hid (show NameOut s b m w (.returned (.string T)) w2 from ⟨T.data.toList, m', by rw [bstr_of], by have := HHR.out.t.m rfl; rw [Lib.size_eq] at this; exact this, h1, HO.out.trans (h2.mono fun k _ h => h), .inr (h5 (by omega) (by rw [HHR.out.hm]; exact rdM_pos))⟩)
   clear h1 h2 h3 h4 h5
   go_wp2_with fail
   go_ret
   exact HN.out
  ·
   have hki : ((kd : Int) == 1) = false := by rw [beq_eq_false_iff_ne]; omega
   have hki2 : ((kd : Int) != 1) = true := by rw [bne_iff_ne]; omega
   obtain ⟨x0, _⟩ : wa.cell? ⟨b4, 0, none⟩ = some (.int .i64 (kd : Int)) ∧ wa.frozen? ⟨b4, 0, none⟩ = false := cell_at HK4.out rfl
   clear hk
   go_wp2_with fail
   clear x0 y7 z7
   refine (fail_any ⟨_, _, _, _, _, _, _, _, HHR.out⟩).mono ?_
   rintro e w2 ⟨rfl, h5, h6⟩
   have HN := Lib.hid (show NameOut s b m w (.returned (.string ⟨#[]⟩)) w2 from ⟨[], 0, rfl, by simp, h5, HO.out.trans (h6.mono fun k _ h => h), .inl rfl⟩)
   clear h5 h6
   go_wp2_with fail
   go_ret
   exact HN.out
 ·
  have hci : ((code : Int) == 0) = false := by rw [beq_eq_false_iff_ne]; omega
  have hci2 : ((code : Int) != 0) = true := by rw [bne_iff_ne]; omega
  clear hc
  go_wp2_with fail
  clear y7 z7
  refine (fail_any ⟨_, _, _, _, _, _, _, _, HHR.out⟩).mono ?_
  rintro e w2 ⟨rfl, h5, h6⟩
  have HN := Lib.hid (show NameOut s b m w (.returned (.string ⟨#[]⟩)) w2 from ⟨[], 0, rfl, by simp, h5, HO.out.trans (h6.mono fun k _ h => h), .inl rfl⟩)
  clear h5 h6
  go_wp2_with fail
  go_ret
  exact HN.out
end Go.Proofs.YtbdcpealkllfnaaDoor
