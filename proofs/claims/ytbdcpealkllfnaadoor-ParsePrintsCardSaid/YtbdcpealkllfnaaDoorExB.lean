/- The reference's Reader: ops, primary, unary, walked. Condition: what is known of expr, unary, braces for less text. -/
import Derived.Test.YtbdcpealkllfnaaDoorExA
namespace Go.Proofs.YtbdcpealkllfnaaDoor
open Go.RowKit Go.Deep

def StrB (w : World) (b n : Nat) : Prop := ∃ cur, w.heap[b]? = some (.cells cur 9) ∧ ∀ k, k < n → ∃ s, cur[k]? = some (.string s)
def IntB (w : World) (b n : Nat) : Prop := ∃ cur, w.heap[b]? = some (.cells cur 3) ∧ ∀ k, k < n → ∃ o : Int, 0 ≤ o ∧ o ≤ 22 ∧ cur[k]? = some (.int .i64 o)
theorem StrB.only {S : Nat → Prop} {w w1 : World} {b n : Nat} (h : StrB w b n) (k : Only S w w1) (hs : ¬ S b) : StrB w1 b n := by
 obtain ⟨cur, h1, h2⟩ := h
 exact ⟨cur, k.heap h1 hs, h2⟩
theorem IntB.only {S : Nat → Prop} {w w1 : World} {b n : Nat} (h : IntB w b n) (k : Only S w w1) (hs : ¬ S b) : IntB w1 b n := by
 obtain ⟨cur, h1, h2⟩ := h
 exact ⟨cur, k.heap h1 hs, h2⟩
theorem StrB.at_ {w : World} {b n k : Nat} (h : StrB w b n) (hk : k < n) : ∃ s, w.cell? ⟨b, k, none⟩ = some (.string s) := by
 obtain ⟨cur, h1, h2⟩ := h
 obtain ⟨s, hs⟩ := h2 k hk
 exact ⟨s, by rw [cell_of_row w b k _ _ _ h1]; exact hs⟩
theorem IntB.at_ {w : World} {b n k : Nat} (h : IntB w b n) (hk : k < n) : ∃ o : Int, 0 ≤ o ∧ o ≤ 22 ∧ w.cell? ⟨b, k, none⟩ = some (.int .i64 o) := by
 obtain ⟨cur, h1, h2⟩ := h
 obtain ⟨o, ho1, ho2, hs⟩ := h2 k hk
 exact ⟨o, ho1, ho2, by rw [cell_of_row w b k _ _ _ h1]; exact hs⟩
def OpsOut (w : World) (e : Ending) (w' : World) : Prop := ∃ (n b1 b2 : Nat), e = .returned (.tuple #[.slice (some ⟨b1, 0, none⟩) n n, .slice (some ⟨b2, 0, none⟩) n n]) ∧ n ≤ 6 ∧ StrB w' b1 n ∧ IntB w' b2 n ∧ Only (fun _ => False) w w' ∧ w.heap.size ≤ b1 ∧ w.heap.size ≤ b2 ∧ b1 < w'.heap.size ∧ b2 < w'.heap.size
theorem strB_new (w : World) (S : List ByteArray) : StrB (w.alloc (.cells (S.map Value.string).toArray 9)) w.heap.size S.length :=
 ⟨_, heap_alloc_new w _, fun k hk => ⟨S[k], by simp [hk]⟩⟩
theorem intB_new (w : World) (I : List Int) (hI : ∀ o ∈ I, 0 ≤ o ∧ o ≤ 22) : IntB (w.alloc (.cells (I.map (Value.int .i64)).toArray 3)) w.heap.size I.length :=
 ⟨_, heap_alloc_new w _, fun k hk => ⟨I[k], (hI _ (List.getElem_mem hk)).1, (hI _ (List.getElem_mem hk)).2, by simp [hk]⟩⟩
theorem ops_fin (w : World) (S : List ByteArray) (I : List Int) (hn : I.length = S.length) (h6 : S.length ≤ 6) (hI : ∀ o ∈ I, 0 ≤ o ∧ o ≤ 22) :
  OpsOut w (.returned (.tuple #[.slice (some ⟨w.heap.size, 0, none⟩) S.length S.length, .slice (some ⟨w.heap.size + 1, 0, none⟩) S.length S.length])) ((w.alloc (.cells (S.map Value.string).toArray 9)).alloc (.cells (I.map (Value.int .i64)).toArray 3)) := by
 have h1 := intB_new (w.alloc (.cells (S.map Value.string).toArray 9)) I hI
 rw [show (w.alloc (.cells (S.map Value.string).toArray 9)).heap.size = w.heap.size + 1 by simp, hn] at h1
 exact ⟨S.length, w.heap.size, w.heap.size + 1, rfl, h6, (strB_new w S).only ((Only.refl (fun _ => False) _).alloc _) (fun h => h), h1, ((Only.refl _ w).alloc _).alloc _, Nat.le_refl _, by omega, by simp; omega, by simp⟩
set_option maxRecDepth 100000 in
set_option maxHeartbeats 8000000 in
theorem ops_any (l : Nat) (hl : l ≤ 9) (w : World) : Calls Tryd.prog 55 #[.int .i64 (l : Int)] w (OpsOut w) := by
 obtain rfl | rfl | rfl | rfl | rfl | rfl | rfl | rfl | rfl | rfl : l = 0 ∨ l = 1 ∨ l = 2 ∨ l = 3 ∨ l = 4 ∨ l = 5 ∨ l = 6 ∨ l = 7 ∨ l = 8 ∨ l = 9 := by omega
 ·
  have HN := Lib.hid (ops_fin w [⟨#[124, 124]⟩] [22] rfl (by decide) (by decide))
  go_enter Tryd.func55, Tryd.ntmps55
  go_wp2_with fail
  go_ret2
  exact HN.out
 ·
  have HN := Lib.hid (ops_fin w [⟨#[38, 38]⟩] [21] rfl (by decide) (by decide))
  go_enter Tryd.func55, Tryd.ntmps55
  go_wp2_with fail
  go_ret2
  exact HN.out
 ·
  have HN := Lib.hid (ops_fin w [⟨#[124]⟩] [20] rfl (by decide) (by decide))
  go_enter Tryd.func55, Tryd.ntmps55
  go_wp2_with fail
  go_ret2
  exact HN.out
 ·
  have HN := Lib.hid (ops_fin w [⟨#[94]⟩] [19] rfl (by decide) (by decide))
  go_enter Tryd.func55, Tryd.ntmps55
  go_wp2_with fail
  go_ret2
  exact HN.out
 ·
  have HN := Lib.hid (ops_fin w [⟨#[38]⟩] [18] rfl (by decide) (by decide))
  go_enter Tryd.func55, Tryd.ntmps55
  go_wp2_with fail
  go_ret2
  exact HN.out
 ·
  have HN := Lib.hid (ops_fin w [⟨#[61, 61]⟩, ⟨#[33, 61]⟩] [16, 17] rfl (by decide) (by decide))
  go_enter Tryd.func55, Tryd.ntmps55
  go_wp2_with fail
  go_ret2
  exact HN.out
 ·
  have HN := Lib.hid (ops_fin w [⟨#[60]⟩, ⟨#[60, 61]⟩, ⟨#[62]⟩, ⟨#[62, 61]⟩] [12, 13, 14, 15] rfl (by decide) (by decide))
  go_enter Tryd.func55, Tryd.ntmps55
  go_wp2_with fail
  go_ret2
  exact HN.out
 ·
  have HN := Lib.hid (ops_fin w [⟨#[60, 60]⟩, ⟨#[62, 62]⟩] [10, 11] rfl (by decide) (by decide))
  go_enter Tryd.func55, Tryd.ntmps55
  go_wp2_with fail
  go_ret2
  exact HN.out
 ·
  have HN := Lib.hid (ops_fin w [⟨#[43]⟩, ⟨#[45]⟩] [8, 9] rfl (by decide) (by decide))
  go_enter Tryd.func55, Tryd.ntmps55
  go_wp2_with fail
  go_ret2
  exact HN.out
 ·
  have HN := Lib.hid (ops_fin w [⟨#[42]⟩] [7] rfl (by decide) (by decide))
  go_enter Tryd.func55, Tryd.ntmps55
  go_wp2_with fail
  go_ret2
  exact HN.out
theorem stTok : StT Tryd.prog 33 5 := ⟨_, Tryd.underlying33, by kernel_rfl⟩
theorem RdF.s {s : ByteArray} {b : Nat} {w : World} {m kd at_ wd : Nat} {T : ByteArray} {num q code fat : Nat} (h : RdF s b w m kd at_ wd T num q code fat) : RdS s b w m := ⟨kd, at_, wd, T, num, q, code, fat, h⟩
set_option maxRecDepth 100000 in
set_option maxHeartbeats 8000000 in
theorem primary_any {s : ByteArray} {b m : Nat} {w : World} (HI : Hid (ExI s b m)) (HB : Hid (∀ {w : World}, RdS s b w m → 0 < m → Calls Tryd.prog 79 #[.pointer (some ⟨b, 0, none⟩), .bool false] w (ExOut s b m w))) (HR : Hid (RdS s b w m)) : Calls Tryd.prog 69 #[.pointer (some ⟨b, 0, none⟩)] w (ExOut s b m w) := by
 obtain ⟨kd, at_, wd, T, num, q, code, fat, hrf⟩ := HR.out
 have HF := Lib.hid hrf
 clear hrf
 have hlt := HR.out.lt
 have HW : Hid (OnlyB b w w) := Lib.hid (Only.refl _ w)
 go_enter Tryd.func69, Tryd.ntmps69
 clear HR
 go_wp2_with (refine wpl_alloc rfl 56 rfl (some 2) rfl Tryd.zeroValue56 ?_)
 refine ⟨fun w1 b2 HK2 ho1 ha2 hb2 => ?_⟩
 have hs1 := ho1.out.size
 replace HW : Hid (OnlyB b w w1) := Lib.hid (HW.out.then_ ho1.out (fun _ _ h => h.elim))
 replace HF := Lib.hid (HF.out.only ho1.out (fun h => h))
 clear ho1
 obtain ⟨y1, z1⟩ := HF.out.c1
 obtain ⟨y2, z2⟩ := HF.out.c2
 obtain ⟨y3, z3⟩ := HF.out.c3
 obtain ⟨y4, z4⟩ := HF.out.c4
 obtain ⟨y5, z5⟩ := HF.out.c5
 go_wp2_with (refine wpl_box rfl rfl 33 rfl 3 rfl (.tmp 10) rfl rfl Tryd.zeroValue33 (cells := #[.int .i64 (kd : Int), .int .i64 (at_ : Int), .int .i64 (wd : Int), .string T, .int .u64 (num : Int)]) (fun _ => rfl) (fun _ => rfl) stTok rfl rfl (ones rfl) ?_)
 refine ⟨fun w2 b3 HK3 ho2 ha3 hb3 => ?_⟩
 have hs2 := ho2.out.size
 replace HW : Hid (OnlyB b w w2) := Lib.hid (HW.out.then_ ho2.out (fun _ _ h => h.elim))
 replace HF := Lib.hid (HF.out.only ho2.out (fun h => h))
 replace HK2 := Lib.hid (ho2.out.heap HK2.out (fun h => h))
 clear ho2
 clear y1 y2 y3 y4 y5 z1 z2 z3 z4 z5
 have HR := Lib.hid HF.out.s
 go_wp2_with fail
 refine (is_any HR.out _).mono ?_
 rintro e w3 ⟨brace, rfl, hwe, hik⟩
 obtain rfl := hwe.symm
 obtain ⟨y7, z7⟩ := HF.out.c7
 obtain ⟨x0, v0⟩ : w2.cell? ⟨b3, 0, none⟩ = some (.int .i64 (kd : Int)) ∧ w2.frozen? ⟨b3, 0, none⟩ = false := cell_at HK3.out rfl
 by_cases hc : code = 0
 ·
  subst hc
  have hm0 : 0 < m := by rw [HF.out.hm]; exact rdM_pos
  by_cases h1 : kd = 1
  ·
   subst h1
   clear hik
   go_wp2_with fail
   clear x0 v0 y7 z7 HF
   go_wp2_with fail
   refine (place_any HI HR).mono ?_
   rintro e w4 ⟨c1, t1, kd4, m4, rfl, hr, ho, ht, hm⟩
   have hle4 : m4 ≤ m := by omega
   have HM4 := Lib.hid hm
   have HTc1 := Lib.hid ht
   clear hm ht
   replace HR := Lib.hid hr
   have HOx := Lib.hid ho
   have hs4 := HOx.out.size
   clear hr ho
   replace HW : Hid (OnlyB b w w4) := Lib.hid (HW.out.then_ HOx.out (fun _ _ h => h))
   replace HK2 := Lib.hid (HOx.out.heap HK2.out (by omega))
   replace HK3 := Lib.hid (HOx.out.heap HK3.out (by omega))
   clear HOx
   go_wp2_with (refine wpl_store rfl 56 (.tmp 2) (.tmp 25) rfl b2 rfl (cells := c1.toArray) rfl HK2.out stE HTc1.out.size rfl HTc1.out.ones ?_)
   clear HK2
   refine ⟨fun w5 HK2 ho5 => ?_⟩
   have hs5 := ho5.out.size
   replace HW : Hid (OnlyB b w w5) := Lib.hid (HW.out.then_ ho5.out (fun i hi (h : i = b2) => by omega))
   replace HK3 := Lib.hid (ho5.out.heap HK3.out (by omega))
   replace HR := Lib.hid (HR.out.only ho5.out (by omega))
   replace HTc1 := Lib.hid (HTc1.out.only ho5.out (fun i (h : i = b2) => by omega))
   clear ho5
   go_wp2_with fail
   exact bodyPost_ret (ret_box rfl _ rfl HK2.out stE HTc1.out.size) rfl (ExOut.mk HR.out HW.out (HTc1.out.wide (by omega) (by omega)) (HM4.out) rfl)
  ·
   have q1 : ((kd : Int) == 1) = false := by rw [beq_eq_false_iff_ne]; omega
   have H1 := Lib.hid h1
   clear h1
   by_cases h2 : kd = 2
   ·
    subst h2
    clear hik
    go_wp2_with fail
    clear x0 v0 y7 z7
    refine (stepK_any HF.out).mono ?_
    rintro e w4 ⟨rfl, mk, hr, ho, hk1, hk2, hk3⟩
    have hlk := hk3 (by omega) hm0
    clear hk1 hk2 hk3
    have HTK := Lib.hid HF.out.t
    clear HF
    replace HR := Lib.hid hr
    have HOx := Lib.hid ho
    have hs4 := HOx.out.size
    clear hr ho
    replace HW : Hid (OnlyB b w w4) := Lib.hid (HW.out.then_ HOx.out (fun _ _ h => h))
    replace HK2 := Lib.hid (HOx.out.heap HK2.out (by omega))
    replace HK3 := Lib.hid (HOx.out.heap HK3.out (by omega))
    clear HOx
    obtain ⟨x1, v1⟩ : w4.cell? ⟨b3, 1, none⟩ = some (.int .i64 (at_ : Int)) ∧ w4.frozen? ⟨b3, 1, none⟩ = false := cell_at HK3.out rfl
    obtain ⟨x2, v2⟩ : w4.cell? ⟨b3, 2, none⟩ = some (.int .i64 (wd : Int)) ∧ w4.frozen? ⟨b3, 2, none⟩ = false := cell_at HK3.out rfl
    obtain ⟨x4, v4⟩ : w4.cell? ⟨b3, 4, none⟩ = some (.int .u64 (num : Int)) ∧ w4.frozen? ⟨b3, 4, none⟩ = false := cell_at HK3.out rfl
    go_wp2_with (refine wpl_store rfl 56 (.tmp 2) (.tmp 45) rfl b2 rfl (cells := #[.int .i64 1, .int .i64 (at_ : Int), .int .i64 0, .int .i64 (wd : Int), .int .u64 (num : Int), .string ⟨#[]⟩, .slice none 0 0]) rfl HK2.out stE rfl rfl (ones rfl) ?_)
    clear HK2
    refine ⟨fun w5 HK2 ho5 => ?_⟩
    have hs5 := ho5.out.size
    replace HW : Hid (OnlyB b w w5) := Lib.hid (HW.out.then_ ho5.out (fun i hi (h : i = b2) => by omega))
    replace HK3 := Lib.hid (ho5.out.heap HK3.out (by omega))
    replace HR := Lib.hid (HR.out.only ho5.out (by omega))
    clear ho5
    clear x1 x2 x4 v1 v2 v4
    obtain ⟨tn, htn, htr⟩ := tre_num (p := fun x => w.heap.size ≤ x ∧ x < w5.heap.size) (w := w5) (at_ := (at_ : Int)) HTK.out.w HTK.out.n
    have HTR := Lib.hid htr
    clear htr
    go_wp2_with fail
    exact bodyPost_ret (ret_box rfl _ rfl HK2.out stE rfl) rfl (ExOut.mk HR.out HW.out (HTR.out) (by omega) rfl)
   ·
    have q2 : ((kd : Int) == 2) = false := by rw [beq_eq_false_iff_ne]; omega
    have H2 := Lib.hid h2
    clear h2
    cases brace with
    | true =>
     obtain ⟨HRK, hpos⟩ := hik rfl
     clear hik HRK
     go_wp2_with fail
     clear x0 v0 y7 z7
     clear HF
     go_wp2_with fail
     refine (HB.out HR.out hpos).mono ?_
     rintro e w4 ⟨c1, t1, kd4, m4, rfl, hr, ho, ht, hm⟩
     have hle4 : m4 ≤ m := by omega
     have HM4 := Lib.hid hm
     have HTc1 := Lib.hid ht
     clear hm ht
     replace HR := Lib.hid hr
     have HOx := Lib.hid ho
     have hs4 := HOx.out.size
     clear hr ho
     replace HW : Hid (OnlyB b w w4) := Lib.hid (HW.out.then_ HOx.out (fun _ _ h => h))
     replace HK2 := Lib.hid (HOx.out.heap HK2.out (by omega))
     replace HK3 := Lib.hid (HOx.out.heap HK3.out (by omega))
     clear HOx
     go_wp2_with (refine wpl_store rfl 56 (.tmp 2) (.tmp 48) rfl b2 rfl (cells := c1.toArray) rfl HK2.out stE HTc1.out.size rfl HTc1.out.ones ?_)
     clear HK2
     refine ⟨fun w5 HK2 ho5 => ?_⟩
     have hs5 := ho5.out.size
     replace HW : Hid (OnlyB b w w5) := Lib.hid (HW.out.then_ ho5.out (fun i hi (h : i = b2) => by omega))
     replace HK3 := Lib.hid (ho5.out.heap HK3.out (by omega))
     replace HR := Lib.hid (HR.out.only ho5.out (by omega))
     replace HTc1 := Lib.hid (HTc1.out.only ho5.out (fun i (h : i = b2) => by omega))
     clear ho5
     go_wp2_with fail
     exact bodyPost_ret (ret_box rfl _ rfl HK2.out stE HTc1.out.size) rfl (ExOut.mk HR.out HW.out (HTc1.out.wide (by omega) (by omega)) (HM4.out) rfl)
    | false =>
     clear hik
     go_wp2_with fail
     clear x0 v0 y7 z7
     clear HF
     go_wp2_with fail
     refine (accept_any HR.out _).mono ?_
     rintro e w4 ⟨ok, m4, rfl, hr, ho, hy, hn⟩
     replace HR := Lib.hid hr
     have HOx := Lib.hid ho
     have hs4 := HOx.out.size
     clear hr ho
     replace HW : Hid (OnlyB b w w4) := Lib.hid (HW.out.then_ HOx.out (fun _ _ h => h))
     replace HK2 := Lib.hid (HOx.out.heap HK2.out (by omega))
     replace HK3 := Lib.hid (HOx.out.heap HK3.out (by omega))
     clear HOx
     cases ok with
     | false =>
      clear hy hn
      go_wp2_with fail
      refine (fail_any HR.out).mono ?_
      rintro e w5 ⟨rfl, hr, ho⟩
      replace HR := Lib.hid hr
      have HOx := Lib.hid ho
      have hs5 := HOx.out.size
      clear hr ho
      replace HW : Hid (OnlyB b w w5) := Lib.hid (HW.out.then_ HOx.out (fun _ _ h => h))
      replace HK2 := Lib.hid (HOx.out.heap HK2.out (by omega))
      replace HK3 := Lib.hid (HOx.out.heap HK3.out (by omega))
      clear HOx
      go_wp2_with (refine wpl_store rfl 56 (.tmp 2) (.tmp 55) rfl b2 rfl (cells := #[.int .i64 0, .int .i64 0, .int .i64 0, .int .i64 0, .int .u64 0, .string ⟨#[]⟩, .slice none 0 0]) rfl HK2.out stE rfl rfl (ones rfl) ?_)
      clear HK2
      refine ⟨fun w6 HK2 ho6 => ?_⟩
      have hs6 := ho6.out.size
      replace HW : Hid (OnlyB b w w6) := Lib.hid (HW.out.then_ ho6.out (fun i hi (h : i = b2) => by omega))
      replace HK3 := Lib.hid (ho6.out.heap HK3.out (by omega))
      replace HR := Lib.hid (HR.out.only ho6.out (by omega))
      clear ho6
      go_wp2_with fail
      exact bodyPost_ret (ret_box rfl _ rfl HK2.out stE rfl) rfl (ExOut.mk HR.out HW.out (tre_zero) (.inl rfl) rfl)
     | true =>
      obtain ⟨hp4, hl4⟩ := hy rfl
      clear hy hn
      go_wp2_with fail
      refine (HI.out.expr _ _ (by omega) HR.out).mono ?_
      rintro e w5 ⟨c1, t1, kd5, m5, rfl, hr, ho, ht, hm⟩
      have hle5 : m5 ≤ m4 := by omega
      have HM5 := Lib.hid hm
      have HTc1 := Lib.hid ht
      clear hm ht
      replace HR := Lib.hid hr
      have HOx := Lib.hid ho
      have hs5 := HOx.out.size
      clear hr ho
      replace HW : Hid (OnlyB b w w5) := Lib.hid (HW.out.then_ HOx.out (fun _ _ h => h))
      replace HK2 := Lib.hid (HOx.out.heap HK2.out (by omega))
      replace HK3 := Lib.hid (HOx.out.heap HK3.out (by omega))
      clear HOx
      go_wp2_with (refine wpl_box rfl rfl 56 rfl 6 rfl (.tmp 57) rfl rfl Tryd.zeroValue56 (cells := c1.toArray) (fun _ => rfl) (fun _ => rfl) stE HTc1.out.size rfl HTc1.out.ones ?_)
      refine ⟨fun w6 b6 HK6 ho6 ha6 hb6 => ?_⟩
      have hs6 := ho6.out.size
      replace HW : Hid (OnlyB b w w6) := Lib.hid (HW.out.then_ ho6.out (fun _ _ h => h.elim))
      replace HK2 := Lib.hid (ho6.out.heap HK2.out (fun h => h))
      replace HK3 := Lib.hid (ho6.out.heap HK3.out (fun h => h))
      replace HR := Lib.hid (HR.out.only ho6.out (fun h => h))
      replace HTc1 := Lib.hid (HTc1.out.only ho6.out (fun _ h => h.elim))
      clear ho6
      go_wp2_with fail
      refine (must_any HR.out _).mono ?_
      rintro e w7 ⟨rfl, m7, hr, ho, hm⟩
      have hle7 : m7 ≤ m5 := by omega
      have HM7 := Lib.hid hm
      clear hm
      replace HR := Lib.hid hr
      have HOx := Lib.hid ho
      have hs7 := HOx.out.size
      clear hr ho
      replace HW : Hid (OnlyB b w w7) := Lib.hid (HW.out.then_ HOx.out (fun _ _ h => h))
      replace HK2 := Lib.hid (HOx.out.heap HK2.out (by omega))
      replace HK3 := Lib.hid (HOx.out.heap HK3.out (by omega))
      replace HTc1 := Lib.hid (HTc1.out.only HOx.out (fun i (h : i = b) => by omega))
      replace HK6 := Lib.hid (HOx.out.heap HK6.out (by omega))
      clear HOx
      go_wp2_with (first | (refine wpl_load rfl 56 (.tmp 6) rfl b6 rfl HK6.out stE HTc1.out.size ?_) | (refine wpl_store rfl 56 (.tmp 2) (.tmp 60) rfl b2 rfl (cells := c1.toArray) rfl HK2.out stE HTc1.out.size rfl HTc1.out.ones ?_))
      clear HK2
      refine ⟨fun w8 HK2 ho8 => ?_⟩
      have hs8 := ho8.out.size
      replace HW : Hid (OnlyB b w w8) := Lib.hid (HW.out.then_ ho8.out (fun i hi (h : i = b2) => by omega))
      replace HK3 := Lib.hid (ho8.out.heap HK3.out (by omega))
      replace HR := Lib.hid (HR.out.only ho8.out (by omega))
      replace HTc1 := Lib.hid (HTc1.out.only ho8.out (fun i (h : i = b2) => by omega))
      replace HK6 := Lib.hid (ho8.out.heap HK6.out (by omega))
      clear ho8
      go_wp2_with fail
      exact bodyPost_ret (ret_box rfl _ rfl HK2.out stE HTc1.out.size) rfl (ExOut.mk HR.out HW.out (HTc1.out.wide (by omega) (by omega)) (by have := HM5.out; have := HM7.out; omega) rfl)
 ·
  have hci : ((code : Int) == 0) = false := by rw [beq_eq_false_iff_ne]; omega
  have HC := Lib.hid hc
  clear hc
  cases brace with
  | true =>
   obtain ⟨HRK, hpos⟩ := hik rfl
   clear hik HRK
   go_wp2_with fail
   clear x0 v0 y7 z7
   clear HF
   go_wp2_with fail
   refine (HB.out HR.out hpos).mono ?_
   rintro e w4 ⟨c1, t1, kd4, m4, rfl, hr, ho, ht, hm⟩
   have hle4 : m4 ≤ m := by omega
   have HM4 := Lib.hid hm
   have HTc1 := Lib.hid ht
   clear hm ht
   replace HR := Lib.hid hr
   have HOx := Lib.hid ho
   have hs4 := HOx.out.size
   clear hr ho
   replace HW : Hid (OnlyB b w w4) := Lib.hid (HW.out.then_ HOx.out (fun _ _ h => h))
   replace HK2 := Lib.hid (HOx.out.heap HK2.out (by omega))
   replace HK3 := Lib.hid (HOx.out.heap HK3.out (by omega))
   clear HOx
   go_wp2_with (refine wpl_store rfl 56 (.tmp 2) (.tmp 48) rfl b2 rfl (cells := c1.toArray) rfl HK2.out stE HTc1.out.size rfl HTc1.out.ones ?_)
   clear HK2
   refine ⟨fun w5 HK2 ho5 => ?_⟩
   have hs5 := ho5.out.size
   replace HW : Hid (OnlyB b w w5) := Lib.hid (HW.out.then_ ho5.out (fun i hi (h : i = b2) => by omega))
   replace HK3 := Lib.hid (ho5.out.heap HK3.out (by omega))
   replace HR := Lib.hid (HR.out.only ho5.out (by omega))
   replace HTc1 := Lib.hid (HTc1.out.only ho5.out (fun i (h : i = b2) => by omega))
   clear ho5
   go_wp2_with fail
   exact bodyPost_ret (ret_box rfl _ rfl HK2.out stE HTc1.out.size) rfl (ExOut.mk HR.out HW.out (HTc1.out.wide (by omega) (by omega)) (HM4.out) rfl)
  | false =>
   clear hik
   go_wp2_with fail
   clear x0 v0 y7 z7
   clear HF
   go_wp2_with fail
   refine (accept_any HR.out _).mono ?_
   rintro e w4 ⟨ok, m4, rfl, hr, ho, hy, hn⟩
   replace HR := Lib.hid hr
   have HOx := Lib.hid ho
   have hs4 := HOx.out.size
   clear hr ho
   replace HW : Hid (OnlyB b w w4) := Lib.hid (HW.out.then_ HOx.out (fun _ _ h => h))
   replace HK2 := Lib.hid (HOx.out.heap HK2.out (by omega))
   replace HK3 := Lib.hid (HOx.out.heap HK3.out (by omega))
   clear HOx
   cases ok with
   | false =>
    clear hy hn
    go_wp2_with fail
    refine (fail_any HR.out).mono ?_
    rintro e w5 ⟨rfl, hr, ho⟩
    replace HR := Lib.hid hr
    have HOx := Lib.hid ho
    have hs5 := HOx.out.size
    clear hr ho
    replace HW : Hid (OnlyB b w w5) := Lib.hid (HW.out.then_ HOx.out (fun _ _ h => h))
    replace HK2 := Lib.hid (HOx.out.heap HK2.out (by omega))
    replace HK3 := Lib.hid (HOx.out.heap HK3.out (by omega))
    clear HOx
    go_wp2_with (refine wpl_store rfl 56 (.tmp 2) (.tmp 55) rfl b2 rfl (cells := #[.int .i64 0, .int .i64 0, .int .i64 0, .int .i64 0, .int .u64 0, .string ⟨#[]⟩, .slice none 0 0]) rfl HK2.out stE rfl rfl (ones rfl) ?_)
    clear HK2
    refine ⟨fun w6 HK2 ho6 => ?_⟩
    have hs6 := ho6.out.size
    replace HW : Hid (OnlyB b w w6) := Lib.hid (HW.out.then_ ho6.out (fun i hi (h : i = b2) => by omega))
    replace HK3 := Lib.hid (ho6.out.heap HK3.out (by omega))
    replace HR := Lib.hid (HR.out.only ho6.out (by omega))
    clear ho6
    go_wp2_with fail
    exact bodyPost_ret (ret_box rfl _ rfl HK2.out stE rfl) rfl (ExOut.mk HR.out HW.out (tre_zero) (.inl rfl) rfl)
   | true =>
    obtain ⟨hp4, hl4⟩ := hy rfl
    clear hy hn
    go_wp2_with fail
    refine (HI.out.expr _ _ (by omega) HR.out).mono ?_
    rintro e w5 ⟨c1, t1, kd5, m5, rfl, hr, ho, ht, hm⟩
    have hle5 : m5 ≤ m4 := by omega
    have HM5 := Lib.hid hm
    have HTc1 := Lib.hid ht
    clear hm ht
    replace HR := Lib.hid hr
    have HOx := Lib.hid ho
    have hs5 := HOx.out.size
    clear hr ho
    replace HW : Hid (OnlyB b w w5) := Lib.hid (HW.out.then_ HOx.out (fun _ _ h => h))
    replace HK2 := Lib.hid (HOx.out.heap HK2.out (by omega))
    replace HK3 := Lib.hid (HOx.out.heap HK3.out (by omega))
    clear HOx
    go_wp2_with (refine wpl_box rfl rfl 56 rfl 6 rfl (.tmp 57) rfl rfl Tryd.zeroValue56 (cells := c1.toArray) (fun _ => rfl) (fun _ => rfl) stE HTc1.out.size rfl HTc1.out.ones ?_)
    refine ⟨fun w6 b6 HK6 ho6 ha6 hb6 => ?_⟩
    have hs6 := ho6.out.size
    replace HW : Hid (OnlyB b w w6) := Lib.hid (HW.out.then_ ho6.out (fun _ _ h => h.elim))
    replace HK2 := Lib.hid (ho6.out.heap HK2.out (fun h => h))
    replace HK3 := Lib.hid (ho6.out.heap HK3.out (fun h => h))
    replace HR := Lib.hid (HR.out.only ho6.out (fun h => h))
    replace HTc1 := Lib.hid (HTc1.out.only ho6.out (fun _ h => h.elim))
    clear ho6
    go_wp2_with fail
    refine (must_any HR.out _).mono ?_
    rintro e w7 ⟨rfl, m7, hr, ho, hm⟩
    have hle7 : m7 ≤ m5 := by omega
    have HM7 := Lib.hid hm
    clear hm
    replace HR := Lib.hid hr
    have HOx := Lib.hid ho
    have hs7 := HOx.out.size
    clear hr ho
    replace HW : Hid (OnlyB b w w7) := Lib.hid (HW.out.then_ HOx.out (fun _ _ h => h))
    replace HK2 := Lib.hid (HOx.out.heap HK2.out (by omega))
    replace HK3 := Lib.hid (HOx.out.heap HK3.out (by omega))
    replace HTc1 := Lib.hid (HTc1.out.only HOx.out (fun i (h : i = b) => by omega))
    replace HK6 := Lib.hid (HOx.out.heap HK6.out (by omega))
    clear HOx
    go_wp2_with (first | (refine wpl_load rfl 56 (.tmp 6) rfl b6 rfl HK6.out stE HTc1.out.size ?_) | (refine wpl_store rfl 56 (.tmp 2) (.tmp 60) rfl b2 rfl (cells := c1.toArray) rfl HK2.out stE HTc1.out.size rfl HTc1.out.ones ?_))
    clear HK2
    refine ⟨fun w8 HK2 ho8 => ?_⟩
    have hs8 := ho8.out.size
    replace HW : Hid (OnlyB b w w8) := Lib.hid (HW.out.then_ ho8.out (fun i hi (h : i = b2) => by omega))
    replace HK3 := Lib.hid (ho8.out.heap HK3.out (by omega))
    replace HR := Lib.hid (HR.out.only ho8.out (by omega))
    replace HTc1 := Lib.hid (HTc1.out.only ho8.out (fun i (h : i = b2) => by omega))
    replace HK6 := Lib.hid (ho8.out.heap HK6.out (by omega))
    clear ho8
    go_wp2_with fail
    exact bodyPost_ret (ret_box rfl _ rfl HK2.out stE HTc1.out.size) rfl (ExOut.mk HR.out HW.out (HTc1.out.wide (by omega) (by omega)) (by have := HM5.out; have := HM7.out; omega) rfl)
end Go.Proofs.YtbdcpealkllfnaaDoor
