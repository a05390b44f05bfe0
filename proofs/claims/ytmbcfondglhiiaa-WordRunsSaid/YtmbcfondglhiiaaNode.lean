/- runner.node, walked: what a node is worth. Conditions: the runner, the node's arguments and the inputs lie in memory; the node is right. -/
import Derived.Test.YtmbcfondglhiiaaOperate
import Derived.Test.YtmbcfondglhiiaaWMem
import Derived.Test.YtmbcfondglhiiaaOnesW
import Derived.Deep.DeepCutAuto
namespace Go.Proofs.Ytmbcfondglhiiaa
open Go.RowKit

theorem truthP_any (b : Bool) (w : World) : Calls Try.prog 35 #[.bool b] w fun e w' => e = .returned (.int .u64 (truthV b)) ∧ w = w' := by
  go_enter Try.func35, Try.ntmps35
  cases b
  · go_wp2
    go_ret
    exact ⟨rfl, rfl⟩
  · go_wp2
    go_ret
    exact ⟨rfl, rfl⟩

/-- where a runner lies: its box, registers, memories, the nodes' words -/
structure Rn where
  b : Nat
  RA : Option Addr
  rc : Nat
  MA : Option Addr
  mc : Nat
  MB : Nat → Nat
  VA : Option Addr
  vc : Nat
structure Rn.At (L : Rn) (g : Nl) (p : Pl) (w : World) (R : Nat → Int) (M : Nat → Nat → Int) (V : Nat → Int) : Prop where
  box : BoxAt w L.b (g.cells p ++ [.slice L.RA g.nr L.rc, .slice L.MA g.nm L.mc, .slice L.VA g.nn L.vc])
  net : g.At w p
  regs : Words w L.RA g.nr R
  mems : MemsAt g w L.MA L.mc L.MB M
  v : Words w L.VA g.nn V
theorem Rn.At.keeps {L : Rn} {g : Nl} {p : Pl} {w w1 : World} {R : Nat → Int} {M : Nat → Nat → Int} {V : Nat → Int} (h : L.At g p w R M V) (k : Keeps w w1) : L.At g p w1 R M V :=
  ⟨h.box.keeps k, h.net.keeps k, Row1.keeps h.regs k, h.mems.keeps k, Row1.keeps h.v k⟩
theorem Rn.At.cell1 {L : Rn} {g : Nl} {p : Pl} {w : World} {R : Nat → Int} {M : Nat → Nat → Int} {V : Nat → Int} (h : L.At g p w R M V) : w.cell? ⟨L.b, 1, none⟩ = some (.slice p.A1 g.nn p.c1) := h.box 1 _ rfl
theorem Rn.At.cell6 {L : Rn} {g : Nl} {p : Pl} {w : World} {R : Nat → Int} {M : Nat → Nat → Int} {V : Nat → Int} (h : L.At g p w R M V) : w.cell? ⟨L.b, 6, none⟩ = some (.slice L.RA g.nr L.rc) := h.box 6 _ rfl
theorem Rn.At.cell7 {L : Rn} {g : Nl} {p : Pl} {w : World} {R : Nat → Int} {M : Nat → Nat → Int} {V : Nat → Int} (h : L.At g p w R M V) : w.cell? ⟨L.b, 7, none⟩ = some (.slice L.MA g.nm L.mc) := h.box 7 _ rfl
theorem Rn.At.cell8 {L : Rn} {g : Nl} {p : Pl} {w : World} {R : Nat → Int} {M : Nat → Nat → Int} {V : Nat → Int} (h : L.At g p w R M V) : w.cell? ⟨L.b, 8, none⟩ = some (.slice L.VA g.nn L.vc) := h.box 8 _ rfl

theorem and1_i64 {n : Nat} (h : n < 9223372036854775808) : bits .and .i64 (n : Int) 1 = ((n % 2 : Nat) : Int) := by
  have := bits_mask .i64 63 (by decide) (fun n h0 h1 => by rw [IntKind.wrap_i64]; omega) 1 (by decide) (n : Int) (by omega) (by omega)
  rw [show (2 : Int) ^ 1 - 1 = 1 from rfl] at this
  rw [this]
  omega

set_option maxHeartbeats 8000000 in
set_option maxRecDepth 100000 in
theorem nodeOp (K : Int) (m : Nat) (U : Int) (Ax : Option Addr) (n cx : Nat) (ax a wd : Nat → Int) (g : Nl) (p : Pl) (L : Rn) (R : Nat → Int) (M : Nat → Nat → Int) (V : Nat → Int) (Ia : Option Addr) (ni ci : Nat) (I : Nat → Int) (w : World)
    (hx : Row1 w Ax n (fun j => .int .i64 (ax j))) (hr : L.At g p w R M V) (hi : Words w Ia ni I) (hax : ∀ j, j < n → 0 ≤ ax j ∧ ax j < g.nn) (hva : ∀ j, j < n → V (ax j).toNat = a j) (hz : ∀ j, n ≤ j → a j = 0)
    (hal : n * 8 ≤ 140737488351232) (hm : 1 ≤ m ∧ m ≤ 32) (hu0 : 0 ≤ U) (hu : U ≤ 18446744073709551615) (h : OpFit K (m : Int) U a wd n) (hwd : ∀ j, j < n → wd j = g.W (ax j).toNat) :
    Calls Try.prog 22 #[.pointer (some ⟨L.b, 0, none⟩), .agg #[.int .i64 K, .int .i64 (m : Int), .int .u64 U, .slice Ax n cx], .slice Ia ni ci] w fun e w' => e = .returned (.int .u64 (opV K (m : Int) U a wd n)) ∧ Below w.heap.size w w' := by
  have HVA := Lib.hid hva; have HZ := Lib.hid hz; have HAX := Lib.hid hax
  clear hva hz hax
  have HDUM := hm
  go_enter Try.func22, Try.ntmps22
  go_upto_region 1 with (fail)
  have hbel : Below w.heap.size w (w.alloc (.cells #[.int .i64 K, .int .i64 (m : Int), .int .u64 U, .slice Ax n cx] 42)) := (Below.refl _ _).alloc (Nat.le_refl _) _
  have qbox := BoxAt.new w [.int .i64 K, .int .i64 (m : Int), .int .u64 U, .slice Ax n cx] 42
  generalize w.alloc (.cells #[.int .i64 K, .int .i64 (m : Int), .int .u64 U, .slice Ax n cx] 42) = w1 at *
  obtain ⟨q0, q1, q2, q3⟩ := qbox.four
  go_upto_region 2 with (fail)
  have eT : IntKind.u64.wrap (IntKind.u64.wrap (2 ^ m) - 1) = 2 ^ m - 1 := by
    have h1 := pow_le32 (n := m) (by omega)
    have h2 := pow_pos2 m
    rw [wraps_u64 (2 ^ m) (by omega) (by omega), wraps_u64 _ (by omega) (by omega)]
  rw [eT]
  generalize hT : (2 : Int) ^ m - 1 = T
  have HT := Lib.hid hT; clear hT eT
  have hr1 := hr.keeps (Keeps.of_below hbel)
  have hx1 := hx.keeps (Keeps.of_below hbel)
  have hi1 : Words w1 Ia ni I := Row1.keeps hi (Keeps.of_below hbel)
  have HB1 := Lib.hid hbel
  clear hbel qbox hr hx hi
  go_upto_region 3 with (fail)
  have hbA : Below w1.heap.size w1 (w1.alloc (.cells #[.int .u64 0, .int .u64 0, .int .u64 0] 63)) := (Below.refl _ _).alloc (Nat.le_refl _) _
  have hA0 : Arr (w1.alloc (.cells #[.int .u64 0, .int .u64 0, .int .u64 0] 63)) w1.heap.size 63 3 (fun q => .int .u64 (if q < 0 then a q else 0)) := (Arr.new w1 #[.int .u64 0, .int .u64 0, .int .u64 0] 63).congr (fun q hq => by
    have hq' : q < 3 := hq
    obtain rfl | rfl | rfl : q = 0 ∨ q = 1 ∨ q = 2 := by omega
    all_goals rfl)
  generalize w1.alloc (.cells #[.int .u64 0, .int .u64 0, .int .u64 0] 63) = w2 at *
  have hk2 := Keeps.of_below hbA
  have z3 := hk2 _ _ q3
  go_wp2_with fail
  go_loopw [21] (fun ix wr => ∃ j : Nat, j ≤ n ∧ ix = .int .i64 j ∧ Arr wr w1.heap.size 63 3 (fun q => .int .u64 (if q < j then a q else 0)) ∧ Below w1.heap.size w1 wr) (fun ix _ => n - (intOf ix).toNat)
  case atStart => exact ⟨0, by omega, rfl, hA0, hbA⟩
  case round =>
    clear hA0 hbA hk2 z3
    obtain ⟨j, hj, rfl, hA, hb⟩ := hrel
    have hkp := Lib.hid (Keeps.of_below hb)
    have hrr := hr1.keeps hkp.out
    have hxx := hx1.keeps hkp.out
    have y0 := hkp.out _ _ q0; have y1 := hkp.out _ _ q1; have y2 := hkp.out _ _ q2; have y3 := hkp.out _ _ q3
    by_cases hlt : j < n
    · have hji : (j : Int) < n := by omega
      obtain ⟨h0, h1⟩ := HAX.out j hlt
      obtain ⟨bx, ox, hAe, x0⟩ := hxx.at_ hlt
      subst hAe
      obtain ⟨i, hi⟩ : ∃ i : Nat, ax j = i := ⟨(ax j).toNat, by omega⟩
      have hv := HVA.out j hlt
      rw [hi, Int.toNat_natCast] at hv
      rw [hi] at x0 h0 h1
      clear hi
      obtain ⟨bv, ov, hVe, v0⟩ := Row1.at_ hrr.v (k := i) (by omega)
      have c8 := hrr.cell8
      rw [hVe] at c8
      rw [hv] at v0
      clear hv hVe
      by_cases h3 : j < 3
      · have hfa := hA.thaw j
        have hca := hA.cell h3
        have h3i : (j : Int) < 3 := by omega
        go_wp2_with fail
        go_roundw
        case rel =>
          refine ⟨j + 1, by omega, by go_num, hA.set (fun q _ hq => ?_) ?_, hb.setCell (p := ⟨w1.heap.size, j, none⟩) (Nat.le_refl _) _⟩
          · by_cases hqj : q < j
            · simp [hqj, Nat.lt_succ_of_lt hqj]
            · simp [hqj, show ¬ q < j + 1 by omega]
          · simp
        case measure => simp [intOf]; omega
      · have h3i : ¬ (j : Int) < 3 := by omega
        go_wp2_with fail
        go_roundw
        case rel =>
          refine ⟨j + 1, by omega, by go_num, hA.congr (fun q hq => ?_), hb⟩
          simp [show q < j by omega, show q < j + 1 by omega]
        case measure => simp [intOf]; omega
    · obtain rfl : j = n := by omega
      have hAa : Arr wr w1.heap.size 63 3 (fun q => .int .u64 (a q)) := hA.congr (fun q hq => by
        by_cases hqj : q < j
        · simp [hqj]
        · simp [hqj, HZ.out q (by omega)])
      have c0 : wr.cell? ⟨w1.heap.size, 0, none⟩ = some (.int .u64 (a 0)) := hAa.cell (by omega)
      have c1 : wr.cell? ⟨w1.heap.size, 1, none⟩ = some (.int .u64 (a 1)) := hAa.cell (by omega)
      have c2 : wr.cell? ⟨w1.heap.size, 2, none⟩ = some (.int .u64 (a 2)) := hAa.cell (by omega)
      have HBF := Lib.hid (HB1.out.trans (hb.mono HB1.out.size))
      clear hA hAa hb hx1 hr1
      rcases h.kind.all with ⟨rfl, rfl⟩ | ⟨rfl, rfl⟩ | ⟨rfl, rfl⟩ | ⟨rfl, hp⟩ | ⟨rfl, rfl⟩ | ⟨rfl, rfl⟩ | ⟨rfl, rfl⟩ | ⟨rfl, rfl⟩ | ⟨rfl, rfl⟩ | ⟨rfl, rfl⟩ | ⟨rfl, rfl⟩ | ⟨rfl, rfl⟩ | ⟨rfl, rfl⟩ | ⟨rfl, rfl⟩ | ⟨rfl, rfl⟩ | ⟨rfl, rfl⟩ | ⟨rfl, rfl⟩ | ⟨rfl, rfl⟩ | ⟨rfl, rfl⟩
      · have hfu : U ≤ maskN (m : Int) := by
          have := h.fit
          have h2 : decide (U ≤ maskN (m : Int)) = true := this
          simpa using h2
        rw [maskN_eq (wide_of h.wide), Int.toNat_natCast] at hfu
        have HV : Hid (U = opV 1 (m : Int) U a wd 0) := Lib.hid (by
          show _ = U % 2 ^ (m : Int).toNat
          rw [Int.toNat_natCast]
          exact (mod_id hu0 (by omega)).symm)
        go_wp2_with fail
        go_ret
        exact ⟨congrArg (fun x => Ending.returned (Value.int .u64 x)) HV.out, HBF.out⟩
      · have f0 := fits32 (h.args 0 (by omega)).1 (h.args 0 (by omega)).2
        obtain ⟨x, hx0⟩ : ∃ x : Nat, a 0 = x := ⟨(a 0).toNat, by omega⟩
        have HX := Lib.hid hx0
        rw [hx0] at c0 f0
        clear hx0
        obtain ⟨u, rfl⟩ : ∃ u : Nat, U = u := ⟨U.toNat, by omega⟩
        have HV : Hid (bits .and .u64 ((x : Int) / 2 ^ min u 64) T = opV 5 (m : Int) (u : Int) a wd 1) := Lib.hid (by
          rw [← HT.out, shr_min f0.2]
          have hnn : 0 ≤ (x : Int) / 2 ^ u := Int.ediv_nonneg (by omega) (by have := pow_pos2 u; omega)
          have hle : (x : Int) / 2 ^ u ≤ x := Int.ediv_le_self _ (by omega)
          rw [and_top hnn (by omega) (by omega)]
          show _ = a 0 / 2 ^ (u : Int).toNat % 2 ^ (m : Int).toNat
          rw [HX.out, Int.toNat_natCast, Int.toNat_natCast])
        go_wp2_with fail
        go_ret
        exact ⟨congrArg (fun x => Ending.returned (Value.int .u64 x)) HV.out, HBF.out⟩
      · have f0 := fits32 (h.args 0 (by omega)).1 (h.args 0 (by omega)).2
        have HV : Hid (bits .and .u64 (a 0) T = opV 6 (m : Int) U a wd 1) := Lib.hid (by
          show _ = a 0 % 2 ^ (m : Int).toNat
          rw [← HT.out, Int.toNat_natCast]
          exact and_top (by omega) (by omega) (by omega))
        go_wp2_with fail
        go_ret
        exact ⟨congrArg (fun x => Ending.returned (Value.int .u64 x)) HV.out, HBF.out⟩
      · have hn := h.len
        have HF := Lib.hid h.args
        have HC := Lib.hid (catV_lt (a := a) (wd := wd) (n := j) (fun r hr => by have := (h.args r hr).1; omega) (fun r hr => (h.args r hr).2))
        have HS : Hid (sumW wd j = (m : Int)) := Lib.hid (by
          have hf : (sumV wd j == (m : Int)) = true := h.fit
          rw [beq_iff_eq] at hf
          rw [← (sumV_eq (fun r hr => (h.args r hr).1) hn j (Nat.le_refl _)).1, hf])
        have HL : Hid (∀ r, r ≤ j → sumW wd r ≤ (m : Int)) := Lib.hid (fun r hr => by rw [← HS.out]; exact sumW_le (fun r hr => by have := (h.args r hr).1; omega) j (Nat.le_refl _) r hr)
        have HV : Hid (catV a wd j = opV 7 (m : Int) U a wd j) := Lib.hid (by
          show _ = catV a wd j % 2 ^ (m : Int).toNat
          have h1 := HC.out j (Nat.le_refl _)
          rw [HS.out] at h1
          exact (mod_id h1.2.1 h1.2.2).symm)
        have HWD := Lib.hid hwd
        clear h hwd
        go_wp2_with fail
        go_loopw [11, 243] (fun v ix wi => ∃ k : Nat, k ≤ j ∧ ix = .int .i64 k ∧ v = .int .u64 (catV a wd k) ∧ Below wr.heap.size wr wi) (fun _ ix _ => j - (intOf ix).toNat)
        case atStart => exact ⟨0, by omega, rfl, rfl, Below.refl _ _⟩
        case round =>
          obtain ⟨k, hk, rfl, rfl, HO⟩ := hrel
          have HOH := Lib.hid HO
          have hko := Lib.hid (Keeps.of_below HO)
          clear HO
          by_cases hlk : k < j
          · have hki : (k : Int) < j := by omega
            obtain ⟨h0, h1⟩ := HAX.out k hlk
            obtain ⟨bx, ox, hAe, x0⟩ := (hxx.keeps hko.out).at_ hlk
            subst hAe
            obtain ⟨i, hi⟩ : ∃ i : Nat, ax k = i := ⟨(ax k).toNat, by omega⟩
            have hv := HVA.out k hlk
            have hwi := HWD.out k hlk
            rw [hi, Int.toNat_natCast] at hv hwi
            rw [hi] at x0 h0 h1
            clear hi
            have hro := hrr.keeps hko.out
            obtain ⟨bn, on, hNe, _, n1, _, _⟩ := hro.net.nodes.1.at4 (k := i) (by omega)
            simp only [qu] at n1
            rw [← hwi] at n1
            have cc1 := hro.cell1
            rw [hNe] at cc1
            obtain ⟨bv, ov, hVe, v0⟩ := Row1.at_ hro.v (k := i) (by omega)
            have c8 := hro.cell8
            rw [hVe] at c8
            rw [hv] at v0
            obtain ⟨hq1, hq2⟩ := HF.out k hlk
            obtain ⟨q, hq⟩ : ∃ q : Nat, wd k = q := ⟨(wd k).toNat, by omega⟩
            rw [hq] at n1 hq1
            have HQ := Lib.hid hq
            clear hq hwi hv hNe hVe
            have HST : Hid (bits .or .u64 (IntKind.u64.wrap (catV a wd k * 2 ^ q)) (a k) = catV a wd (k + 1)) := Lib.hid (by
              have h1 := HC.out k (by omega)
              have h2 := HL.out (k + 1) (by omega)
              have h3 := hq2
              rw [HQ.out] at h3
              simp only [sumW] at h2
              rw [HQ.out] at h2
              simp only [catV]
              rw [HQ.out, Int.toNat_natCast]
              refine cat_step h1.2 (by unfold FitsW at h3; simpa using h3) ?_
              omega)
            clear hq2
            generalize catV a wd k = v at *
            go_wp2_with fail
            go_quiet (fail)
            go_wp2_with fail
            have hbd := below_drewN HOH.out nq
            go_roundw
            case rel => exact ⟨k + 1, by omega, by go_num, congrArg (fun x => Value.int .u64 x) HST.out, hbd⟩
            case measure => simp [intOf]; omega
          · have hkn : k = j := by omega
            have HV2 : Hid (catV a wd k = opV 7 (m : Int) U a wd j) := Lib.hid (by rw [hkn]; exact HV.out)
            have hlk2 : ¬ (k : Int) < j := by omega
            have hbf := Below.trans HBF.out (Below.mono HOH.out HBF.out.size)
            clear hkn
            go_wp2_with fail
            go_ret
            exact ⟨congrArg (fun x => Ending.returned (Value.int .u64 x)) HV2.out, hbf⟩
      · have f0 := fits32 (h.args 0 (by omega)).1 (h.args 0 (by omega)).2
        have HV : Hid (bits .and .u64 (bits .xor .u64 IntKind.u64.max (a 0)) T = opV 8 (m : Int) U a wd 1) := Lib.hid (by
          show _ = (18446744073709551615 - a 0) % 2 ^ (m : Int).toNat
          rw [← HT.out, xor_max f0.1 (by omega), Int.toNat_natCast]
          exact and_top (by omega) (by omega) (by omega))
        go_wp2_with fail
        go_ret
        exact ⟨congrArg (fun x => Ending.returned (Value.int .u64 x)) HV.out, HBF.out⟩
      · have f0 := fits32 (h.args 0 (by omega)).1 (h.args 0 (by omega)).2
        obtain ⟨hq1, hq2⟩ := (h.args 0 (by omega)).1
        obtain ⟨h0, h1⟩ := HAX.out 0 (by omega)
        obtain ⟨bx, ox, hAe, x0⟩ := hxx.at_ (k := 0) (by omega)
        subst hAe
        obtain ⟨i, hi⟩ : ∃ i : Nat, ax 0 = i := ⟨(ax 0).toNat, by omega⟩
        have hwi := hwd 0 (by omega)
        rw [hi, Int.toNat_natCast] at hwi
        rw [hi] at x0 h0 h1
        simp only [Nat.add_zero] at x0
        clear hi
        obtain ⟨bn, on, hNe, _, n1, _, _⟩ := hrr.net.nodes.1.at4 (k := i) (by omega)
        simp only [qu] at n1
        rw [← hwi] at n1
        have cc1 := hrr.cell1
        rw [hNe] at cc1
        obtain ⟨q, hq⟩ : ∃ q : Nat, wd 0 = q := ⟨(wd 0).toNat, by omega⟩
        rw [hq] at n1 hq1 hq2
        have eQ : IntKind.u64.wrap (IntKind.u64.wrap (2 ^ q) - 1) = 2 ^ q - 1 := by
          have h1 := pow_le32 (n := q) (by omega)
          have h2 := pow_pos2 q
          rw [wraps_u64 (2 ^ q) (by omega) (by omega), wraps_u64 _ (by omega) (by omega)]
        have HV : Hid (truthV (a 0 == IntKind.u64.wrap (IntKind.u64.wrap (2 ^ q) - 1)) = opV 9 (m : Int) U a wd 1) := Lib.hid (by
          show _ = truthV (a 0 == 2 ^ (wd 0).toNat - 1)
          rw [hq, Int.toNat_natCast, eQ])
        clear eQ hq hwi hNe
        go_wp2_with fail
        go_quiet ((go_at_call 35; refine (truthP_any _ _).mono ?_; rintro e wX ⟨rfl, rfl⟩; exact ⟨rfl, _, rfl⟩))
        go_wp2_with fail
        go_ret
        exact ⟨congrArg (fun x => Ending.returned (Value.int .u64 x)) HV.out, below_drewN HBF.out _⟩
      · have f0 := fits32 (h.args 0 (by omega)).1 (h.args 0 (by omega)).2
        have HV : Hid (truthV (a 0 != 0) = opV 10 (m : Int) U a wd 1) := Lib.hid (by
          rfl)
        go_wp2_with fail
        refine (truthP_any _ _).mono ?_
        rintro e w7 ⟨rfl, rfl⟩
        go_wp2_with fail
        go_ret
        exact ⟨congrArg (fun x => Ending.returned (Value.int .u64 x)) HV.out, HBF.out⟩
      · have f0 := fits32 (h.args 0 (by omega)).1 (h.args 0 (by omega)).2
        obtain ⟨x, hx0⟩ : ∃ x : Nat, a 0 = x := ⟨(a 0).toNat, by omega⟩
        have HX := Lib.hid hx0
        rw [hx0] at c0 f0
        clear hx0
        have hpl := popc_le x (by omega)
        have HV : Hid (IntKind.u64.wrap (bits .and .i64 ((popc x : Nat) : Int) 1) = opV 11 (m : Int) U a wd 1) := Lib.hid (by
          show _ = ((popc (a 0).toNat % 2 : Nat) : Int)
          rw [HX.out, Int.toNat_natCast, and1_i64 (by omega), wraps_u64 _ (by omega) (by omega)])
        go_wp2_with fail
        refine (ones_any x (by omega) _).mono ?_
        rintro e w7 ⟨rfl, rfl⟩
        generalize popc x = pc at *
        go_wp2_with fail
        go_ret
        exact ⟨congrArg (fun x => Ending.returned (Value.int .u64 x)) HV.out, HBF.out⟩
      · have f0 := fits32 (h.args 0 (by omega)).1 (h.args 0 (by omega)).2
        have f1 := fits32 (h.args 1 (by omega)).1 (h.args 1 (by omega)).2
        have HV : Hid (bits .and .u64 (a 0) (a 1) = opV 12 (m : Int) U a wd 2) := Lib.hid (by
          rfl)
        go_wp2_with fail
        go_ret
        exact ⟨congrArg (fun x => Ending.returned (Value.int .u64 x)) HV.out, HBF.out⟩
      · have f0 := fits32 (h.args 0 (by omega)).1 (h.args 0 (by omega)).2
        have f1 := fits32 (h.args 1 (by omega)).1 (h.args 1 (by omega)).2
        have HV : Hid (bits .or .u64 (a 0) (a 1) = opV 13 (m : Int) U a wd 2) := Lib.hid (by
          rfl)
        go_wp2_with fail
        go_ret
        exact ⟨congrArg (fun x => Ending.returned (Value.int .u64 x)) HV.out, HBF.out⟩
      · have f0 := fits32 (h.args 0 (by omega)).1 (h.args 0 (by omega)).2
        have f1 := fits32 (h.args 1 (by omega)).1 (h.args 1 (by omega)).2
        have HV : Hid (bits .xor .u64 (a 0) (a 1) = opV 14 (m : Int) U a wd 2) := Lib.hid (by
          rfl)
        go_wp2_with fail
        go_ret
        exact ⟨congrArg (fun x => Ending.returned (Value.int .u64 x)) HV.out, HBF.out⟩
      · have f0 := fits32 (h.args 0 (by omega)).1 (h.args 0 (by omega)).2
        have f1 := fits32 (h.args 1 (by omega)).1 (h.args 1 (by omega)).2
        have HV : Hid (bits .and .u64 (a 0 + a 1) T = opV 15 (m : Int) U a wd 2) := Lib.hid (by
          rw [opV15, ← HT.out, Int.toNat_natCast]
          exact and_top (by omega) (by omega) (by omega))
        go_wp2_with fail
        go_ret
        exact ⟨congrArg (fun x => Ending.returned (Value.int .u64 x)) HV.out, HBF.out⟩
      · have f0 := fits32 (h.args 0 (by omega)).1 (h.args 0 (by omega)).2
        have f1 := fits32 (h.args 1 (by omega)).1 (h.args 1 (by omega)).2
        have HV : Hid (bits .and .u64 (IntKind.u64.wrap (a 0 - a 1)) T = opV 16 (m : Int) U a wd 2) := Lib.hid (by
          rw [opV16, ← HT.out, Int.toNat_natCast]
          exact and_top_wrap _ (by omega))
        go_wp2_with fail
        go_ret
        exact ⟨congrArg (fun x => Ending.returned (Value.int .u64 x)) HV.out, HBF.out⟩
      · have f0 := fits32 (h.args 0 (by omega)).1 (h.args 0 (by omega)).2
        have f1 := fits32 (h.args 1 (by omega)).1 (h.args 1 (by omega)).2
        have HV : Hid (bits .and .u64 (IntKind.u64.wrap (a 0 * a 1)) T = opV 17 (m : Int) U a wd 2) := Lib.hid (by
          rw [opV17, ← HT.out, Int.toNat_natCast]
          exact and_top_wrap _ (by omega))
        go_wp2_with fail
        go_ret
        exact ⟨congrArg (fun x => Ending.returned (Value.int .u64 x)) HV.out, HBF.out⟩
      · have f0 := fits32 (h.args 0 (by omega)).1 (h.args 0 (by omega)).2
        have f1 := fits32 (h.args 1 (by omega)).1 (h.args 1 (by omega)).2
        obtain ⟨s, hx1⟩ : ∃ s : Nat, a 1 = s := ⟨(a 1).toNat, by omega⟩
        have HX1 := Lib.hid hx1
        rw [hx1] at c1 f1
        clear hx1
        have HV : Hid (bits .and .u64 (IntKind.u64.wrap (a 0 * 2 ^ min s 64)) T = opV 18 (m : Int) U a wd 2) := Lib.hid (by
          show _ = (if (m : Int) ≤ a 1 then 0 else a 0 * 2 ^ (a 1).toNat % 2 ^ (m : Int).toNat)
          rw [HX1.out, Int.toNat_natCast, Int.toNat_natCast, ← HT.out, and_top_wrap _ (by omega)]
          by_cases hc : (m : Int) ≤ (s : Int)
          · rw [if_pos hc, mul_pow_mod (by omega)]
          · rw [if_neg hc, Nat.min_eq_left (by omega)])
        go_wp2_with fail
        go_ret
        exact ⟨congrArg (fun x => Ending.returned (Value.int .u64 x)) HV.out, HBF.out⟩
      · have f0 := fits32 (h.args 0 (by omega)).1 (h.args 0 (by omega)).2
        have f1 := fits32 (h.args 1 (by omega)).1 (h.args 1 (by omega)).2
        obtain ⟨s, hx1⟩ : ∃ s : Nat, a 1 = s := ⟨(a 1).toNat, by omega⟩
        have HX1 := Lib.hid hx1
        rw [hx1] at c1 f1
        clear hx1
        have hw0 : wd 0 = m := by
          have hf := h.fit
          have h2 : (wd 0 == (m : Int)) = true := hf
          simpa using h2
        have ha0 := (h.args 0 (by omega)).2
        rw [hw0] at ha0
        unfold FitsW at ha0
        rw [Int.toNat_natCast] at ha0
        clear hw0
        have HV : Hid (a 0 / 2 ^ min s 64 = opV 19 (m : Int) U a wd 2) := Lib.hid (by
          show _ = (if (m : Int) ≤ a 1 then 0 else a 0 / 2 ^ (a 1).toNat)
          rw [HX1.out, Int.toNat_natCast]
          by_cases hc : (m : Int) ≤ (s : Int)
          · rw [if_pos hc, div_pow_zero ha0.1 ha0.2 (by omega)]
          · rw [if_neg hc, Nat.min_eq_left (by omega)])
        clear ha0
        go_wp2_with fail
        go_ret
        exact ⟨congrArg (fun x => Ending.returned (Value.int .u64 x)) HV.out, HBF.out⟩
      · have f0 := fits32 (h.args 0 (by omega)).1 (h.args 0 (by omega)).2
        have f1 := fits32 (h.args 1 (by omega)).1 (h.args 1 (by omega)).2
        have HV : Hid (truthV (a 0 == a 1) = opV 20 (m : Int) U a wd 2) := Lib.hid (by
          rfl)
        go_wp2_with fail
        refine (truthP_any _ _).mono ?_
        rintro e w7 ⟨rfl, rfl⟩
        go_wp2_with fail
        go_ret
        exact ⟨congrArg (fun x => Ending.returned (Value.int .u64 x)) HV.out, HBF.out⟩
      · have f0 := fits32 (h.args 0 (by omega)).1 (h.args 0 (by omega)).2
        have f1 := fits32 (h.args 1 (by omega)).1 (h.args 1 (by omega)).2
        have HV : Hid (truthV (decide (a 0 < a 1)) = opV 21 (m : Int) U a wd 2) := Lib.hid (by
          rfl)
        go_wp2_with fail
        refine (truthP_any _ _).mono ?_
        rintro e w7 ⟨rfl, rfl⟩
        go_wp2_with fail
        go_ret
        exact ⟨congrArg (fun x => Ending.returned (Value.int .u64 x)) HV.out, HBF.out⟩
      · by_cases hc : a 0 = 0
        · have hd1 : (a 0 != 0) = false := by simp [hc]
          have HV : Hid (a 2 = opV 22 (m : Int) U a wd 3) := Lib.hid (by
            show _ = (if a 0 ≠ 0 then a 1 else a 2)
            rw [if_neg (fun h => h hc)])
          clear hc
          go_wp2_with fail
          go_ret
          exact ⟨congrArg (fun x => Ending.returned (Value.int .u64 x)) HV.out, HBF.out⟩
        · have hd1 : (a 0 != 0) = true := by simp [hc]
          have HV : Hid (a 1 = opV 22 (m : Int) U a wd 3) := Lib.hid (by
            show _ = (if a 0 ≠ 0 then a 1 else a 2)
            rw [if_pos hc])
          clear hc
          go_wp2_with fail
          go_ret
          exact ⟨congrArg (fun x => Ending.returned (Value.int .u64 x)) HV.out, HBF.out⟩
set_option maxHeartbeats 8000000 in
set_option maxRecDepth 100000 in
theorem nodeIn (K : Int) (m : Nat) (U : Int) (Ax : Option Addr) (n cx : Nat) (ax a : Nat → Int) (g : Nl) (p : Pl) (L : Rn) (R : Nat → Int) (M : Nat → Nat → Int) (V : Nat → Int) (Ia : Option Addr) (ni ci : Nat) (I : Nat → Int) (w : World)
    (hx : Row1 w Ax n (fun j => .int .i64 (ax j))) (hr : L.At g p w R M V) (hi : Words w Ia ni I) (hax : ∀ j, j < n → 0 ≤ ax j ∧ ax j < g.nn) (hva : ∀ j, j < n → V (ax j).toNat = a j) (hz : ∀ j, n ≤ j → a j = 0)
    (hal : n * 8 ≤ 140737488351232) (hm : 1 ≤ m ∧ m ≤ 32) (hu0 : 0 ≤ U) (hu : U ≤ 18446744073709551615) (hK : K = 30) (hni : ni ≤ 1000000000000000) (hIb : ∀ j, j < ni → 0 ≤ I j ∧ I j ≤ 18446744073709551615) :
    Calls Try.prog 22 #[.pointer (some ⟨L.b, 0, none⟩), .agg #[.int .i64 K, .int .i64 (m : Int), .int .u64 U, .slice Ax n cx], .slice Ia ni ci] w fun e w' => e = .returned (.int .u64 (if U < ni then I U.toNat % 2 ^ m else 0)) ∧ Below w.heap.size w w' := by
  have HVA := Lib.hid hva; have HZ := Lib.hid hz; have HAX := Lib.hid hax
  clear hva hz hax
  have HK := Lib.hid hK; clear hK
  go_enter Try.func22, Try.ntmps22
  go_upto_region 1 with (fail)
  have hbel : Below w.heap.size w (w.alloc (.cells #[.int .i64 K, .int .i64 (m : Int), .int .u64 U, .slice Ax n cx] 42)) := (Below.refl _ _).alloc (Nat.le_refl _) _
  have qbox := BoxAt.new w [.int .i64 K, .int .i64 (m : Int), .int .u64 U, .slice Ax n cx] 42
  generalize w.alloc (.cells #[.int .i64 K, .int .i64 (m : Int), .int .u64 U, .slice Ax n cx] 42) = w1 at *
  obtain ⟨q0, q1, q2, q3⟩ := qbox.four
  go_upto_region 2 with (fail)
  have eT : IntKind.u64.wrap (IntKind.u64.wrap (2 ^ m) - 1) = 2 ^ m - 1 := by
    have h1 := pow_le32 (n := m) (by omega)
    have h2 := pow_pos2 m
    rw [wraps_u64 (2 ^ m) (by omega) (by omega), wraps_u64 _ (by omega) (by omega)]
  rw [eT]
  generalize hT : (2 : Int) ^ m - 1 = T
  have HT := Lib.hid hT; clear hT eT
  have hr1 := hr.keeps (Keeps.of_below hbel)
  have hx1 := hx.keeps (Keeps.of_below hbel)
  have hi1 : Words w1 Ia ni I := Row1.keeps hi (Keeps.of_below hbel)
  have HB1 := Lib.hid hbel
  clear hbel qbox hr hx hi
  go_upto_region 3 with (fail)
  have hbA : Below w1.heap.size w1 (w1.alloc (.cells #[.int .u64 0, .int .u64 0, .int .u64 0] 63)) := (Below.refl _ _).alloc (Nat.le_refl _) _
  have hA0 : Arr (w1.alloc (.cells #[.int .u64 0, .int .u64 0, .int .u64 0] 63)) w1.heap.size 63 3 (fun q => .int .u64 (if q < 0 then a q else 0)) := (Arr.new w1 #[.int .u64 0, .int .u64 0, .int .u64 0] 63).congr (fun q hq => by
    have hq' : q < 3 := hq
    obtain rfl | rfl | rfl : q = 0 ∨ q = 1 ∨ q = 2 := by omega
    all_goals rfl)
  generalize w1.alloc (.cells #[.int .u64 0, .int .u64 0, .int .u64 0] 63) = w2 at *
  have hk2 := Keeps.of_below hbA
  have z3 := hk2 _ _ q3
  go_wp2_with fail
  go_loopw [21] (fun ix wr => ∃ j : Nat, j ≤ n ∧ ix = .int .i64 j ∧ Arr wr w1.heap.size 63 3 (fun q => .int .u64 (if q < j then a q else 0)) ∧ Below w1.heap.size w1 wr) (fun ix _ => n - (intOf ix).toNat)
  case atStart => exact ⟨0, by omega, rfl, hA0, hbA⟩
  case round =>
    clear hA0 hbA hk2 z3
    obtain ⟨j, hj, rfl, hA, hb⟩ := hrel
    have hkp := Lib.hid (Keeps.of_below hb)
    have hrr := hr1.keeps hkp.out
    have hxx := hx1.keeps hkp.out
    have y0 := hkp.out _ _ q0; have y1 := hkp.out _ _ q1; have y2 := hkp.out _ _ q2; have y3 := hkp.out _ _ q3
    by_cases hlt : j < n
    · have hji : (j : Int) < n := by omega
      obtain ⟨h0, h1⟩ := HAX.out j hlt
      obtain ⟨bx, ox, hAe, x0⟩ := hxx.at_ hlt
      subst hAe
      obtain ⟨i, hi⟩ : ∃ i : Nat, ax j = i := ⟨(ax j).toNat, by omega⟩
      have hv := HVA.out j hlt
      rw [hi, Int.toNat_natCast] at hv
      rw [hi] at x0 h0 h1
      clear hi
      obtain ⟨bv, ov, hVe, v0⟩ := Row1.at_ hrr.v (k := i) (by omega)
      have c8 := hrr.cell8
      rw [hVe] at c8
      rw [hv] at v0
      clear hv hVe
      by_cases h3 : j < 3
      · have hfa := hA.thaw j
        have hca := hA.cell h3
        have h3i : (j : Int) < 3 := by omega
        go_wp2_with fail
        go_roundw
        case rel =>
          refine ⟨j + 1, by omega, by go_num, hA.set (fun q _ hq => ?_) ?_, hb.setCell (p := ⟨w1.heap.size, j, none⟩) (Nat.le_refl _) _⟩
          · by_cases hqj : q < j
            · simp [hqj, Nat.lt_succ_of_lt hqj]
            · simp [hqj, show ¬ q < j + 1 by omega]
          · simp
        case measure => simp [intOf]; omega
      · have h3i : ¬ (j : Int) < 3 := by omega
        go_wp2_with fail
        go_roundw
        case rel =>
          refine ⟨j + 1, by omega, by go_num, hA.congr (fun q hq => ?_), hb⟩
          simp [show q < j by omega, show q < j + 1 by omega]
        case measure => simp [intOf]; omega
    · obtain rfl : j = n := by omega
      have hAa : Arr wr w1.heap.size 63 3 (fun q => .int .u64 (a q)) := hA.congr (fun q hq => by
        by_cases hqj : q < j
        · simp [hqj]
        · simp [hqj, HZ.out q (by omega)])
      have c0 : wr.cell? ⟨w1.heap.size, 0, none⟩ = some (.int .u64 (a 0)) := hAa.cell (by omega)
      have c1 : wr.cell? ⟨w1.heap.size, 1, none⟩ = some (.int .u64 (a 1)) := hAa.cell (by omega)
      have c2 : wr.cell? ⟨w1.heap.size, 2, none⟩ = some (.int .u64 (a 2)) := hAa.cell (by omega)
      have HBF := Lib.hid (HB1.out.trans (hb.mono HB1.out.size))
      clear hA hAa hb hx1 hr1
      have hK := HK.out
      subst hK
      have HIB := Lib.hid hIb; clear hIb
      have hii := Row1.keeps hi1 hkp.out
      obtain ⟨u, rfl⟩ : ∃ u : Nat, U = u := ⟨U.toNat, by omega⟩
      by_cases hin : u < ni
      · obtain ⟨bi, oi, hIe, z0⟩ := Row1.at_ hii hin
        have hd : decide ((u : Int) < IntKind.u64.wrap (ni : Int)) = true := by rw [wraps_u64 _ (by omega) (by omega)]; simpa using hin
        have hini : (u : Int) < ni := by omega
        have hIu := HIB.out u hin
        subst hIe
        have HV : Hid (bits .and .u64 (I u) T = I u % 2 ^ m) := Lib.hid (by
          rw [← HT.out]
          exact and_top hIu.1 hIu.2 (by omega))
        go_wp2_with fail
        go_ret
        exact ⟨congrArg (fun x => Ending.returned (Value.int .u64 x)) HV.out, HBF.out⟩
      · have hd : decide ((u : Int) < IntKind.u64.wrap (ni : Int)) = false := by rw [wraps_u64 _ (by omega) (by omega)]; simpa using hin
        have hini : ¬ (u : Int) < ni := by omega
        go_wp2_with fail
        go_ret
        exact ⟨rfl, HBF.out⟩
set_option maxHeartbeats 8000000 in
set_option maxRecDepth 100000 in
theorem nodeReg (K : Int) (m : Nat) (U : Int) (Ax : Option Addr) (n cx : Nat) (ax a : Nat → Int) (g : Nl) (p : Pl) (L : Rn) (R : Nat → Int) (M : Nat → Nat → Int) (V : Nat → Int) (Ia : Option Addr) (ni ci : Nat) (I : Nat → Int) (w : World)
    (hx : Row1 w Ax n (fun j => .int .i64 (ax j))) (hr : L.At g p w R M V) (hi : Words w Ia ni I) (hax : ∀ j, j < n → 0 ≤ ax j ∧ ax j < g.nn) (hva : ∀ j, j < n → V (ax j).toNat = a j) (hz : ∀ j, n ≤ j → a j = 0)
    (hal : n * 8 ≤ 140737488351232) (hm : 1 ≤ m ∧ m ≤ 32) (hu0 : 0 ≤ U) (hu : U ≤ 18446744073709551615) (hK : K = 31) (hun : U < g.nr) :
    Calls Try.prog 22 #[.pointer (some ⟨L.b, 0, none⟩), .agg #[.int .i64 K, .int .i64 (m : Int), .int .u64 U, .slice Ax n cx], .slice Ia ni ci] w fun e w' => e = .returned (.int .u64 (R U.toNat)) ∧ Below w.heap.size w w' := by
  have HVA := Lib.hid hva; have HZ := Lib.hid hz; have HAX := Lib.hid hax
  clear hva hz hax
  have HK := Lib.hid hK; clear hK
  go_enter Try.func22, Try.ntmps22
  go_upto_region 1 with (fail)
  have hbel : Below w.heap.size w (w.alloc (.cells #[.int .i64 K, .int .i64 (m : Int), .int .u64 U, .slice Ax n cx] 42)) := (Below.refl _ _).alloc (Nat.le_refl _) _
  have qbox := BoxAt.new w [.int .i64 K, .int .i64 (m : Int), .int .u64 U, .slice Ax n cx] 42
  generalize w.alloc (.cells #[.int .i64 K, .int .i64 (m : Int), .int .u64 U, .slice Ax n cx] 42) = w1 at *
  obtain ⟨q0, q1, q2, q3⟩ := qbox.four
  go_upto_region 2 with (fail)
  have eT : IntKind.u64.wrap (IntKind.u64.wrap (2 ^ m) - 1) = 2 ^ m - 1 := by
    have h1 := pow_le32 (n := m) (by omega)
    have h2 := pow_pos2 m
    rw [wraps_u64 (2 ^ m) (by omega) (by omega), wraps_u64 _ (by omega) (by omega)]
  rw [eT]
  generalize hT : (2 : Int) ^ m - 1 = T
  have HT := Lib.hid hT; clear hT eT
  have hr1 := hr.keeps (Keeps.of_below hbel)
  have hx1 := hx.keeps (Keeps.of_below hbel)
  have hi1 : Words w1 Ia ni I := Row1.keeps hi (Keeps.of_below hbel)
  have HB1 := Lib.hid hbel
  clear hbel qbox hr hx hi
  go_upto_region 3 with (fail)
  have hbA : Below w1.heap.size w1 (w1.alloc (.cells #[.int .u64 0, .int .u64 0, .int .u64 0] 63)) := (Below.refl _ _).alloc (Nat.le_refl _) _
  have hA0 : Arr (w1.alloc (.cells #[.int .u64 0, .int .u64 0, .int .u64 0] 63)) w1.heap.size 63 3 (fun q => .int .u64 (if q < 0 then a q else 0)) := (Arr.new w1 #[.int .u64 0, .int .u64 0, .int .u64 0] 63).congr (fun q hq => by
    have hq' : q < 3 := hq
    obtain rfl | rfl | rfl : q = 0 ∨ q = 1 ∨ q = 2 := by omega
    all_goals rfl)
  generalize w1.alloc (.cells #[.int .u64 0, .int .u64 0, .int .u64 0] 63) = w2 at *
  have hk2 := Keeps.of_below hbA
  have z3 := hk2 _ _ q3
  go_wp2_with fail
  go_loopw [21] (fun ix wr => ∃ j : Nat, j ≤ n ∧ ix = .int .i64 j ∧ Arr wr w1.heap.size 63 3 (fun q => .int .u64 (if q < j then a q else 0)) ∧ Below w1.heap.size w1 wr) (fun ix _ => n - (intOf ix).toNat)
  case atStart => exact ⟨0, by omega, rfl, hA0, hbA⟩
  case round =>
    clear hA0 hbA hk2 z3
    obtain ⟨j, hj, rfl, hA, hb⟩ := hrel
    have hkp := Lib.hid (Keeps.of_below hb)
    have hrr := hr1.keeps hkp.out
    have hxx := hx1.keeps hkp.out
    have y0 := hkp.out _ _ q0; have y1 := hkp.out _ _ q1; have y2 := hkp.out _ _ q2; have y3 := hkp.out _ _ q3
    by_cases hlt : j < n
    · have hji : (j : Int) < n := by omega
      obtain ⟨h0, h1⟩ := HAX.out j hlt
      obtain ⟨bx, ox, hAe, x0⟩ := hxx.at_ hlt
      subst hAe
      obtain ⟨i, hi⟩ : ∃ i : Nat, ax j = i := ⟨(ax j).toNat, by omega⟩
      have hv := HVA.out j hlt
      rw [hi, Int.toNat_natCast] at hv
      rw [hi] at x0 h0 h1
      clear hi
      obtain ⟨bv, ov, hVe, v0⟩ := Row1.at_ hrr.v (k := i) (by omega)
      have c8 := hrr.cell8
      rw [hVe] at c8
      rw [hv] at v0
      clear hv hVe
      by_cases h3 : j < 3
      · have hfa := hA.thaw j
        have hca := hA.cell h3
        have h3i : (j : Int) < 3 := by omega
        go_wp2_with fail
        go_roundw
        case rel =>
          refine ⟨j + 1, by omega, by go_num, hA.set (fun q _ hq => ?_) ?_, hb.setCell (p := ⟨w1.heap.size, j, none⟩) (Nat.le_refl _) _⟩
          · by_cases hqj : q < j
            · simp [hqj, Nat.lt_succ_of_lt hqj]
            · simp [hqj, show ¬ q < j + 1 by omega]
          · simp
        case measure => simp [intOf]; omega
      · have h3i : ¬ (j : Int) < 3 := by omega
        go_wp2_with fail
        go_roundw
        case rel =>
          refine ⟨j + 1, by omega, by go_num, hA.congr (fun q hq => ?_), hb⟩
          simp [show q < j by omega, show q < j + 1 by omega]
        case measure => simp [intOf]; omega
    · obtain rfl : j = n := by omega
      have hAa : Arr wr w1.heap.size 63 3 (fun q => .int .u64 (a q)) := hA.congr (fun q hq => by
        by_cases hqj : q < j
        · simp [hqj]
        · simp [hqj, HZ.out q (by omega)])
      have c0 : wr.cell? ⟨w1.heap.size, 0, none⟩ = some (.int .u64 (a 0)) := hAa.cell (by omega)
      have c1 : wr.cell? ⟨w1.heap.size, 1, none⟩ = some (.int .u64 (a 1)) := hAa.cell (by omega)
      have c2 : wr.cell? ⟨w1.heap.size, 2, none⟩ = some (.int .u64 (a 2)) := hAa.cell (by omega)
      have HBF := Lib.hid (HB1.out.trans (hb.mono HB1.out.size))
      clear hA hAa hb hx1 hr1
      have hK := HK.out
      subst hK
      obtain ⟨u, rfl⟩ : ∃ u : Nat, U = u := ⟨U.toNat, by omega⟩
      obtain ⟨bi, oi, hIe, z0⟩ := Row1.at_ hrr.regs (k := u) (by omega)
      have c6 := hrr.cell6
      rw [hIe] at c6
      clear hIe
      go_wp2_with fail
      go_quiet (fail)
      go_wp2_with fail
      go_ret
      exact ⟨rfl, below_drewN HBF.out _⟩
set_option maxHeartbeats 8000000 in
set_option maxRecDepth 100000 in
theorem nodeRead (K : Int) (m : Nat) (U : Int) (Ax : Option Addr) (n cx : Nat) (ax a : Nat → Int) (g : Nl) (p : Pl) (L : Rn) (R : Nat → Int) (M : Nat → Nat → Int) (V : Nat → Int) (Ia : Option Addr) (ni ci : Nat) (I : Nat → Int) (w : World)
    (hx : Row1 w Ax n (fun j => .int .i64 (ax j))) (hr : L.At g p w R M V) (hi : Words w Ia ni I) (hax : ∀ j, j < n → 0 ≤ ax j ∧ ax j < g.nn) (hva : ∀ j, j < n → V (ax j).toNat = a j) (hz : ∀ j, n ≤ j → a j = 0)
    (hal : n * 8 ≤ 140737488351232) (hm : 1 ≤ m ∧ m ≤ 32) (hu0 : 0 ≤ U) (hu : U ≤ 18446744073709551615) (hK : K = 32) (hun : U < g.nm) (hms : 1 ≤ g.MS U.toNat ∧ g.MS U.toNat ≤ 256) (ha0 : 0 ≤ a 0 ∧ a 0 < 4294967296) (z : Int) (hK2 : z = if a 0 < g.MS U.toNat then M U.toNat (a 0).toNat else 0) :
    Calls Try.prog 22 #[.pointer (some ⟨L.b, 0, none⟩), .agg #[.int .i64 K, .int .i64 (m : Int), .int .u64 U, .slice Ax n cx], .slice Ia ni ci] w fun e w' => e = .returned (.int .u64 (z)) ∧ Below w.heap.size w w' := by
  have HVA := Lib.hid hva; have HZ := Lib.hid hz; have HAX := Lib.hid hax
  clear hva hz hax
  have HK := Lib.hid hK; clear hK
  have HK2 := Lib.hid hK2; clear hK2
  go_enter Try.func22, Try.ntmps22
  go_upto_region 1 with (fail)
  have hbel : Below w.heap.size w (w.alloc (.cells #[.int .i64 K, .int .i64 (m : Int), .int .u64 U, .slice Ax n cx] 42)) := (Below.refl _ _).alloc (Nat.le_refl _) _
  have qbox := BoxAt.new w [.int .i64 K, .int .i64 (m : Int), .int .u64 U, .slice Ax n cx] 42
  generalize w.alloc (.cells #[.int .i64 K, .int .i64 (m : Int), .int .u64 U, .slice Ax n cx] 42) = w1 at *
  obtain ⟨q0, q1, q2, q3⟩ := qbox.four
  go_upto_region 2 with (fail)
  have eT : IntKind.u64.wrap (IntKind.u64.wrap (2 ^ m) - 1) = 2 ^ m - 1 := by
    have h1 := pow_le32 (n := m) (by omega)
    have h2 := pow_pos2 m
    rw [wraps_u64 (2 ^ m) (by omega) (by omega), wraps_u64 _ (by omega) (by omega)]
  rw [eT]
  generalize hT : (2 : Int) ^ m - 1 = T
  have HT := Lib.hid hT; clear hT eT
  have hr1 := hr.keeps (Keeps.of_below hbel)
  have hx1 := hx.keeps (Keeps.of_below hbel)
  have hi1 : Words w1 Ia ni I := Row1.keeps hi (Keeps.of_below hbel)
  have HB1 := Lib.hid hbel
  clear hbel qbox hr hx hi
  go_upto_region 3 with (fail)
  have hbA : Below w1.heap.size w1 (w1.alloc (.cells #[.int .u64 0, .int .u64 0, .int .u64 0] 63)) := (Below.refl _ _).alloc (Nat.le_refl _) _
  have hA0 : Arr (w1.alloc (.cells #[.int .u64 0, .int .u64 0, .int .u64 0] 63)) w1.heap.size 63 3 (fun q => .int .u64 (if q < 0 then a q else 0)) := (Arr.new w1 #[.int .u64 0, .int .u64 0, .int .u64 0] 63).congr (fun q hq => by
    have hq' : q < 3 := hq
    obtain rfl | rfl | rfl : q = 0 ∨ q = 1 ∨ q = 2 := by omega
    all_goals rfl)
  generalize w1.alloc (.cells #[.int .u64 0, .int .u64 0, .int .u64 0] 63) = w2 at *
  have hk2 := Keeps.of_below hbA
  have z3 := hk2 _ _ q3
  go_wp2_with fail
  go_loopw [21] (fun ix wr => ∃ j : Nat, j ≤ n ∧ ix = .int .i64 j ∧ Arr wr w1.heap.size 63 3 (fun q => .int .u64 (if q < j then a q else 0)) ∧ Below w1.heap.size w1 wr) (fun ix _ => n - (intOf ix).toNat)
  case atStart => exact ⟨0, by omega, rfl, hA0, hbA⟩
  case round =>
    clear hA0 hbA hk2 z3
    obtain ⟨j, hj, rfl, hA, hb⟩ := hrel
    have hkp := Lib.hid (Keeps.of_below hb)
    have hrr := hr1.keeps hkp.out
    have hxx := hx1.keeps hkp.out
    have y0 := hkp.out _ _ q0; have y1 := hkp.out _ _ q1; have y2 := hkp.out _ _ q2; have y3 := hkp.out _ _ q3
    by_cases hlt : j < n
    · have hji : (j : Int) < n := by omega
      obtain ⟨h0, h1⟩ := HAX.out j hlt
      obtain ⟨bx, ox, hAe, x0⟩ := hxx.at_ hlt
      subst hAe
      obtain ⟨i, hi⟩ : ∃ i : Nat, ax j = i := ⟨(ax j).toNat, by omega⟩
      have hv := HVA.out j hlt
      rw [hi, Int.toNat_natCast] at hv
      rw [hi] at x0 h0 h1
      clear hi
      obtain ⟨bv, ov, hVe, v0⟩ := Row1.at_ hrr.v (k := i) (by omega)
      have c8 := hrr.cell8
      rw [hVe] at c8
      rw [hv] at v0
      clear hv hVe
      by_cases h3 : j < 3
      · have hfa := hA.thaw j
        have hca := hA.cell h3
        have h3i : (j : Int) < 3 := by omega
        go_wp2_with fail
        go_roundw
        case rel =>
          refine ⟨j + 1, by omega, by go_num, hA.set (fun q _ hq => ?_) ?_, hb.setCell (p := ⟨w1.heap.size, j, none⟩) (Nat.le_refl _) _⟩
          · by_cases hqj : q < j
            · simp [hqj, Nat.lt_succ_of_lt hqj]
            · simp [hqj, show ¬ q < j + 1 by omega]
          · simp
        case measure => simp [intOf]; omega
      · have h3i : ¬ (j : Int) < 3 := by omega
        go_wp2_with fail
        go_roundw
        case rel =>
          refine ⟨j + 1, by omega, by go_num, hA.congr (fun q hq => ?_), hb⟩
          simp [show q < j by omega, show q < j + 1 by omega]
        case measure => simp [intOf]; omega
    · obtain rfl : j = n := by omega
      have hAa : Arr wr w1.heap.size 63 3 (fun q => .int .u64 (a q)) := hA.congr (fun q hq => by
        by_cases hqj : q < j
        · simp [hqj]
        · simp [hqj, HZ.out q (by omega)])
      have c0 : wr.cell? ⟨w1.heap.size, 0, none⟩ = some (.int .u64 (a 0)) := hAa.cell (by omega)
      have c1 : wr.cell? ⟨w1.heap.size, 1, none⟩ = some (.int .u64 (a 1)) := hAa.cell (by omega)
      have c2 : wr.cell? ⟨w1.heap.size, 2, none⟩ = some (.int .u64 (a 2)) := hAa.cell (by omega)
      have HBF := Lib.hid (HB1.out.trans (hb.mono HB1.out.size))
      clear hA hAa hb hx1 hr1
      have hK := HK.out
      subst hK
      obtain ⟨u, rfl⟩ : ∃ u : Nat, U = u := ⟨U.toNat, by omega⟩
      rw [Int.toNat_natCast] at hms
      have hun' : u < g.nm := by omega
      obtain ⟨bi, oi, hIe, z0⟩ := Row1.at_ hrr.mems.row hun'
      have c7 := hrr.cell7
      rw [hIe] at c7
      clear hIe
      obtain ⟨S, hS⟩ : ∃ S : Nat, g.MS u = S := ⟨(g.MS u).toNat, by omega⟩
      have hSt : (g.MS u).toNat = S := by omega
      rw [hSt] at z0
      rw [hS] at hms
      obtain ⟨x, hx0⟩ : ∃ x : Nat, a 0 = x := ⟨(a 0).toNat, by omega⟩
      rw [hx0] at c0 ha0
      by_cases hxs : x < S
      · have hrow := hrr.mems.mem u hun'
        rw [hSt] at hrow
        obtain ⟨bm, om, hBe, s0⟩ := Row1.at_ hrow hxs
        injection hBe with hBe; injection hBe with hb1 hb2 _; subst hb1; subst hb2
        rw [Nat.zero_add] at s0
        have hxi : (x : Int) < S := by omega
        have hd : decide ((x : Int) < IntKind.u64.wrap (S : Int)) = true := by rw [wraps_u64 _ (by omega) (by omega)]; simpa using hxs
        have HV : Hid (M u x = z) := Lib.hid (by rw [HK2.out, Int.toNat_natCast, hx0, hS, if_pos (by omega), Int.toNat_natCast])
        clear hx0 hS hSt
        go_wp2_with fail
        go_quiet (fail)
        go_wp2_with fail
        go_quiet (fail)
        go_wp2_with fail
        go_ret
        exact ⟨congrArg (fun x => Ending.returned (Value.int .u64 x)) HV.out, below_drewN (below_drewN HBF.out _) _⟩
      · have hd : decide ((x : Int) < IntKind.u64.wrap (S : Int)) = false := by rw [wraps_u64 _ (by omega) (by omega)]; simpa using hxs
        have hxi : ¬ (x : Int) < S := by omega
        have HV : Hid (0 = z) := Lib.hid (by rw [HK2.out, Int.toNat_natCast, hx0, hS, if_neg (by omega)])
        clear hx0 hS hSt
        go_wp2_with fail
        go_quiet (fail)
        go_wp2_with fail
        go_ret
        exact ⟨congrArg (fun x => Ending.returned (Value.int .u64 x)) HV.out, below_drewN HBF.out _⟩

theorem node_any (g : Nl) (p : Pl) (L : Rn) (R : Nat → Int) (M : Nat → Nat → Int) (V : Nat → Int) (Ia : Option Addr) (ni ci : Nat) (I : Nat → Int) (k : Nat) (w : World) (hr : L.At g p w R M V) (hi : Words w Ia ni I) (hfit : g.Fits) (hok : g.Ok) (hk : k < g.nn)
    (hV : ∀ j, j < k → FitsW (g.W j) (V j)) (hni : ni ≤ 1000000000000000) (hIb : ∀ j, j < ni → 0 ≤ I j ∧ I j ≤ 18446744073709551615) :
    Calls Try.prog 22 #[.pointer (some ⟨L.b, 0, none⟩), .agg #[.int .i64 (g.K k), .int .i64 (g.W k), .int .u64 (g.U k), .slice (p.TA k) (g.al k) (p.TC k)], .slice Ia ni ci] w fun e w' => e = .returned (.int .u64 (g.node R M ni I k V)) ∧ Below w.heap.size w w' := by
  have hn := hok.nodes k hk
  have hw : 1 ≤ g.W k ∧ g.W k ≤ 32 := by have h := hn.wide; simp only [wideB, Bool.and_eq_true, decide_eq_true_eq] at h; exact h
  obtain ⟨m, hm⟩ : ∃ m : Nat, g.W k = m := ⟨(g.W k).toNat, by omega⟩
  have hx := hr.net.nodes.2 k hk
  have hax : ∀ j, j < g.al k → 0 ≤ g.a k j ∧ g.a k j < g.nn := fun j hj => by have := hn.args j hj; omega
  have hva : ∀ j, j < g.al k → V (g.a k j).toNat = g.arg k V j := fun j hj => by unfold Nl.arg; rw [if_pos hj]
  have hz : ∀ j, g.al k ≤ j → g.arg k V j = 0 := fun j hj => by unfold Nl.arg; rw [if_neg (by omega)]
  have hu := hfit.u k hk
  have hal := hfit.al k hk
  unfold Nl.node
  rw [hm] at hw ⊢
  by_cases h30 : g.K k = 30
  · rw [if_pos h30, Int.toNat_natCast]
    exact nodeIn (g.K k) m (g.U k) (p.TA k) (g.al k) (p.TC k) (g.a k) (g.arg k V) g p L R M V Ia ni ci I w hx hr hi hax hva hz hal (by omega) hu.1 hu.2 h30 hni hIb
  rw [if_neg h30]
  by_cases h31 : g.K k = 31
  · rw [if_pos h31]
    exact nodeReg (g.K k) m (g.U k) (p.TA k) (g.al k) (p.TC k) (g.a k) (g.arg k V) g p L R M V Ia ni ci I w hx hr hi hax hva hz hal (by omega) hu.1 hu.2 h31 (hok.reg hk h31).1
  rw [if_neg h31]
  by_cases h32 : g.K k = 32
  · rw [if_pos h32]
    obtain ⟨⟨h1, _⟩, h3⟩ := hok.read hk h32
    have hms := (hok.mems (g.U k).toNat (by omega)).2
    have ha := hok.args hk hV 0 (by omega)
    exact nodeRead (g.K k) m (g.U k) (p.TA k) (g.al k) (p.TC k) (g.a k) (g.arg k V) g p L R M V Ia ni ci I w hx hr hi hax hva hz hal (by omega) hu.1 hu.2 h32 h1 hms (fits32 ha.1 ha.2) _ rfl
  rw [if_neg h32]
  have ho := hok.opfit hfit hk hV h30 h31 h32
  rw [hm] at ho
  exact nodeOp (g.K k) m (g.U k) (p.TA k) (g.al k) (p.TC k) (g.a k) (g.arg k V) (g.aw k) g p L R M V Ia ni ci I w hx hr hi hax hva hz hal (by omega) hu.1 hu.2 ho (fun j _ => rfl)
end Go.Proofs.Ytmbcfondglhiiaa
