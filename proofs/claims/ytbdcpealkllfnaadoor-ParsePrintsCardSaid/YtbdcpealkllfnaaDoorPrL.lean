/- The law ParsePrints, walked: what a text has is printed as the reference prints it. Conditions: the strings that come in are within reach; the tables read as laid. -/
import Derived.Test.YtbdcpealkllfnaaDoorPfP
namespace Go.Proofs.YtbdcpealkllfnaaDoor
open Go.RowKit Go.Deep

theorem Tabs.up {w w1 : World} (h : Tabs w.heap.size w) (k : Only (fun _ => False) w w1) : Tabs w1.heap.size w1 where
 lt := Nat.lt_of_lt_of_le h.lt k.size
 sg := fun i hi => k.cell (h.sg i hi) (fun h => h)
 pw := fun w' hb => h.pw w' (Below.trans (k.all (fun _ _ h => h)) (hb.mono k.size))
def OneO (w : World) (e : Ending) (w' : World) : Prop := ∃ s : ByteArray, e = .returned (.string s) ∧ s.size ≤ 1000 ∧ w = w'
set_option maxRecDepth 100000 in
theorem one_any (w : World) : Calls Tryd.prog 5 #[] w (OneO w) := by
 go_enter Tryd.func5, Tryd.ntmps5
 go_wp2
 go_ret
 exact ⟨_, rfl, by decide, rfl⟩
def PrdO (w : World) (e : Ending) (w' : World) : Prop := e = .returned (.bool true) ∧ Only (fun _ => False) w w'
set_option maxRecDepth 100000 in
set_option maxHeartbeats 4000000 in
theorem printed_any (s : ByteArray) (w : World) (hm : s.size ≤ 9223372036854775807) (hT : Tabs w.heap.size w) :
  Calls Tryd.prog 4 #[.string s] w (PrdO w) := by
 have HT := Lib.hid hT
 clear hT
 go_enter Tryd.func4, Tryd.ntmps4
 go_wp2_with fail
 refine (parse_any s w hm).mono ?_
 rintro e w1 ⟨A, n, c, code, at_, rfl, hb, hok⟩
 have HO1 := Lib.hid (Below.only hb)
 have HOK := Lib.hid hok
 clear hb hok hm
 go_wp2_with (refine wpl_box3 rfl rfl rfl 26 rfl 4 rfl (.tmp 9) rfl (.tmp 10) rfl rfl Tryd.zeroValue26 (cells := #[.int .i64 (code : Int), .int .i64 (at_ : Int)]) (.slice A n c) (fun _ => rfl) (fun _ => rfl) (fun _ => rfl) stF rfl rfl (ones rfl) ?_)
 refine ⟨fun w2 b4 HK4 ho2 ha4 hb4 => ?_⟩
 have HO2 := Lib.hid (HO1.out.trans ho2.out)
 have HO12 := ho2
 clear ho2
 have c0 : w2.cell? ⟨b4, 0, none⟩ = some (.int .i64 (code : Int)) := by rw [cell_of_row w2 b4 0 _ _ _ HK4.out]; rfl
 by_cases hc : code = 0
 ·
  obtain ⟨T, hl, hn, htl⟩ := HOK.out hc
  obtain ⟨d, hr⟩ := Rw.of hl (by omega)
  have hr2 := hr.only HO12.out (fun _ _ h => h) (fun _ _ h => FM.only HO12.out (fun _ _ h => h) h)
  have hr3 : Rw 40 5 w2 (Lo w2.heap.size) A n (fun cs t => PrM d w2 (Lo w2.heap.size) cs t) T := hr2.mono (fun b hb _ => hb) (fun _ _ h => FM.mono (fun b hb _ => hb) h)
  have HR := Lib.hid hr3
  have hlen : (catL T n).length ≤ BT := by unfold BT; unfold KK at htl; omega
  have hlen2 : (catL T n).length ≤ BP := by unfold BP; unfold KK at htl; omega
  have HT2 := Lib.hid (HT.out.up HO2.out)
  obtain ⟨tx, htx⟩ : ∃ x, x = catL T n := ⟨_, rfl⟩
  have HTX := Lib.hid htx
  have HL := Lib.hid hlen
  have HL2 := Lib.hid hlen2
  subst hc
  clear hl hn htl hr hr2 hr3 hlen hlen2 htx HOK
  go_wp2_with fail
  refine (printP_any HT2.out HR.out HL2.out).mono ?_
  rintro e w3 ⟨rfl, h3⟩
  have HO3 := Lib.hid h3
  clear h3
  rw [← HTX.out]
  go_wp2_with fail
  refine (textR_any (HR.out.only HO3.out (fun _ _ h => h) (fun _ _ h => FM.only HO3.out (fun _ _ h => h) h)) HL.out).mono ?_
  rintro e w4 ⟨rfl, h4⟩
  have HO4 := Lib.hid h4
  clear h4
  rw [← HTX.out]
  go_wp2_with fail
  go_ret
  exact ⟨by simp, (HO2.out.trans HO3.out).trans HO4.out⟩
 ·
  have hci : ((code : Int) != 0) = true := by rw [bne_iff_ne]; omega
  have hci2 : ((code : Int) == 0) = false := by rw [beq_eq_false_iff_ne]; omega
  clear hc HOK
  go_wp2_with fail
  go_ret
  exact ⟨rfl, HO2.out⟩
set_option maxRecDepth 100000 in
set_option maxHeartbeats 4000000 in
theorem parsePrints_walk (s : ByteArray) (w : World) (hm : s.size ≤ 9223372036854775807) (hT : Tabs w.heap.size w) :
  Calls Tryd.prog 3 #[.string s] w fun e w' => e = .returned (.bool true) ∧ Below w.heap.size w w' := by
 have HT := Lib.hid hT
 have HM := Lib.hid hm
 clear hT hm
 go_enter Tryd.func3, Tryd.ntmps3
 go_wp2_with fail
 refine (one_any w).mono ?_
 rintro e w1 ⟨s1, rfl, hs1, hw1⟩
 obtain rfl := hw1
 go_wp2_with fail
 refine (printed_any s1 w (by omega) HT.out).mono ?_
 rintro e w2 ⟨rfl, h2⟩
 have HO2 := Lib.hid h2
 clear h2
 go_wp2_with fail
 refine (printed_any s w2 HM.out (HT.out.up HO2.out)).mono ?_
 rintro e w3 ⟨rfl, h3⟩
 have HO3 := Lib.hid h3
 clear h3
 go_wp2_with fail
 go_ret
 exact ⟨rfl, (HO2.out.trans HO3.out).all (fun _ _ h => h)⟩
end Go.Proofs.YtbdcpealkllfnaaDoor
