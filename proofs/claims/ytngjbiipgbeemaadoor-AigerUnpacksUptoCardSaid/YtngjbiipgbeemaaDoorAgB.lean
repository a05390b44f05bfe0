/- Pieces between blanks, as strings.Split cuts them. Plain Lean. No condition. -/
import Derived.Test.YtngjbiipgbeemaaDoorAgP
import Derived.Test.YtngjbiipgbeemaaDoorBst
namespace Go.Proofs.YtngjbiipgbeemaaDoor
open Go.RowKit

def bl : ByteArray := ⟨#[32]⟩
theorem bl_size : bl.size = 1 := rfl
theorem splitB_spl : ∀ (k : Nat) (l : List UInt8), Lib.countB (bstr l) bl = k → Lib.splitB bl 0 k (bstr l) = (splA l []).map bstr
  | 0, l, h => by
    rcases ix_one 32 l with ⟨h1, h2⟩ | ⟨l1, l2, rfl, h2, h3⟩
    · rw [splA_none l [] h2]; rfl
    · have := Lib.countB_hit (bstr (l1 ++ 32 :: l2)) bl l1.length (by rw [bl_size]; omega) h3
      omega
  | k + 1, l, h => by
    rcases ix_one 32 l with ⟨h1, h2⟩ | ⟨l1, l2, rfl, h2, h3⟩
    · have := Lib.countB_miss (bstr l) bl h1
      omega
    · have hc := Lib.countB_hit (bstr (l1 ++ 32 :: l2)) bl l1.length (by rw [bl_size]; omega) h3
      have h3' : Lib.indexB (bstr (l1 ++ 32 :: l2)) bl = (l1.length : Int) := h3
      have he : (bstr (l1 ++ 32 :: l2)).extract (l1.length + bl.size) (bstr (l1 ++ 32 :: l2)).size = bstr l2 := by
        rw [bstr_size, bstr_drop, bl_size, List.drop_append, List.drop_eq_nil_of_le (by omega)]
        simp
      rw [he] at hc
      have ih := splitB_spl k l2 (by omega)
      unfold Lib.splitB
      have e1 : ((l1.length : Int)).toNat = l1.length := by omega
      rw [h3', if_neg (by simp), e1, he, ih, splA_hit l1 l2 [] h2]
      rw [Nat.add_zero, bstr_take, List.take_left]
      simp
theorem split_spl (l : List UInt8) : Lib.splitB bl 0 (Lib.countB (bstr l) bl) (bstr l) = (splA l []).map bstr := splitB_spl _ l rfl
theorem count_spl (l : List UInt8) : Lib.countB (bstr l) bl + 1 = (splA l []).length := by
  have h := Lib.splitB_all bl (by rw [bl_size]; omega) 0 _ (bstr l) rfl
  rw [split_spl, List.length_map] at h
  exact h.symm
end Go.Proofs.YtngjbiipgbeemaaDoor
