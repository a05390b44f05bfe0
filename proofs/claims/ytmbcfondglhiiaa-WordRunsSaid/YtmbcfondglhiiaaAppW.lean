/- Append to a slice of the call's own, with a bound towards the machine's own. No condition. -/
import Derived.Test.YtmbcfondglhiiaaStep
import Derived.Deep.DeepAppendWide
namespace Go.Proofs.Ytmbcfondglhiiaa
open Go.RowKit Go.Deep

theorem wp_append_wide {P : Program} {w : World} {ops : Array Oper} {rest : List Oper} {o : Oper} {a : Act} {Q : Exit → Act → World → Prop} (hgd : o.guard = none) (s x : Operand) (t : TypeId)
    (ho : o.op = .call { callee := .builtin .append, args := #[s, x], argTypes := #[t, t] })
    {e : TypeId} {size bytes : Nat} (hE : Elem P t e size bytes) (base : Nat) (A : Option Addr) (n c : Nat) (xs : List Value) (hs : a.eval s = .slice A n c) (hown : w.ownsRow base e size (.slice A n c) n xs)
    (D : Option Addr) (m d : Nat) (news : List Value) (hx : a.eval x = .slice D m d) (hsrc : Src w size D m news) (hm : 0 < m) (h63 : n + m ≤ maxLen)
    (hbytes : ((n + m) + (n + m) / 4 + 192) * bytes ≤ 281474976710656) (hbase : base ≤ w.heap.size)
    (h : ∀ A' c' w', w'.ownsRow base e size (.slice A' (n + m) c') (n + m) (xs ++ news) → Only (blockOf A) w w' → wpList P ops Q rest (a.put o.dst (.slice A' (n + m) c')) w') :
    wpList P ops Q (o :: rest) a w := by
  obtain ⟨i, z, ht, hi, hz, hsz, hby, hzs, hpos, hbpos⟩ := hE
  obtain ⟨hl, h1, hc⟩ := hsrc
  obtain ⟨ad, rfl, hc'⟩ := hc hm
  refine wpList_append_own_wide w hgd s x t ho base e i z size bytes ht hi hz hsz hby hzs hpos _ n xs hs hown ad m d news hx hl hc' h1 h63 hbytes hbase ?_
  intro v' w' h2 h3 _
  obtain ⟨A', c', rfl, _⟩ := own_slice h2
  exact h A' c' w' h2 (Only.grown h3)

theorem step_append_wide {P : Program} {w : World} {ops : Array Oper} {o : Oper} {a : Act} {K : Act → World → Prop} {Q : Exit → Act → World → Prop} {E : Prop} (hgd : o.guard = none) (s x : Operand) (t : TypeId)
    (ho : o.op = .call { callee := .builtin .append, args := #[s, x], argTypes := #[t, t] })
    {e : TypeId} {size bytes : Nat} (hE : Elem P t e size bytes) (base : Nat) (A : Option Addr) (n c : Nat) (xs : List Value) (hs : a.eval s = .slice A n c) (hown : w.ownsRow base e size (.slice A n c) n xs)
    (D : Option Addr) (m d : Nat) (news : List Value) (hx : a.eval x = .slice D m d) (hsrc : Src w size D m news) (hm : 0 < m) (h63 : n + m ≤ maxLen)
    (hbytes : ((n + m) + (n + m) / 4 + 192) * bytes ≤ 281474976710656) (hbase : base ≤ w.heap.size)
    (h : ∀ A' c' w', w'.ownsRow base e size (.slice A' (n + m) c') (n + m) (xs ++ news) → Only (blockOf A) w w' → K (a.put o.dst (.slice A' (n + m) c')) w') :
    if Region.wanted o (yielded ops a.tmps) = true then Oper.wp P o a w K Q else E := by
  have hw : Region.wanted o (yielded ops a.tmps) = true := by simp [Region.wanted, hgd]
  rw [if_pos hw]
  obtain ⟨i, z, ht, hi, hz, hsz, hby, hzs, hpos, hbpos⟩ := hE
  obtain ⟨hl, h1, hc⟩ := hsrc
  obtain ⟨ad, rfl, hc'⟩ := hc hm
  refine wp_append_own_wide w s x t ho base e i z size bytes ht hi hz hsz hby hzs hpos _ n xs hs hown ad m d news hx hl hc' h1 h63 hbytes hbase ?_
  intro v' w' h2 h3 _
  obtain ⟨A', c', rfl, _⟩ := own_slice h2
  exact h A' c' w' h2 (Only.grown h3)
end Go.Proofs.Ytmbcfondglhiiaa
