/- Rows of elements of several cells as they grow; append inside a drawn region (out of DrQ). No condition. -/
import Derived.Test.YtbdcpealkllfnaaDoorOwn
import Derived.Test.YtbdcpealkllfnaaDoorDrawn2
namespace Go.Proofs.YtbdcpealkllfnaaDoor
open Go.RowKit

/-! ### Rows of elements of s cells -/
def flatF (s : Nat) (f : Nat → Nat → Value) : Nat → List Value
 | 0 => []
 | n + 1 => flatF s f n ++ (List.range s).map (f n)
theorem flatF_len (s : Nat) (f : Nat → Nat → Value) : ∀ n, (flatF s f n).length = n * s
 | 0 => by simp [flatF]
 | n + 1 => by simp only [flatF, List.length_append, flatF_len s f n, List.length_map, List.length_range, Nat.succ_mul]
theorem flatF_get (s : Nat) (f : Nat → Nat → Value) : ∀ n k, k < n → ∀ j, j < s → (flatF s f n)[k * s + j]? = some (f k j)
 | n + 1, k, hk, j, hj => by
  simp only [flatF]
  by_cases e : k = n
  ·
   subst e
   rw [List.getElem?_append_right (by rw [flatF_len]; omega), flatF_len, Nat.add_sub_cancel_left]
   simp [hj]
  ·
   have hlt : k * s + j < n * s := Nat.lt_of_lt_of_le (show k * s + j < (k + 1) * s by rw [Nat.succ_mul]; omega) (Nat.mul_le_mul_right _ (by omega))
   rw [List.getElem?_append_left (by rw [flatF_len]; exact hlt)]
   exact flatF_get s f n k (by omega) j hj
theorem flatF_congr {s : Nat} {f g : Nat → Nat → Value} : ∀ n, (∀ k, k < n → ∀ j, j < s → f k j = g k j) → flatF s f n = flatF s g n
 | 0, _ => rfl
 | n + 1, h => by
  simp only [flatF]
  rw [flatF_congr n (fun k hk => h k (by omega)), List.map_congr_left (fun j hj => h n (by omega) j (List.mem_range.1 hj))]
theorem own_flat {w : World} {base s n c : Nat} {e : TypeId} {A : Option Addr} {f : Nat → Nat → Value} (h : w.ownsRow base e s (.slice A n c) n (flatF s f n)) : RowT (fun b => base ≤ b) w e s A n f := fun hn => by
 obtain ⟨b, off, cur, eA, ⟨hb, _⟩, hh, hc⟩ := own_rowT h hn
 refine ⟨b, off, cur, eA, hb, hh, fun k hk j hj => ?_⟩
 rw [hc k hk j hj]
 refine congrArg some ?_
 show (flatF s f n).getD (k * s + j) undef = _
 rw [List.getD_eq_getElem?_getD, flatF_get s f n k hk j hj]; rfl
theorem run_append_s {t e : TypeId} {size bytes : Nat} (hE : Elem Tryd.prog t e size bytes) {w : World} {base n c : Nat} {A : Option Addr} {xs : List Value} (ty : TypeId) (hown : w.ownsRow base e size (.slice A n c) n xs) (ad : Addr) (d : Nat) (news : List Value) (hl : news.length = size)
  (hv : ∀ j u, news[j]? = some u → w.cell? (ad.add j) = some u) (h1 : ∀ u ∈ news, u.oneCell' = true) (hb : (n + 1) * bytes ≤ 140737488355328) (hbase : base ≤ w.heap.size) :
  ∃ A' c' w', (Builtin.append_ #[t, t] ty #[.slice A n c, .slice (some ad) 1 d]).run Tryd.prog w = .ok (.slice A' (n + 1) c') w' ∧ w'.ownsRow base e size (.slice A' (n + 1) c') (n + 1) (xs ++ news) ∧ Only (blockOf A) w w' := by
 obtain ⟨i, z, ht, hi, hz, hsz, hby, hzs, hpos, hbpos⟩ := hE
 have h63 : n + 1 ≤ maxLen := by
  have := Nat.le_mul_of_pos_right (n + 1) hbpos
  simp only [maxLen]; omega
 obtain ⟨v', w', hr, h2, h3, _, h5⟩ := run_append_own_at (P := Tryd.prog) w base t ty e i z size bytes ht hi hz hsz hby hzs hpos (.slice A n c) n xs hown ad 1 d news (by rw [hl, Nat.one_mul]) hv h1 h63 hb hbase
 obtain ⟨A', c', rfl, _⟩ := own_slice h2
 exact ⟨A', c', w', hr, h2, Only.grown h3⟩
theorem wpZ_append1 {P : Program} {o : Oper} {a : Act} {w w' : World} {K : Act → World → Prop} {Q : Exit → Act → World → Prop} (s x : Operand) (t : TypeId)
  (ho : o.op = .call { callee := .builtin .append, args := #[s, x], argTypes := #[t, t] }) {v vs vx : Value} (hs : a.eval s = vs) (hx : a.eval x = vx)
  (hr : (Builtin.append_ #[t, t] o.type #[vs, vx]).run P w = .ok v w') (h : K (a.put o.dst v) w') : Oper.wp P o a w K Q := by
 unfold Oper.wp execOp
 simp only [ho, resolve, invoke, builtin, Sem.run_bind, Sem.run_pure, Result.andThen_ok, List.map_toArray, List.map_cons, List.map_nil, hs, hx, hr]
 exact h
end Go.Proofs.YtbdcpealkllfnaaDoor
