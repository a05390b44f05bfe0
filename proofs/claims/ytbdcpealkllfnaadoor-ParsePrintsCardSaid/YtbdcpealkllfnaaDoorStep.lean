/- Rows of elements of two cells that grow; append inside a statement that draws its order. No condition. -/
import Derived.Test.YtbdcpealkllfnaaDoorOwn
import Derived.Deep.RegionHeld3
namespace Go.Proofs.YtbdcpealkllfnaaDoor
open Go.RowKit Go.Deep

/-- the cells of n elements of two cells each -/
def flat2 (f : Nat → Nat → Value) : Nat → List Value
 | 0 => []
 | n + 1 => flat2 f n ++ [f n 0, f n 1]
theorem flat2_len (f : Nat → Nat → Value) : ∀ n, (flat2 f n).length = n * 2
 | 0 => rfl
 | n + 1 => by simp [flat2, flat2_len f n, Nat.succ_mul]
theorem flat2_get (f : Nat → Nat → Value) : ∀ n k, k < n → ∀ j, j < 2 → (flat2 f n)[k * 2 + j]? = some (f k j)
 | n + 1, k, hk, j, hj => by
  have hl := flat2_len f n
  simp only [flat2]
  by_cases h : k < n
  ·
   rw [List.getElem?_append_left (by omega)]; exact flat2_get f n k h j hj
  ·
   obtain rfl : k = n := by omega
   rw [List.getElem?_append_right (by omega)]
   obtain rfl | rfl : j = 0 ∨ j = 1 := by omega
   ·
    simp [hl]
   ·
    simp [hl]
theorem flat2_congr {f f' : Nat → Nat → Value} : ∀ n, (∀ k, k < n → ∀ j, j < 2 → f k j = f' k j) → flat2 f n = flat2 f' n
 | 0, _ => rfl
 | n + 1, h => by simp only [flat2]; rw [flat2_congr n (fun k hk => h k (by omega)), h n (by omega) 0 (by omega), h n (by omega) 1 (by omega)]

theorem own_rows2 {w : World} {base : Nat} {e : TypeId} {A : Option Addr} {n c : Nat} {f : Nat → Nat → Value} (h : w.ownsRow base e 2 (.slice A n c) n (flat2 f n)) : RowT (fun b => base ≤ b) w e 2 A n f := fun hn => by
 obtain ⟨b, off, cur, rfl, hp, hh, hc⟩ := own_rowT h hn
 refine ⟨b, off, cur, rfl, hp.1, hh, fun k hk j hj => ?_⟩
 rw [hc k hk j hj]
 show some ((flat2 f n).getD (k * 2 + j) undef) = _
 rw [List.getD_eq_getElem?_getD, flat2_get f n k hk j hj]; rfl

/-- a row of two cells an element, as what is appended -/
theorem src_row2 {w : World} {A : Option Addr} {n : Nat} {f : Nat → Nat → Value} (h : RowS w 2 A n f) (hu : ∀ k, k < n → ∀ j, j < 2 → (f k j).oneCell' = true) : Src w 2 A n (flat2 f n) := by
 have hg : ∀ i (u : Value), (flat2 f n)[i]? = some u → i / 2 < n ∧ u = f (i / 2) (i % 2) := fun i u hi => by
  have hlt : i < n * 2 := by
   rcases Nat.lt_or_ge i (n * 2) with h | h
   ·
    exact h
   ·
    rw [List.getElem?_eq_none (by rw [flat2_len]; exact h)] at hi; cases hi
  have h2 : i / 2 < n := by omega
  have := flat2_get f n (i / 2) h2 (i % 2) (by omega)
  rw [show i / 2 * 2 + i % 2 = i by omega, hi] at this
  exact ⟨h2, Option.some.inj this⟩
 refine ⟨flat2_len f n, fun u hx => ?_, fun hn => ?_⟩
 ·
  obtain ⟨i, hi, e⟩ := List.mem_iff_getElem.1 hx
  obtain ⟨h1, rfl⟩ := hg i u (by rw [List.getElem?_eq_getElem hi, e])
  exact hu _ h1 _ (by omega)
 ·
  obtain ⟨b, off, rfl, hc⟩ := h hn
  refine ⟨_, rfl, fun j u hj => ?_⟩
  obtain ⟨h1, rfl⟩ := hg j u hj
  rw [add_eq, ← hc (j / 2) h1 (j % 2) (by omega)]
  congr 2; omega

/-- 'append(s, x...)' at a step of a statement that draws its order -/
theorem step_append {P : Program} {w : World} {ops : Array Oper} {o : Oper} {a : Act} {K : Act → World → Prop} {Q : Exit → Act → World → Prop} {E : Prop} (hgd : o.guard = none) (s x : Operand) (t : TypeId)
  (ho : o.op = .call { callee := .builtin .append, args := #[s, x], argTypes := #[t, t] })
  {e : TypeId} {size bytes : Nat} (hE : Elem P t e size bytes) (base : Nat) (A : Option Addr) (n c : Nat) (xs : List Value) (hs : a.eval s = .slice A n c) (hown : w.ownsRow base e size (.slice A n c) n xs)
  (D : Option Addr) (m d : Nat) (news : List Value) (hx : a.eval x = .slice D m d) (hsrc : Src w size D m news)
  (hbytes : (n + m) * bytes ≤ 140737488355328) (hbase : base ≤ w.heap.size)
  (h : ∀ A' c' w', w'.ownsRow base e size (.slice A' (n + m) c') (n + m) (xs ++ news) → Only (blockOf A) w w' → (∀ k, blockOf A' k → blockOf A k ∨ k = w.heap.size) → K (a.put o.dst (.slice A' (n + m) c')) w') :
  if Region.wanted o (yielded ops a.tmps) = true then Oper.wp P o a w K Q else E := by
 have hw : Region.wanted o (yielded ops a.tmps) = true := by simp [Region.wanted, hgd]
 rw [if_pos hw]
 obtain ⟨i, z, ht, hi, hz, hsz, hby, hzs, hpos, hbpos⟩ := hE
 have h63 : n + m ≤ maxLen := by
  have := Nat.le_mul_of_pos_right (n + m) hbpos
  simp only [maxLen]; omega
 obtain ⟨hl, h1, hc⟩ := hsrc
 have hrun : ∃ v' w', (Builtin.append_ #[t, t] o.type #[.slice A n c, .slice D m d]).run P w = .ok v' w' ∧ w'.ownsRow base e size v' (n + m) (xs ++ news) ∧ w.grownBy w' (Value.slice A n c).ownBlock ∧
   (v'.ownBlock = (Value.slice A n c).ownBlock ∨ v'.ownBlock = some w.heap.size) := by
  cases D with
  | none =>
   have hm : m = 0 := by
    rcases Nat.eq_zero_or_pos m with h0 | h0
    ·
     exact h0
    ·
     obtain ⟨ad, h, _⟩ := hc h0
     cases h
   subst hm
   obtain rfl : news = [] := List.eq_nil_of_length_eq_zero (by simpa using hl)
   refine ⟨.slice A n c, w, ?_, by simpa using hown, ⟨rfl, rfl, rfl, Nat.le_refl _, fun _ _ _ => rfl⟩, .inl rfl⟩
   rcases hown.2 with ⟨hv, rfl⟩ | ⟨g, cap, cur, hv, _, _, hnc, _⟩
   ·
    injection hv with e1 e2 e3
    subst e1; subst e3
    simp [Builtin.append_, run_underlying ht, sizeOf, typeInfo, hi, Builtin.lenOf, Builtin.firstCells]
   ·
    injection hv with e1 e2 e3
    subst e1; subst e3
    simp [Builtin.append_, run_underlying ht, sizeOf, typeInfo, hi, Builtin.lenOf, Builtin.firstCells, hnc, storeCells]
  | some ad =>
   have hcells : ∀ j u, news[j]? = some u → w.cell? (ad.add j) = some u := by
    intro j u hu
    rcases Nat.eq_zero_or_pos m with h0 | h0
    ·
     subst h0
     obtain rfl : news = [] := List.eq_nil_of_length_eq_zero (by simpa using hl)
     simp at hu
    ·
     obtain ⟨ad', h, hc'⟩ := hc h0
     injection h with h
     subst h
     exact hc' j u hu
   obtain ⟨v', w', hr, h2, h3, _, h5⟩ := run_append_own_at (P := P) w base t o.type e i z size bytes ht hi hz hsz hby hzs hpos (.slice A n c) n xs hown ad m d news hl hcells h1 h63 hbytes hbase
   exact ⟨v', w', hr, h2, h3, h5⟩
 obtain ⟨v', w', hr, h2, h3, h4⟩ := hrun
 obtain ⟨A', c', rfl, _⟩ := own_slice h2
 unfold Oper.wp execOp
 simp only [ho, resolve, invoke, builtin, Sem.run_bind, Sem.run_pure, Result.andThen_ok, List.map_toArray, List.map_cons, List.map_nil, hs, hx, hr]
 refine (h A' c' w' h2 (Only.grown h3) fun k hk => ?_)
 obtain ⟨a', rfl, rfl⟩ := hk
 rcases h4 with h4 | h4
 ·
  left
  cases A with
  | none => simp [Value.ownBlock] at h4
  | some a0 => exact ⟨a0, rfl, by simpa [Value.ownBlock] using h4⟩
 ·
  right
  simpa [Value.ownBlock] using h4

/-- rows of unlike element types lie in unlike blocks -/
theorem own_apart {w : World} {base base' : Nat} {e e' : TypeId} {s s' n n' c c' : Nat} {A A' : Option Addr} {xs xs' : List Value} (h : w.ownsRow base e s (.slice A n c) n xs) (h' : w.ownsRow base' e' s' (.slice A' n' c') n' xs') (hne : e ≠ e') :
  ∀ k, blockOf A k → ¬ blockOf A' k := by
 intro k ⟨a, ha, hk⟩
 subst ha; subst hk
 rcases h.2 with ⟨h0, _⟩ | ⟨g, cap, cur, hv, _, hh, _⟩
 ·
  cases h0
 ·
  injection hv with e1
  injection e1 with e1
  subst e1
  exact own_type h' hne _ cur hh

theorem Src.drew {w : World} {size m : Nat} {A : Option Addr} {xs : List Value} (h : Src w size A m xs) : Src w.drew size A m xs := h
theorem Row1.pair {w : World} {A : Option Addr} {n k m : Nat} {f : Nat → Value} (h : Row1 w A n f) (hk : k < n) (hm : m < n) :
  ∃ b off, A = some ⟨b, off, none⟩ ∧ w.cell? ⟨b, off + k, none⟩ = some (f k) ∧ w.cell? ⟨b, off + m, none⟩ = some (f m) := by
 obtain ⟨b, off, e, hc⟩ := h (by omega)
 exact ⟨b, off, e, hc k hk, hc m hm⟩
theorem Only.grew {S : Nat → Prop} {w w1 w2 : World} {A : Option Addr} (h : Only S w w1) (k : Only (blockOf A) w1 w2) (hA : ∀ k, blockOf A k → w.heap.size ≤ k) : Only S w w2 :=
 h.then_ k (fun i hi c => absurd (hA i c) (by omega))

end Go.Proofs.YtbdcpealkllfnaaDoor
