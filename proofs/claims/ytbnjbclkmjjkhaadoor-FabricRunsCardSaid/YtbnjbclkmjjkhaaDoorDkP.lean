/- What Decode reads, in plain Lean: where a field's bits begin; a configuration whose fields lie in slots apart from each other, written one by one. No condition. -/
import Derived.Test.YtbnjbclkmjjkhaaDoorDkS
import Derived.Test.YtbnjbclkmjjkhaaDoorEnP
namespace Go.Proofs.YtbnjbclkmjjkhaaDoor
open Go.RowKit Go.Shelf

/-- in how many bits a field stands -/
def Cf.wf (c : Cf) : Fi → Nat
  | .bits _ _ => 16
  | .sel i _ _ => (wid (c.src i)).toNat
  | .init _ => 1
  | .rsel _ => (wid (c.src 1)).toNat
  | .out _ => (wid (c.src 1)).toNat
def Cf.wsum (c : Cf) : List Fi → Nat
  | [] => 0
  | x :: l => c.wf x + c.wsum l
theorem Cf.wsum_append (c : Cf) : ∀ a b : List Fi, c.wsum (a ++ b) = c.wsum a + c.wsum b
  | [], b => by simp [Cf.wsum]
  | x :: a, b => by simp only [List.cons_append, Cf.wsum, Cf.wsum_append c a b]; omega
theorem Cf.wsum_snoc (c : Cf) (a : List Fi) (x : Fi) : c.wsum (a ++ [x]) = c.wsum a + c.wf x := by rw [Cf.wsum_append]; simp [Cf.wsum]
theorem Cf.wf_le (c : Cf) (h : ShOk c.sh) (x : Fi) : c.wf x ≤ 16 := by
  have hw : ∀ i, (wid (c.src i)).toNat ≤ 16 := fun i => by
    have := c.src_le h i
    have := wid_le (n := c.src i) (by omega) (by omega)
    omega
  cases x <;> simp only [Cf.wf] <;> first | exact hw _ | omega
theorem Cf.wsum_le (c : Cf) (h : ShOk c.sh) : ∀ l : List Fi, c.wsum l ≤ 16 * l.length
  | [] => by simp [Cf.wsum]
  | x :: l => by
    have h1 := c.wf_le h x
    have h2 := c.wsum_le h l
    simp only [Cf.wsum, List.length_cons]; omega

/-- the fields in front of one -/
def Cf.before (c : Cf) : Fi → List Fi
  | .bits i k => c.allF i ++ colF i k
  | .sel i k j => c.allF i ++ (colF i k ++ (cellF i k).take (j + 1))
  | .init k => c.allF c.nc ++ regF k
  | .rsel k => c.allF c.nc ++ (regF k ++ [.init k])
  | .out k => c.allF c.nc ++ (regF c.nr ++ outF k)
theorem Cf.before_pre (c : Cf) : ∀ x, c.inn x → c.before x ++ [x] <+: c.flds
  | .bits i k, ⟨hi, hk⟩ => by
    refine List.IsPrefix.trans ?_ (c.cell_pre hi hk)
    simp only [Cf.before, List.append_assoc]
    exact app_pre _ (app_pre _ ⟨[.sel i k 0, .sel i k 1, .sel i k 2, .sel i k 3], rfl⟩)
  | .sel i k j, ⟨⟨hi, hk⟩, hj⟩ => by
    refine List.IsPrefix.trans ?_ (c.cell_pre hi hk)
    simp only [Cf.before, List.append_assoc]
    refine app_pre _ (app_pre _ ?_)
    have hj4 : j < 4 := hj
    obtain rfl | rfl | rfl | rfl : j = 0 ∨ j = 1 ∨ j = 2 ∨ j = 3 := by omega
    · exact ⟨[.sel i k 1, .sel i k 2, .sel i k 3], rfl⟩
    · exact ⟨[.sel i k 2, .sel i k 3], rfl⟩
    · exact ⟨[.sel i k 3], rfl⟩
    · exact ⟨[], rfl⟩
  | .init k, hk => by
    refine List.IsPrefix.trans ?_ (c.reg_pre hk)
    simp only [Cf.before, List.append_assoc]
    exact app_pre _ (app_pre _ ⟨[.rsel k], rfl⟩)
  | .rsel k, hk => by
    refine List.IsPrefix.trans ?_ (c.reg_pre hk)
    simp only [Cf.before, List.append_assoc]
    exact app_pre _ (app_pre _ ⟨[], rfl⟩)
  | .out k, hk => by
    refine List.IsPrefix.trans ?_ (c.out_pre hk)
    simp only [Cf.before, List.append_assoc]
    exact List.prefix_refl _

/-! ### No field comes twice -/
theorem mem_col {i : Nat} {x : Fi} : ∀ {n : Nat}, x ∈ colF i n → ∃ k, k < n ∧ (x = .bits i k ∨ ∃ j, x = .sel i k j)
  | 0, h => by simp [colF] at h
  | n + 1, h => by
    simp only [colF, List.mem_append] at h
    rcases h with h | h
    · obtain ⟨k, hk, e⟩ := mem_col h
      exact ⟨k, by omega, e⟩
    · refine ⟨n, by omega, ?_⟩
      simp only [cellF, List.mem_cons, List.not_mem_nil, or_false] at h
      rcases h with h | h | h | h | h
      · exact .inl h
      · exact .inr ⟨_, h⟩
      · exact .inr ⟨_, h⟩
      · exact .inr ⟨_, h⟩
      · exact .inr ⟨_, h⟩
theorem mem_all {c : Cf} {x : Fi} : ∀ {n : Nat}, x ∈ c.allF n → ∃ i k, i < n ∧ (x = .bits i k ∨ ∃ j, x = .sel i k j)
  | 0, h => by simp [Cf.allF] at h
  | n + 1, h => by
    simp only [Cf.allF, List.mem_append] at h
    rcases h with h | h
    · obtain ⟨i, k, hi, e⟩ := mem_all h
      exact ⟨i, k, by omega, e⟩
    · obtain ⟨k, hk, e⟩ := mem_col h
      exact ⟨n, k, by omega, e⟩
theorem mem_reg {x : Fi} : ∀ {n : Nat}, x ∈ regF n → ∃ k, k < n ∧ (x = .init k ∨ x = .rsel k)
  | 0, h => by simp [regF] at h
  | n + 1, h => by
    simp only [regF, List.mem_append, List.mem_cons, List.not_mem_nil, or_false] at h
    rcases h with h | h | h
    · obtain ⟨k, hk, e⟩ := mem_reg h
      exact ⟨k, by omega, e⟩
    · exact ⟨n, by omega, .inl h⟩
    · exact ⟨n, by omega, .inr h⟩
theorem mem_out {x : Fi} : ∀ {n : Nat}, x ∈ outF n → ∃ k, k < n ∧ x = .out k
  | 0, h => by simp [outF] at h
  | n + 1, h => by
    simp only [outF, List.mem_append, List.mem_cons, List.not_mem_nil, or_false] at h
    rcases h with h | h
    · obtain ⟨k, hk, e⟩ := mem_out h
      exact ⟨k, by omega, e⟩
    · exact ⟨n, by omega, h⟩
theorem nodup_app {α : Type} {a b : List α} (ha : a.Nodup) (hb : b.Nodup) (h : ∀ x, x ∈ a → x ∈ b → False) : (a ++ b).Nodup :=
  List.nodup_append.2 ⟨ha, hb, fun x hx _ hy e => h x hx (e ▸ hy)⟩
theorem nodup_cell (i k : Nat) : (cellF i k).Nodup := by simp [cellF]
theorem nodup_col (i : Nat) : ∀ n, (colF i n).Nodup
  | 0 => by simp [colF]
  | n + 1 => nodup_app (nodup_col i n) (nodup_cell i n) fun x h1 h2 => by
    obtain ⟨k, hk, e⟩ := mem_col h1
    simp only [cellF, List.mem_cons, List.not_mem_nil, or_false] at h2
    rcases e with rfl | ⟨j, rfl⟩
    · simp at h2; omega
    · simp at h2; omega
theorem nodup_all (c : Cf) : ∀ n, (c.allF n).Nodup
  | 0 => by simp [Cf.allF]
  | n + 1 => nodup_app (nodup_all c n) (nodup_col n _) fun x h1 h2 => by
    obtain ⟨i, k, hi, e⟩ := mem_all h1
    obtain ⟨k2, hk2, e2⟩ := mem_col h2
    rcases e with rfl | ⟨j, rfl⟩
    · rcases e2 with e2 | ⟨j, e2⟩
      · injection e2; omega
      · cases e2
    · rcases e2 with e2 | ⟨j, e2⟩
      · cases e2
      · injection e2; omega
theorem nodup_reg : ∀ n, (regF n).Nodup
  | 0 => by simp [regF]
  | n + 1 => nodup_app (nodup_reg n) (by simp) fun x h1 h2 => by
    obtain ⟨k, hk, e⟩ := mem_reg h1
    simp only [List.mem_cons, List.not_mem_nil, or_false] at h2
    rcases e with rfl | rfl
    · simp at h2; omega
    · simp at h2; omega
theorem nodup_out : ∀ n, (outF n).Nodup
  | 0 => by simp [outF]
  | n + 1 => nodup_app (nodup_out n) (by simp) fun x h1 h2 => by
    obtain ⟨k, hk, rfl⟩ := mem_out h1
    simp at h2; omega
theorem Cf.nodup_flds (c : Cf) : c.flds.Nodup :=
  nodup_app (nodup_all c _) (nodup_app (nodup_reg _) (nodup_out _) fun x h1 h2 => by
    obtain ⟨k, hk, e⟩ := mem_reg h1
    obtain ⟨k2, hk2, rfl⟩ := mem_out h2
    rcases e with e | e <;> cases e) fun x h1 h2 => by
    obtain ⟨i, k, hi, e⟩ := mem_all h1
    rcases List.mem_append.1 h2 with h2 | h2
    · obtain ⟨k2, hk2, e2⟩ := mem_reg h2
      rcases e with rfl | ⟨j, rfl⟩ <;> rcases e2 with e2 | e2 <;> cases e2
    · obtain ⟨k2, hk2, e2⟩ := mem_out h2
      rcases e with rfl | ⟨j, rfl⟩ <;> cases e2

/-! ### What is read, field by field -/
def Cf.Got (c : Cf) (l : List UInt8) (pre : List Fi) (ct : Fi → Int) : Prop := ∀ a x b, pre = a ++ x :: b → x ∉ b → ct x = tkv l (112 + c.wsum a) (c.wf x)
theorem Cf.Got.nil (c : Cf) (l : List UInt8) (ct : Fi → Int) : c.Got l [] ct := fun a x b e => by simp at e
theorem Cf.Got.snoc {c : Cf} {l : List UInt8} {pre : List Fi} {ct ct' : Fi → Int} {x : Fi} (h : c.Got l pre ct) (hx : ct' x = tkv l (112 + c.wsum pre) (c.wf x)) (ho : ∀ y, y ≠ x → ct' y = ct y) : c.Got l (pre ++ [x]) ct' := by
  intro a y b e hy
  rcases List.eq_nil_or_concat b with rfl | ⟨b', z, rfl⟩
  · obtain ⟨rfl, e2⟩ := List.append_inj' e rfl
    obtain rfl : x = y := by simpa using e2
    exact hx
  · have e2 : pre ++ [x] = (a ++ y :: b') ++ [z] := by rw [e]; simp
    obtain ⟨rfl, e3⟩ := List.append_inj' e2 rfl
    obtain rfl : x = z := by simpa using e3
    rw [ho y (fun h => hy (by simp [h]))]
    exact h a y b' rfl (fun h => hy (by simp [h]))
theorem Cf.Got.all {c : Cf} {l : List UInt8} {ct : Fi → Int} (h : c.Got l c.flds ct) (x : Fi) (hx : c.inn x) : ct x = tkv l (112 + c.wsum (c.before x)) (c.wf x) := by
  obtain ⟨r, hr⟩ := c.before_pre x hx
  have e : c.flds = c.before x ++ x :: r := by rw [← hr]; simp
  refine h _ x r e fun hm => ?_
  have hn := c.nodup_flds
  rw [e] at hn
  exact (List.nodup_cons.1 (List.nodup_append.1 hn).2.1).1 hm

/-! ### Slots -/
def Cf.slot (c : Cf) : Fi → Option Addr
  | .bits i k => (c.CA i).map fun a => ⟨a.block, a.off + (k * 5 + 4), none⟩
  | .sel i k j => (c.CA i).map fun a => ⟨a.block, a.off + (k * 5 + j), none⟩
  | .init k => c.AR.map fun a => ⟨a.block, a.off + (k * 2 + 1), none⟩
  | .rsel k => c.AR.map fun a => ⟨a.block, a.off + k * 2, none⟩
  | .out k => c.AO.map fun a => ⟨a.block, a.off + k, none⟩
def Fi.val : Fi → Int → Value
  | .init _, v => .bool (v == 1)
  | _, v => .int .i64 v
structure Cf.Slots (c : Cf) (W : World) (ct : Fi → Int) : Prop where
  at_ : ∀ x, c.inn x → ∃ b o, c.slot x = some ⟨b, o, none⟩ ∧ W.cell? ⟨b, o, none⟩ = some (x.val (ct x)) ∧ W.frozen? ⟨b, o, none⟩ = false
def Cf.Apart (c : Cf) : Prop := ∀ x y, c.inn x → c.inn y → c.slot x = c.slot y → x = y
theorem Cf.Slots.set {c : Cf} {W : World} {ct : Fi → Int} (h : c.Slots W ct) (ha : c.Apart) {x : Fi} (hx : c.inn x) {b o : Nat} (hs : c.slot x = some ⟨b, o, none⟩) (v : Int) :
    ∃ ct', c.Slots (W.setCell ⟨b, o, none⟩ (x.val v)) ct' ∧ ct' x = v ∧ ∀ y, y ≠ x → ct' y = ct y := by
  classical
  refine ⟨fun y => if y = x then v else ct y, ⟨fun y hy => ?_⟩, by simp, fun y hy => by simp [hy]⟩
  obtain ⟨b', o', e, hc, hf⟩ := h.at_ y hy
  refine ⟨b', o', e, ?_, (World.frozen?_setCell ..).trans hf⟩
  by_cases hyx : y = x
  · subst hyx
    rw [hs] at e
    injection e with e; injection e with e1 e2; subst e1 e2
    simp only [if_pos]
    exact World.cell?_setCell_same' _ _ _ (by rw [hc]; rfl)
  · rw [if_neg hyx, World.cell?_setCell_other _ _ _ _ (fun e2 => hyx (ha y x hy hx (by rw [e, hs, e2])))]
    exact hc
end Go.Proofs.YtbnjbclkmjjkhaaDoor
