/- What follows keeps in memory: what is held, the queue, the boxes; its closures put and look, walked. Conditions: these lie in memory. -/
import Derived.Test.YtkanekacjefcbaaRfH
import Derived.Test.YtkanekacjefcbaaDrawn2
namespace Go.Proofs.Ytkanekacjefcbaa
open Go.RowKit Go.Maps Go.ChangeShapes

/-- where follows stands: its boxes from block z on, what is held, the queue -/
structure FSt (wW wr : World) (z b : Nat) (S : Int → Bool) (T : Option Addr) (n c : Nat) (todo : List Int) : Prop where
  bel : Below wW.heap.size wW wr
  zz : wW.heap.size = z
  hb : Arr wr z 38 1 (fun _ => .pointer (some ⟨b, 0, none⟩))
  held : HeldM wr (z + 1) (cnt 100000 S) S
  v5 : Arr wr (z + 1 + 1) 40 1 (fun _ => .map (some (z + 1)))
  v6 : Arr wr (z + 1 + 1 + 1) 26 1 (fun _ => .slice T n c)
  v7 : Arr wr (z + 1 + 1 + 1 + 1) 62 1 (fun _ => .func (.func 28) #[] #[.pointer (some ⟨z + 1 + 1, 0, none⟩), .pointer (some ⟨z + 1 + 1 + 1, 0, none⟩)])
  tl : Tail wr (z + 5) T n c todo
  lits : ∀ l, l ∈ todo → LitOk1 100000 l
  tn : n ≤ cnt 100000 S
section
variable {wW wr w1 : World} {z b n c : Nat} {S : Int → Bool} {T : Option Addr} {todo : List Int}
theorem FSt.size (h : FSt wW wr z b S T n c todo) : z + 5 ≤ wr.heap.size := by have := h.v7.lt; omega
theorem FSt.below (h : FSt wW wr z b S T n c todo) (k : Below wr.heap.size wr w1) : FSt wW w1 z b S T n c todo :=
  ⟨h.bel.trans (k.mono h.bel.size), h.zz, h.hb.below k, h.held.below k, h.v5.below k, h.v6.below k, h.v7.below k, h.tl.below k, h.lits, h.tn⟩
/-- a literal is held -/
theorem FSt.held_ {x : Int} (h : FSt wW wr z b S T n c todo) (hk : Only (fun k => k = z + 1) wr w1) (hm : HeldM w1 (z + 1) (cnt 100000 S + 1) (put1 S x)) (h0 : LitOk1 100000 x) (hx : S x = false) : FSt wW w1 z b (put1 S x) T n c todo := by
  have hc : cnt 100000 (put1 S x) = cnt 100000 S + 1 := cnt_put (V := 100000) (by have := h0.2.1; omega) (by have := h0.2.2; omega) hx
  have ht := h.tl.lt
  have hzz := h.zz
  refine ⟨h.bel.trans (hk.below (fun k _ e => by omega) h.bel.size), h.zz, h.hb.only hk (by omega), ?_, h.v5.only hk (by omega), h.v6.only hk (by omega), h.v7.only hk (by omega), h.tl.only hk (fun k c e => by have := (ht k c).1; omega), h.lits, by rw [hc]; have := h.tn; omega⟩
  rw [hc]
  exact hm
/-- the queue has changed, in its own blocks; its variable has been written -/
theorem FSt.queue {T' : Option Addr} {n' c' : Nat} {todo' : List Int} (h : FSt wW wr z b S T n c todo) (hk : Only (fun k => blockOf T k) wr w1) (ht : Tail w1 (z + 5) T' n' c' todo') (hl : ∀ l, l ∈ todo' → LitOk1 100000 l) (hn : n' ≤ cnt 100000 S) :
    FSt wW (w1.setCell ⟨z + 1 + 1 + 1, 0, none⟩ (.slice T' n' c')) z b S T' n' c' todo' := by
  have hlt := h.tl.lt
  have hzz := h.zz
  have hlt' := ht.lt
  have hnb : ∀ j, j < z + 5 → ¬ blockOf T j := fun j hj c => by have := (hlt j c).1; omega
  have os := (Only.refl (fun j => j = z + 1 + 1 + 1) w1).setCell (p := ⟨z + 1 + 1 + 1, 0, none⟩) (fun _ => rfl) (.slice T' n' c')
  have hs := hk.size
  have hbs := h.bel.size
  refine ⟨(h.bel.trans (hk.below (fun k _ c => by have := (hlt k c).1; omega) hbs)).trans (os.below (fun k _ e => by omega) (by omega)), h.zz, (h.hb.only hk (hnb _ (by omega))).only os (by omega), (h.held.only hk (hnb _ (by omega))).only os (by omega), (h.v5.only hk (hnb _ (by omega))).only os (by omega), (h.v6.only hk (hnb _ (by omega))).set (fun j hj hne => by omega) rfl, (h.v7.only hk (hnb _ (by omega))).only os (by omega), ht.only os (fun k c e => by have := (hlt' k c).1; omega), hl, hn⟩
end

set_option maxHeartbeats 4000000 in
set_option maxRecDepth 100000 in
theorem put_any (wW : World) (z b : Nat) (S : Int → Bool) (T : Option Addr) (n c : Nat) (todo : List Int) (x : Int) (w : World) (h : FSt wW w z b S T n c todo) (hx : LitOk1 100000 x) :
    Calls Try.prog 28 #[.int .i64 x, .pointer (some ⟨z + 1 + 1, 0, none⟩), .pointer (some ⟨z + 1 + 1 + 1, 0, none⟩)] w fun e w' => (∃ v, e = .returned v) ∧ ((S x = true ∧ w = w') ∨ (S x = false ∧ ∃ T' c', FSt wW w' z b (put1 S x) T' (n + 1) c' (todo ++ [x]))) := by
  obtain ⟨hx0, hx1, hx2⟩ := hx
  have hwf := wf_lit (l := x) (by omega) (by omega)
  have c5 := h.v5.cell (k := 0) (by omega)
  have hrun := h.held.look hwf
  obtain ⟨N, hN⟩ : ∃ N, N = cnt 100000 S := ⟨_, rfl⟩
  have hm := h.held
  have hcl : N ≤ 1000000 := by have := cnt_le 100000 S; omega
  rw [← hN] at hm
  have hn1 : n ≤ 1000000 := by have := h.tn; omega
  have HN1 : Hid (S x = false → n + 1 ≤ cnt 100000 (put1 S x)) := Lib.hid (fun hf => by rw [cnt_put (V := 100000) (by omega) (by omega) hf]; have := h.tn; omega)
  have HN := Lib.hid hN; clear hN
  have H := Lib.hid h; clear h
  by_cases hS : S x = true
  · rw [if_pos hS] at hrun
    have HS := Lib.hid hS; clear hS
    go_enter Try.func28, Try.ntmps28
    go_wp2_with fail
    go_end0
    exact ⟨⟨_, rfl⟩, .inl ⟨HS.out, rfl⟩⟩
  · rw [if_neg hS] at hrun
    have HF : Hid (S x = false) := Lib.hid (by simpa using hS)
    clear hS
    go_enter Try.func28, Try.ntmps28
    go_wp2_with (first
      | (at_mapUpdate; refine wp_held_put rfl (.tmp 8) (.tmp 9) (.const (.int .i64 1)) rfl rfl hm (by unfold maxLen; omega) rfl rfl hwf ?_; intro w1 hm1 hk1; have H1 := Lib.hid ((H.out.held_ hk1 (by rw [← HN.out]; exact hm1) ⟨hx0, hx1, hx2⟩ HF.out)); have c6 := H1.out.v6.cell (k := 0) (by omega); clear hm hm1 hk1 hrun c5)
      | (at_builtin; have H2 := Lib.hid (H1.out.below ((Below.refl _ _).alloc (Nat.le_refl _) (.cells #[.int .i64 x] 3))); refine wp_append_tail rfl (.tmp 10) (.tmp 12) rfl rfl H2.out.tl (by have := H2.out.size; omega) ⟨w1.heap.size, 0, none⟩ 1 x rfl ((BoxAt.new w1 [.int .i64 x] 3) 0 _ rfl) (by omega) ?_; intro T' c' w8 ht hk8 hb8; have H3 := Lib.hid (H2.out.queue hk8 ht (fun q hq => (List.mem_append.1 hq).elim (H1.out.lits q) (fun e => by simp at e; subst e; exact ⟨hx0, hx1, hx2⟩)) (HN1.out HF.out)); have b8 := H2.out.v6.only hk8 (fun c => by have := (H2.out.tl.lt _ c).1; omega); have c8 := b8.cell (k := 0) (by omega); have f8 := b8.thaw 0; clear b8 ht hk8 hb8 c6))
    go_end0
    exact ⟨⟨_, rfl⟩, .inr ⟨HF.out, T', c', H3.out⟩⟩
end Go.Proofs.Ytkanekacjefcbaa
