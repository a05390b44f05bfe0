/- stream.fields and stream.Valid, walked. Condition: the configuration lies in memory, its lists are within reach. -/
import Derived.Test.YtbnjbclkmjjkhaaDoorFdI
namespace Go.Proofs.YtbnjbclkmjjkhaaDoor
open Go.RowKit Go.Shelf Go.Deep
attribute [local go_sem] Oper.semAt_some

/-- is a field's number one that it may have? -/
def Cf.okF (c : Cf) : Fi → Prop
  | .bits i k => 0 ≤ c.B i k ∧ c.B i k < 65536
  | .sel i k j => 0 ≤ c.L i k j ∧ c.L i k j < c.src i
  | .init _ => True
  | .rsel k => 0 ≤ c.RS k ∧ c.RS k < c.src 1
  | .out k => 0 ≤ c.O k ∧ c.O k < c.src 1
theorem Cf.ok_of {c : Cf} (d : c.Dims) (h : ∀ x, c.inn x → c.okF x) : c.Ok :=
  ⟨d, fun i hi k hk => h (.bits i k) ⟨hi, hk⟩, fun i hi k hk j hj => h (.sel i k j) ⟨⟨hi, hk⟩, hj⟩, fun k hk => h (.rsel k) hk, fun k hk => h (.out k) hk⟩
theorem Cf.Ok.field {c : Cf} (h : c.Ok) : ∀ x, c.inn x → c.okF x
  | .bits i k, ⟨hi, hk⟩ => h.b i hi k hk
  | .sel i k j, ⟨⟨hi, hk⟩, hj⟩ => h.l i hi k hk j hj
  | .init _, _ => trivial
  | .rsel k, hk => h.r k hk
  | .out k, hk => h.o k hk
theorem cell_mem {i k : Nat} : ∀ {n : Nat}, k < n → ∀ x ∈ cellF i k, x ∈ colF i n
  | n + 1, h, x, hx => by
    simp only [colF, List.mem_append]
    by_cases e : k = n
    · subst e; exact .inr hx
    · exact .inl (cell_mem (by omega) x hx)
theorem col_mem {c : Cf} {i : Nat} : ∀ {n : Nat}, i < n → ∀ x ∈ colF i (c.rows i), x ∈ c.allF n
  | n + 1, h, x, hx => by
    simp only [Cf.allF, List.mem_append]
    by_cases e : i = n
    · subst e; exact .inr hx
    · exact .inl (col_mem (by omega) x hx)
theorem reg_mem {k : Nat} : ∀ {n : Nat}, k < n → .init k ∈ regF n ∧ .rsel k ∈ regF n
  | n + 1, h => by
    simp only [regF, List.mem_append]
    by_cases e : k = n
    · subst e; simp
    · have := reg_mem (k := k) (n := n) (by omega)
      exact ⟨.inl this.1, .inl this.2⟩
theorem out_mem {k : Nat} : ∀ {n : Nat}, k < n → .out k ∈ outF n
  | n + 1, h => by
    simp only [outF, List.mem_append]
    by_cases e : k = n
    · subst e; simp
    · exact .inl (out_mem (by omega))
theorem Cf.mem_flds (c : Cf) : ∀ x, c.inn x → x ∈ c.flds
  | .bits i k, ⟨hi, hk⟩ => List.mem_append.2 (.inl (col_mem hi _ (cell_mem hk _ (by simp [cellF]))))
  | .sel i k j, ⟨⟨hi, hk⟩, hj⟩ => List.mem_append.2 (.inl (col_mem hi _ (cell_mem hk _ (by
      obtain rfl | rfl | rfl | rfl : j = 0 ∨ j = 1 ∨ j = 2 ∨ j = 3 := by omega
      all_goals simp [cellF]))))
  | .init k, hk => List.mem_append.2 (.inr (List.mem_append.2 (.inl (reg_mem hk).1)))
  | .rsel k, hk => List.mem_append.2 (.inr (List.mem_append.2 (.inl (reg_mem hk).2)))
  | .out k, hk => List.mem_append.2 (.inr (List.mem_append.2 (.inr (out_mem hk))))

/-- a field, as it lies -/
theorem Cf.fv_cases {c : Cf} {W : World} (h : c.At W) (x : c.F) : ∃ P Q m d, c.fv x.1 = .agg #[.pointer P, .pointer Q, .int .i64 m, .int .i64 d] ∧
    ((P = none ∧ c.okF x.1) ∨ (∃ b o v, P = some ⟨b, o, none⟩ ∧ W.cell? ⟨b, o, none⟩ = some (.int .i64 v) ∧ (c.okF x.1 ↔ 0 ≤ v ∧ v < m))) := by
  obtain ⟨x, hx⟩ := x
  cases x with
  | bits i k =>
    obtain ⟨b, o, e, hc⟩ := h.cells i hx.1 (by have := hx.2; omega)
    exact ⟨some ⟨b, o + (k * 5 + 4), none⟩, none, 65536, 16, by simp [Cf.fv, plus, e], .inr ⟨b, _, c.B i k, rfl, by have := hc k hx.2 4 (by omega); rw [Nat.add_assoc] at this; exact this, Iff.rfl⟩⟩
  | sel i k j =>
    obtain ⟨b, o, e, hc⟩ := h.cells i hx.1.1 (by have := hx.1.2; omega)
    refine ⟨some ⟨b, o + (k * 5 + j), none⟩, none, c.src i, wid (c.src i), by simp [Cf.fv, plus, e], .inr ⟨b, _, c.L i k j, rfl, ?_, Iff.rfl⟩⟩
    have hj : j < 4 := hx.2
    have := hc k hx.1.2 j (by omega)
    rw [Nat.add_assoc] at this
    rw [this]
    obtain rfl | rfl | rfl | rfl : j = 0 ∨ j = 1 ∨ j = 2 ∨ j = 3 := by omega
    all_goals rfl
  | init k =>
    obtain ⟨b, o, e, hc⟩ := h.regs (by have : k < c.nr := hx; omega)
    exact ⟨none, some ⟨b, o + (k * 2 + 1), none⟩, 2, 1, by simp [Cf.fv, plus, e], .inl ⟨rfl, trivial⟩⟩
  | rsel k =>
    obtain ⟨b, o, e, hc⟩ := h.regs (by have : k < c.nr := hx; omega)
    exact ⟨some ⟨b, o + k * 2, none⟩, none, c.src 1, wid (c.src 1), by simp [Cf.fv, plus, e], .inr ⟨b, _, c.RS k, rfl, hc k hx 0 (by omega), Iff.rfl⟩⟩
  | out k =>
    obtain ⟨b, o, e, hc⟩ := h.outs (by have : k < c.no := hx; omega)
    exact ⟨some ⟨b, o + k, none⟩, none, c.src 1, wid (c.src 1), by simp [Cf.fv, plus, e], .inr ⟨b, _, c.O k, rfl, hc k hx, Iff.rfl⟩⟩

set_option maxHeartbeats 1000000 in
theorem fields_any (B : Nat) (w : World) :
    Calls Tryd.prog 25 #[.pointer (some ⟨B, 0, none⟩)] w fun e w' => e = .returned (.func (.func 37) #[] #[.pointer (some ⟨w.heap.size, 0, none⟩)]) ∧ w' = w.alloc (.cells #[.pointer (some ⟨B, 0, none⟩)] 72) := by
  go_enter Tryd.func25, Tryd.ntmps25
  go_wp2
  go_ret
  exact ⟨rfl, rfl⟩

theorem fields_stops (c : Cf) (n n₀ Bp Bc : Nat) (w : World) (hsh : ShOk c.sh) (hf : c.Fits) (hP : c.Ptr) (hH : c.Hdr n₀ w Bc) (hp : Firm n₀ w ⟨Bp, 0, none⟩ (.pointer (some ⟨Bc, 0, none⟩))) :
    SeqStopsK Fence.wide n Tryd.prog 37 #[.pointer (some ⟨Bp, 0, none⟩)] (fun x : c.F => #[c.fv x.1]) (Kept n₀) (fun xs => xs.map Subtype.val = c.flds) (fun pre => pre.map Subtype.val <+: c.flds) c.flds.length w :=
  fun l J Jx W hW hJ _ hY h0 => fields1_in c c.AC c.AR c.AO rfl rfl rfl n n₀ l W.heap.size Bp Bc J Jx W hsh hf hP hJ hY (hH.kept (Kept.below hW)) (hp.kept (Kept.below hW)) h0

/-- an operation whose guard was skipped itself -/
theorem Heads.skipU {P : Program} {ops : Array Oper} {S : World → Prop} {i j : Nat} {want : Bool} {is : List Nat} {o : Oper} {R : Act → Prop} {a : Act} (ho : ops[i]? = some o) (hg : o.guard = some (j, want)) (hy : ((ops[j]?).bind (·.dst)).bind (a.tmps[·]?) = some undef)
    (h : Heads P ops S R is (a.put o.dst undef)) : Heads P ops S R (i :: is) a := Heads.skip ho (by simp [Region.wanted, hg, yielded, hy, undef]) h
/-- ready for the return -/
theorem leaves0 {F : Fence} {n : Nat} {P : Program} {fn : Func} {tmps : Array Value} {R : Ending → World → Prop} {w : World} {v : Value} (h : (results fn tmps).run P w = .ok v w) (hR : R (.returned v) w) : LeavesInM F n P fn tmps R [] .returning w := ⟨v, h, hR⟩
end Go.Proofs.YtbnjbclkmjjkhaaDoor
