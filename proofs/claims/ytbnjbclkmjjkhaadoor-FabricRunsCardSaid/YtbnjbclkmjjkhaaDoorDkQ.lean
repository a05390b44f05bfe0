/- The configuration that bytes hold, in plain Lean; when they are one. No condition. -/
import Derived.Test.YtbnjbclkmjjkhaaDoorDkP
namespace Go.Proofs.YtbnjbclkmjjkhaaDoor
open Go.RowKit Go.Shelf

def Cf.num (c : Cf) : Fi → Int
  | .bits i k => c.B i k
  | .sel i k j => c.L i k j
  | .init k => if c.RI k = true then 1 else 0
  | .rsel k => c.RS k
  | .out k => c.O k
theorem Cf.Slots.at {c : Cf} {W : World} {ct : Fi → Int} (h : c.Slots W ct) (hn : ∀ x, c.inn x → ct x = c.num x) (hc : Row1 W c.AC c.nc (fun i => .slice (c.CA i) (c.rows i) (c.cc i))) (hp : c.Ptr) : c.At W := by
  refine ⟨hc, fun i hi h0 => ?_, fun h0 => ?_, fun h0 => ?_⟩
  · obtain ⟨b, off, e⟩ := hp.col i hi h0
    refine ⟨b, off, e, fun k hk j hj => ?_⟩
    by_cases h4 : j = 4
    · subst h4
      obtain ⟨b', o', e', hv, _⟩ := h.at_ (.bits i k) ⟨hi, hk⟩
      simp only [Cf.slot, e, Option.map_some] at e'
      injection e' with e'; injection e' with e1 e2; subst e1 e2
      rw [Nat.add_assoc, hv, hn (.bits i k) ⟨hi, hk⟩]; rfl
    · have hj4 : j < 4 := by omega
      obtain ⟨b', o', e', hv, _⟩ := h.at_ (.sel i k j) ⟨⟨hi, hk⟩, hj4⟩
      simp only [Cf.slot, e, Option.map_some] at e'
      injection e' with e'; injection e' with e1 e2; subst e1 e2
      rw [Nat.add_assoc, hv, hn (.sel i k j) ⟨⟨hi, hk⟩, hj4⟩]
      obtain rfl | rfl | rfl | rfl : j = 0 ∨ j = 1 ∨ j = 2 ∨ j = 3 := by omega
      all_goals rfl
  · obtain ⟨b, off, e⟩ := hp.reg h0
    refine ⟨b, off, e, fun k hk j hj => ?_⟩
    obtain rfl | rfl : j = 0 ∨ j = 1 := by omega
    · obtain ⟨b', o', e', hv, _⟩ := h.at_ (.rsel k) hk
      simp only [Cf.slot, e, Option.map_some] at e'
      injection e' with e'; injection e' with e1 e2; subst e1 e2
      rw [Nat.add_zero, hv, hn (.rsel k) hk]; rfl
    · obtain ⟨b', o', e', hv, _⟩ := h.at_ (.init k) hk
      simp only [Cf.slot, e, Option.map_some] at e'
      injection e' with e'; injection e' with e1 e2; subst e1 e2
      rw [Nat.add_assoc, hv, hn (.init k) hk]
      simp only [Fi.val, Cf.num]
      cases c.RI k <;> rfl
  · obtain ⟨b, off, e⟩ := hp.out h0
    refine ⟨b, off, e, fun k hk => ?_⟩
    obtain ⟨b', o', e', hv, _⟩ := h.at_ (.out k) hk
    simp only [Cf.slot, e, Option.map_some] at e'
    injection e' with e'; injection e' with e1 e2; subst e1 e2
    rw [hv, hn (.out k) hk]; rfl

/-! ### What hangs on the shape alone -/
theorem wf_congr {c d : Cf} (h : c.sh = d.sh) : ∀ x, c.wf x = d.wf x
  | .bits _ _ => rfl
  | .sel i _ _ => by simp only [Cf.wf, Cf.src, h]
  | .init _ => rfl
  | .rsel _ => by simp only [Cf.wf, Cf.src, h]
  | .out _ => by simp only [Cf.wf, Cf.src, h]
theorem wsum_congr {c d : Cf} (h : c.sh = d.sh) : ∀ l, c.wsum l = d.wsum l
  | [] => rfl
  | x :: l => by simp only [Cf.wsum, wf_congr h, wsum_congr h l]
theorem allF_congr {c d : Cf} (h : c.rows = d.rows) : ∀ n, c.allF n = d.allF n
  | 0 => rfl
  | n + 1 => by simp only [Cf.allF, allF_congr h n, h]
theorem before_congr {c d : Cf} (hr : c.rows = d.rows) (hc : c.nc = d.nc) (hn : c.nr = d.nr) : ∀ x, c.before x = d.before x
  | .bits i k => by simp only [Cf.before, allF_congr hr]
  | .sel i k j => by simp only [Cf.before, allF_congr hr]
  | .init k => by simp only [Cf.before, allF_congr hr, hc]
  | .rsel k => by simp only [Cf.before, allF_congr hr, hc]
  | .out k => by simp only [Cf.before, allF_congr hr, hc, hn]
theorem flds_congr {c d : Cf} (hr : c.rows = d.rows) (hc : c.nc = d.nc) (hn : c.nr = d.nr) (ho : c.no = d.no) : c.flds = d.flds := by
  simp only [Cf.flds, allF_congr hr, hc, hn, ho]

/-- the same numbers at other addresses -/
def Cf.lay (c : Cf) (AC AR AO : Option Addr) (cC cR cO : Nat) (CA : Nat → Option Addr) (cc : Nat → Nat) : Cf := { c with AC := AC, AR := AR, AO := AO, cC := cC, cR := cR, cO := cO, CA := CA, cc := cc }
section
variable {c : Cf} {AC AR AO : Option Addr} {cC cR cO : Nat} {CA : Nat → Option Addr} {cc : Nat → Nat}
theorem lay_fbits : ∀ x, (c.lay AC AR AO cC cR cO CA cc).fbits x = c.fbits x := fun x => by cases x <;> rfl
theorem lay_enc : ∀ l, (c.lay AC AR AO cC cR cO CA cc).enc l = c.enc l
  | [] => rfl
  | x :: l => by simp only [Cf.enc, lay_fbits, lay_enc l]
theorem lay_shB : ∀ k, (c.lay AC AR AO cC cR cO CA cc).shB k = c.shB k
  | 0 => rfl
  | k + 1 => by simp only [Cf.shB, lay_shB k]; rfl
theorem lay_flds : (c.lay AC AR AO cC cR cO CA cc).flds = c.flds := flds_congr rfl rfl rfl rfl
theorem lay_text : (c.lay AC AR AO cC cR cO CA cc).text = c.text := by
  simp only [Cf.text, Cf.encB, lay_shB, lay_enc, lay_flds]
theorem lay_dims : (c.lay AC AR AO cC cR cO CA cc).Dims ↔ c.Dims := ⟨fun h => ⟨h.sh, h.nc, h.nr, h.no, h.rows⟩, fun h => ⟨h.sh, h.nc, h.nr, h.no, h.rows⟩⟩
theorem lay_ok : (c.lay AC AR AO cC cR cO CA cc).Ok ↔ c.Ok := ⟨fun h => ⟨lay_dims.1 h.d, h.b, h.l, h.r, h.o⟩, fun h => ⟨lay_dims.2 h.d, h.b, h.l, h.r, h.o⟩⟩
end

/-! ### The configuration that bytes hold -/
def shD (l : List UInt8) (k : Nat) : Int := tkv l (32 + 16 * k) 16
def decH (l : List UInt8) : Cf := { sh := shD l, nc := tkv l 96 16, rows := fun _ => tkv l 80 16, B := fun _ _ => 0, L := fun _ _ _ => 0, nr := tkv l 64 16, RS := fun _ => 0, RI := fun _ => false, no := tkv l 48 16, O := fun _ => 0, AC := none, AR := none, AO := none, cC := 0, cR := 0, cO := 0, CA := fun _ => none, cc := fun _ => 0 }
def numD (l : List UInt8) (x : Fi) : Nat := tkv l (112 + (decH l).wsum ((decH l).before x)) ((decH l).wf x)
def dec (l : List UInt8) : Cf := { decH l with B := fun i k => numD l (.bits i k), L := fun i k j => numD l (.sel i k j), RS := fun k => numD l (.rsel k), RI := fun k => numD l (.init k) == 1, O := fun k => numD l (.out k) }
theorem dec_num (l : List UInt8) (x : Fi) : (dec l).num x = numD l x := by
  cases x with
  | init k =>
    have h : numD l (.init k) ≤ 1 := by
      have := tkv_lt l (112 + (decH l).wsum ((decH l).before (.init k))) 1
      unfold numD; simp only [Cf.wf]; omega
    show (if (numD l (.init k) == 1) = true then (1 : Int) else 0) = _
    have h01 : numD l (.init k) = 0 ∨ numD l (.init k) = 1 := by omega
    rcases h01 with e | e <;> rw [e] <;> rfl
  | _ => rfl
theorem dec_dims (l : List UInt8) (h : ShOk (shD l)) : (dec l).Dims := ⟨h, rfl, rfl, rfl, fun _ _ => rfl⟩
/-- all fields were read: the numbers are those of the bytes -/
theorem got_dec {l : List UInt8} {AC AR AO : Option Addr} {cC cR cO : Nat} {CA : Nat → Option Addr} {cc : Nat → Nat} {ct : Fi → Int} (h : ((dec l).lay AC AR AO cC cR cO CA cc).Got l ((dec l).lay AC AR AO cC cR cO CA cc).flds ct) :
    ∀ x, ((dec l).lay AC AR AO cC cR cO CA cc).inn x → ct x = ((dec l).lay AC AR AO cC cR cO CA cc).num x := fun x hx => by
  rw [h.all x hx, show ((dec l).lay AC AR AO cC cR cO CA cc).num x = (dec l).num x by cases x <;> rfl, dec_num, numD]
  rw [wf_congr (c := (dec l).lay AC AR AO cC cR cO CA cc) (d := decH l) rfl, wsum_congr (c := (dec l).lay AC AR AO cC cR cO CA cc) (d := decH l) rfl, before_congr (c := (dec l).lay AC AR AO cC cR cO CA cc) (d := decH l) rfl rfl rfl]
/-- how many bits a configuration has -/
def bitsD (l : List UInt8) : Nat := 112 + (decH l).wsum (decH l).flds

/-- the bytes are a configuration -/
structure GoodB (l : List UInt8) : Prop where
  len : 18 ≤ l.length
  magic : l.take 4 = [71, 87, 66, 49]
  crc : l = body l ++ be4 (crcF (body l))
  sh : ShOk (shD (body l))
  fits : bitsD (body l) ≤ 8 * (l.length - 4)
  ok : (dec (body l)).Ok
  text : (dec (body l)).text = l

theorem wsum_col {c : Cf} {i : Nat} : ∀ n, 16 * n ≤ c.wsum (colF i n)
  | 0 => by simp [Cf.wsum, colF]
  | n + 1 => by
    have := wsum_col (c := c) (i := i) n
    simp only [colF, Cf.wsum_append, cellF, Cf.wsum, Cf.wf]; omega
theorem wsum_all {c : Cf} {R : Nat} (h : ∀ i, c.rows i = R) : ∀ n, 16 * (R * n) ≤ c.wsum (c.allF n)
  | 0 => by simp
  | n + 1 => by
    have h1 := wsum_all h n
    have h2 := wsum_col (c := c) (i := n) (c.rows n)
    rw [h] at h2
    simp only [Cf.allF, Cf.wsum_append, h]
    rw [Nat.mul_add, Nat.mul_one]; omega
theorem bitsD_ge (l : List UInt8) : 16 * (tkv l 80 16 * tkv l 96 16) ≤ bitsD l := by
  have h := wsum_all (c := decH l) (R := tkv l 80 16) (fun _ => rfl) (decH l).nc
  unfold bitsD
  simp only [Cf.flds, Cf.wsum_append]
  have e : (decH l).nc = tkv l 96 16 := rfl
  rw [e] at h ⊢; omega
end Go.Proofs.YtbnjbclkmjjkhaaDoor
