/- Contracts of the library that hold over any program, laid at this one by the kit's tool. No condition. -/
import Derived.Shelf.Small.Strs
import Derived.Shelf.Small.Wraps
import Derived.Shelf.Utf8.RuneCount
import Derived.Shelf.Strings.Search1
import Derived.Shelf.Strings.Search2
import Derived.Shelf.Strings.Search3
import Derived.Shelf.Strings.Cut
import Derived.Shelf.Strings.Count
import Derived.Shelf.LaysM
import Derived.Shelf.Strings.Shaped
import Derived.Shelf.Strings.Prefix
import Derived.Shelf.Strings.Split
import Derived.Shelf.Strings.SplitShaped
import Derived.Shelf.Unicode.Decode
import Derived.Shelf.Strings.RuneCount
import Derived.Shelf.Strings.Explode
import Derived.Shelf.Unicode.DecodeSlow
import Derived.Shelf.Unicode.DecodeAny
import Derived.Shelf.Bytes.SlIndexAt
import Derived.Shelf.Bytes.SlSearch0
import Derived.Shelf.Bytes.IndexByte
import Derived.Test.YtngjbiipgbeemaaDoorProg
namespace Go.Proofs
open Go.Shelf
def Tryd.lays137_ren : Go.Shelf.Ren := ⟨fun | 137 => 41 | 217 => 52 | 266 => 62 | n => n, fun | 9 => 9 | 5 => 5 | 3 => 3 | n => n, fun | n => n⟩
theorem Tryd.lays137 : Go.Proofs.Lays.n137 Tryd.prog Tryd.lays137_ren := {
  mixed := by kernel_rfl
  f137 := Tryd.func41.trans (congrArg some (by kernel_rfl))
  f217 := Tryd.func52.trans (congrArg some (by kernel_rfl))
  f266 := Tryd.func62.trans (congrArg some (by kernel_rfl))
  t3 := Tryd.underlying3
  a3 := Tryd.isAgg3
  z3 := Tryd.sizeOf3
  v3 := Tryd.zeroValue3
  t5 := Tryd.underlying5
  a5 := Tryd.isAgg5
  z5 := Tryd.sizeOf5
  v5 := Tryd.zeroValue5
  t9 := Tryd.underlying9
  a9 := Tryd.isAgg9
  z9 := Tryd.sizeOf9
  v9 := Tryd.zeroValue9 }
open Go.RowKit in
theorem Tryd.strings_IndexByte (s : ByteArray) (c : Int) (w : World) :
    Calls Tryd.prog 41 #[.string s, .int .u8 c] w fun e w' => e = .returned (.int .i64 (Lib.indexByte s.data.toList c.toNat.toUInt8)) ∧ w' = w := Any.strings_IndexByte Tryd.lays137 s c w
def Tryd.lays103_ren : Go.Shelf.Ren := ⟨fun | 103 => 49 | 210 => 59 | 206 => 67 | n => n, fun | 9 => 9 | 4 => 4 | 24 => 84 | 3 => 3 | n => n, fun | n => n⟩
theorem Tryd.lays103 : Go.Proofs.Lays.n103 Tryd.prog Tryd.lays103_ren := {
  mixed := by kernel_rfl
  f103 := Tryd.func49.trans (congrArg some (by kernel_rfl))
  f206 := Tryd.func67.trans (congrArg some (by kernel_rfl))
  f210 := Tryd.func59.trans (congrArg some (by kernel_rfl))
  t3 := Tryd.underlying3
  a3 := Tryd.isAgg3
  z3 := Tryd.sizeOf3
  v3 := Tryd.zeroValue3
  t4 := Tryd.underlying4
  a4 := Tryd.isAgg4
  z4 := Tryd.sizeOf4
  v4 := Tryd.zeroValue4
  t9 := Tryd.underlying9
  a9 := Tryd.isAgg9
  z9 := Tryd.sizeOf9
  v9 := Tryd.zeroValue9
  t24 := Tryd.underlying84
  a24 := Tryd.isAgg84
  z24 := Tryd.sizeOf84
  v24 := Tryd.zeroValue84 }
open Go.RowKit in
theorem Tryd.strings_CutPrefix (s p : ByteArray) (w : World) :
    Calls Tryd.prog 49 #[.string s, .string p] w fun e w' => e = .returned (.tuple #[.string ⟨(Lib.trimPrefix s.data.toList p.data.toList).toArray⟩, .bool (Lib.hasPrefix s.data.toList p.data.toList)]) ∧ w' = w := Any.strings_CutPrefix Tryd.lays103 s p w
def Tryd.lays145_ren : Go.Shelf.Ren := ⟨fun | 145 => 40 | 220 => 51 | 219 => 61 | 217 => 52 | 225 => 71 | 224 => 72 | 267 => 73 | 266 => 62 | 314 => 77 | n => n, fun | 9 => 9 | 4 => 4 | 59 => 93 | 3 => 3 | 5 => 5 | 46 => 141 | 146 => 145 | 51 => 144 | n => n, fun | 1 => 1 | n => n⟩
theorem Tryd.lays145 : Go.Proofs.Lays.n145 Tryd.prog Tryd.lays145_ren := {
  mixed := by kernel_rfl
  f145 := Tryd.func40.trans (congrArg some (by kernel_rfl))
  f217 := Tryd.func52.trans (congrArg some (by kernel_rfl))
  f219 := Tryd.func61.trans (congrArg some (by kernel_rfl))
  f220 := Tryd.func51.trans (congrArg some (by kernel_rfl))
  f224 := Tryd.func72.trans (congrArg some (by kernel_rfl))
  f225 := Tryd.func71.trans (congrArg some (by kernel_rfl))
  f266 := Tryd.func62.trans (congrArg some (by kernel_rfl))
  f267 := Tryd.func73.trans (congrArg some (by kernel_rfl))
  f314 := Tryd.func77.trans (congrArg some (by kernel_rfl))
  t3 := Tryd.underlying3
  a3 := Tryd.isAgg3
  z3 := Tryd.sizeOf3
  v3 := Tryd.zeroValue3
  t4 := Tryd.underlying4
  a4 := Tryd.isAgg4
  z4 := Tryd.sizeOf4
  v4 := Tryd.zeroValue4
  t5 := Tryd.underlying5
  a5 := Tryd.isAgg5
  z5 := Tryd.sizeOf5
  v5 := Tryd.zeroValue5
  t9 := Tryd.underlying9
  a9 := Tryd.isAgg9
  z9 := Tryd.sizeOf9
  v9 := Tryd.zeroValue9
  t46 := Tryd.underlying141
  a46 := Tryd.isAgg141
  z46 := Tryd.sizeOf141
  v46 := Tryd.zeroValue141
  t51 := Tryd.underlying144
  a51 := Tryd.isAgg144
  z51 := Tryd.sizeOf144
  v51 := Tryd.zeroValue144
  t59 := Tryd.underlying93
  a59 := Tryd.isAgg93
  z59 := Tryd.sizeOf93
  v59 := Tryd.zeroValue93
  t146 := Tryd.underlying145
  a146 := Tryd.isAgg145
  z146 := Tryd.sizeOf145
  v146 := Tryd.zeroValue145
  g1 := by kernel_rfl }
open Go.RowKit Go.Lib in
theorem Tryd.strings_Cut (s sep : ByteArray) (m : Int) (w : World) (hs : s.size < 4294967281) (hm : w.cell? ⟨1, 0, none⟩ = some (.int .i64 m)) :
    Calls Tryd.prog 40 #[.string s, .string sep] w fun e w' => e = .returned (.tuple #[.string ⟨(Lib.cut s.data.toList sep.data.toList).1.toArray⟩, .string ⟨(Lib.cut s.data.toList sep.data.toList).2.1.toArray⟩, .bool (Lib.cut s.data.toList sep.data.toList).2.2]) ∧ ∃ n, w' = w.drewN n := Any.strings_Cut Tryd.lays145 s sep m w hs hm
def Tryd.lays146_ren : Go.Shelf.Ren := ⟨fun | 146 => 50 | 221 => 60 | 268 => 68 | 138 => 69 | 143 => 70 | 195 => 74 | 197 => 75 | 218 => 76 | 219 => 61 | 260 => 78 | 217 => 52 | 225 => 71 | 224 => 72 | 267 => 73 | 266 => 62 | 314 => 77 | n => n, fun | 9 => 9 | 31 => 60 | 3 => 3 | 4 => 4 | 0 => 0 | 105 => 142 | 21 => 21 | 5 => 5 | 46 => 141 | 119 => 147 | 139 => 150 | 138 => 149 | 146 => 145 | 51 => 144 | n => n, fun | 1 => 1 | 3 => 2 | 4 => 3 | n => n⟩
theorem Tryd.lays146 : Go.Proofs.Lays.n146 Tryd.prog Tryd.lays146_ren := {
  mixed := by kernel_rfl
  f138 := Tryd.func69.trans (congrArg some (by kernel_rfl))
  f143 := Tryd.func70.trans (congrArg some (by kernel_rfl))
  f146 := Tryd.func50.trans (congrArg some (by kernel_rfl))
  f195 := Tryd.func74.trans (congrArg some (by kernel_rfl))
  f197 := Tryd.func75.trans (congrArg some (by kernel_rfl))
  f217 := Tryd.func52.trans (congrArg some (by kernel_rfl))
  f218 := Tryd.func76.trans (congrArg some (by kernel_rfl))
  f219 := Tryd.func61.trans (congrArg some (by kernel_rfl))
  f221 := Tryd.func60.trans (congrArg some (by kernel_rfl))
  f224 := Tryd.func72.trans (congrArg some (by kernel_rfl))
  f225 := Tryd.func71.trans (congrArg some (by kernel_rfl))
  f260 := Tryd.func78.trans (congrArg some (by kernel_rfl))
  f266 := Tryd.func62.trans (congrArg some (by kernel_rfl))
  f267 := Tryd.func73.trans (congrArg some (by kernel_rfl))
  f268 := Tryd.func68.trans (congrArg some (by kernel_rfl))
  f314 := Tryd.func77.trans (congrArg some (by kernel_rfl))
  t0 := Tryd.underlying0
  a0 := Tryd.isAgg0
  z0 := Tryd.sizeOf0
  v0 := Tryd.zeroValue0
  t3 := Tryd.underlying3
  a3 := Tryd.isAgg3
  z3 := Tryd.sizeOf3
  v3 := Tryd.zeroValue3
  t4 := Tryd.underlying4
  a4 := Tryd.isAgg4
  z4 := Tryd.sizeOf4
  v4 := Tryd.zeroValue4
  t5 := Tryd.underlying5
  a5 := Tryd.isAgg5
  z5 := Tryd.sizeOf5
  v5 := Tryd.zeroValue5
  t9 := Tryd.underlying9
  a9 := Tryd.isAgg9
  z9 := Tryd.sizeOf9
  v9 := Tryd.zeroValue9
  t21 := Tryd.underlying21
  a21 := Tryd.isAgg21
  z21 := Tryd.sizeOf21
  v21 := Tryd.zeroValue21
  t31 := Tryd.underlying60
  a31 := Tryd.isAgg60
  z31 := Tryd.sizeOf60
  v31 := Tryd.zeroValue60
  t46 := Tryd.underlying141
  a46 := Tryd.isAgg141
  z46 := Tryd.sizeOf141
  v46 := Tryd.zeroValue141
  t51 := Tryd.underlying144
  a51 := Tryd.isAgg144
  z51 := Tryd.sizeOf144
  v51 := Tryd.zeroValue144
  t105 := Tryd.underlying142
  a105 := Tryd.isAgg142
  z105 := Tryd.sizeOf142
  v105 := Tryd.zeroValue142
  t119 := Tryd.underlying147
  a119 := Tryd.isAgg147
  z119 := Tryd.sizeOf147
  t138 := Tryd.underlying149
  a138 := Tryd.isAgg149
  z138 := Tryd.sizeOf149
  v138 := Tryd.zeroValue149
  t139 := Tryd.underlying150
  a139 := Tryd.isAgg150
  z139 := Tryd.sizeOf150
  v139 := Tryd.zeroValue150
  t146 := Tryd.underlying145
  a146 := Tryd.isAgg145
  z146 := Tryd.sizeOf145
  v146 := Tryd.zeroValue145
  g1 := by kernel_rfl
  g3 := by kernel_rfl
  g4 := by kernel_rfl }
open Go.RowKit Go.Lib in
theorem Tryd.strings_Split (s sep : ByteArray) (m : Int) (w : World) (hs : s.size < 4294967281) (hm : w.cell? ⟨1, 0, none⟩ = some (.int .i64 m)) (h1 : 1 ≤ sep.size) :
    Calls Tryd.prog 50 #[.string s, .string sep] w fun e w' =>
      e = .returned (.slice (some ⟨w.heap.size, 0, none⟩) (Lib.countB s sep + 1) (Lib.countB s sep + 1)) ∧ w' = w.alloc (.cells ((Lib.splitB sep 0 (Lib.countB s sep) s).map Value.string).toArray 9) := Any.strings_Split Tryd.lays146 (by kernel_rfl) s sep m w hs hm h1
def Tryd.laysM146_ren : Go.Shelf.Ren := ⟨fun | 146 => 50 | 221 => 60 | 268 => 68 | 138 => 69 | 143 => 70 | 195 => 74 | 197 => 75 | 218 => 76 | 219 => 61 | 260 => 78 | 217 => 52 | 225 => 71 | 224 => 72 | 267 => 73 | 266 => 62 | 314 => 77 | n => n, fun | 9 => 9 | 31 => 60 | 3 => 3 | 4 => 4 | 0 => 0 | 105 => 142 | 21 => 21 | 5 => 5 | 46 => 141 | 119 => 147 | 139 => 150 | 138 => 149 | 146 => 145 | 51 => 144 | n => n, fun | 1 => 1 | 3 => 2 | 4 => 3 | n => n⟩
theorem Tryd.laysM146 : Go.Proofs.LaysM.n146 Tryd.prog Tryd.laysM146_ren := {
  mixed := by kernel_rfl
  f138 := Tryd.func69.trans (congrArg some (by kernel_rfl))
  f143 := Tryd.func70.trans (congrArg some (by kernel_rfl))
  f146 := Tryd.func50.trans (congrArg some (by kernel_rfl))
  f195 := Tryd.func74.trans (congrArg some (by kernel_rfl))
  f197 := Tryd.func75.trans (congrArg some (by kernel_rfl))
  f217 := Tryd.func52.trans (congrArg some (by kernel_rfl))
  f218 := Tryd.func76.trans (congrArg some (by kernel_rfl))
  f219 := Tryd.func61.trans (congrArg some (by kernel_rfl))
  f221 := Tryd.func60.trans (congrArg some (by kernel_rfl))
  f224 := Tryd.func72.trans (congrArg some (by kernel_rfl))
  f225 := Tryd.func71.trans (congrArg some (by kernel_rfl))
  f260 := Tryd.func78.trans (congrArg some (by kernel_rfl))
  f266 := Tryd.func62.trans (congrArg some (by kernel_rfl))
  f267 := Tryd.func73.trans (congrArg some (by kernel_rfl))
  f268 := Tryd.func68.trans (congrArg some (by kernel_rfl))
  f314 := Tryd.func77.trans (congrArg some (by kernel_rfl))
  t0 := Tryd.underlying0
  a0 := Tryd.isAgg0
  z0 := Tryd.sizeOf0
  v0 := Tryd.zeroValue0
  t3 := Tryd.underlying3
  a3 := Tryd.isAgg3
  z3 := Tryd.sizeOf3
  v3 := Tryd.zeroValue3
  t4 := Tryd.underlying4
  a4 := Tryd.isAgg4
  z4 := Tryd.sizeOf4
  v4 := Tryd.zeroValue4
  t5 := Tryd.underlying5
  a5 := Tryd.isAgg5
  z5 := Tryd.sizeOf5
  v5 := Tryd.zeroValue5
  t9 := Tryd.underlying9
  a9 := Tryd.isAgg9
  z9 := Tryd.sizeOf9
  v9 := Tryd.zeroValue9
  t21 := Tryd.underlying21
  a21 := Tryd.isAgg21
  z21 := Tryd.sizeOf21
  v21 := Tryd.zeroValue21
  t31 := Tryd.underlying60
  a31 := Tryd.isAgg60
  z31 := Tryd.sizeOf60
  v31 := Tryd.zeroValue60
  t46 := Tryd.underlying141
  a46 := Tryd.isAgg141
  z46 := Tryd.sizeOf141
  v46 := Tryd.zeroValue141
  t51 := Tryd.underlying144
  a51 := Tryd.isAgg144
  z51 := Tryd.sizeOf144
  v51 := Tryd.zeroValue144
  t105 := Tryd.underlying142
  a105 := Tryd.isAgg142
  z105 := Tryd.sizeOf142
  v105 := Tryd.zeroValue142
  t119 := Tryd.underlying147
  a119 := Tryd.isAgg147
  z119 := Tryd.sizeOf147
  t138 := Tryd.underlying149
  a138 := Tryd.isAgg149
  z138 := Tryd.sizeOf149
  v138 := Tryd.zeroValue149
  t139 := Tryd.underlying150
  a139 := Tryd.isAgg150
  z139 := Tryd.sizeOf150
  v139 := Tryd.zeroValue150
  t146 := Tryd.underlying145
  a146 := Tryd.isAgg145
  z146 := Tryd.sizeOf145
  v146 := Tryd.zeroValue145
  g1 := by kernel_rfl
  g3 := by kernel_rfl
  g4 := by kernel_rfl
  i0 := by kernel_rfl
  i3 := by kernel_rfl
  i4 := by kernel_rfl
  i5 := by kernel_rfl
  i9 := by kernel_rfl
  i21 := by kernel_rfl
  i31 := by kernel_rfl
  i46 := by kernel_rfl
  i51 := by kernel_rfl
  i105 := by kernel_rfl
  i138 := by kernel_rfl
  i139 := by kernel_rfl
  i146 := by kernel_rfl
  m1 := by kernel_rfl
  s1_3 := fun w h => Go.Proofs.cell_of_shapedOpen_int (zero := #[.int .i64 0]) (t := 3) h (of_decide_eq_true (by kernel_rfl)) (by kernel_rfl) rfl (by kernel_rfl) (by kernel_rfl) Tryd.underlying3
  m3 := by kernel_rfl
  m4 := by kernel_rfl }
open Go.RowKit Go.Lib in
theorem Tryd.strings_Split_shaped (s sep : ByteArray) (w : World) (h : w.ShapedOpen Tryd.prog) (hs : s.size < 4294967281) (h1 : 1 ≤ sep.size) :
    Calls Tryd.prog 50 #[.string s, .string sep] w fun e w' =>
      e = .returned (.slice (some ⟨w.heap.size, 0, none⟩) (Lib.countB s sep + 1) (Lib.countB s sep + 1)) ∧ w' = w.alloc (.cells ((Lib.splitB sep 0 (Lib.countB s sep) s).map Value.string).toArray 9) := Any.strings_Split_shaped Tryd.laysM146 s sep w h hs h1
def Tryd.lays187_ren : Go.Shelf.Ren := ⟨fun | 187 => 46 | 255 => 58 | n => n, fun | 37 => 30 | 5 => 5 | 3 => 3 | n => n, fun | n => n⟩
theorem Tryd.lays187 : Go.Proofs.Lays.n187 Tryd.prog Tryd.lays187_ren := {
  mixed := by kernel_rfl
  f187 := Tryd.func46.trans (congrArg some (by kernel_rfl))
  f255 := Tryd.func58.trans (congrArg some (by kernel_rfl))
  t3 := Tryd.underlying3
  a3 := Tryd.isAgg3
  z3 := Tryd.sizeOf3
  v3 := Tryd.zeroValue3
  t5 := Tryd.underlying5
  a5 := Tryd.isAgg5
  z5 := Tryd.sizeOf5
  v5 := Tryd.zeroValue5
  t37 := Tryd.underlying30
  a37 := Tryd.isAgg30
  z37 := Tryd.sizeOf30
  v37 := Tryd.zeroValue30 }
open Go.RowKit Go.Lib in
theorem Tryd.bytes_IndexByte_at (a : Addr) (n c : Nat) (xs : List Int) (cv : Int) (w : World) (hx : xs.length = n) (hc : ∀ i, i < n → w.cell? (a.add i) = some (.int .u8 (xs.getD i 0))) :
    Calls Tryd.prog 46 #[.slice (some a) n c, .int .u8 cv] w fun e w' => e = .returned (.int .i64 (Lib.indexByte (Lib.bytesOf xs) cv.toNat.toUInt8)) ∧ w' = w := Any.bytes_IndexByte_at Tryd.lays187 a n c xs cv w hx hc
theorem Tryd.bytes_IndexByte (b o n c : Nat) (xs : List Int) (cv : Int) (w : World) (hx : xs.length = n) (hc : ∀ i, i < n → w.cell? ⟨b, o + i, none⟩ = some (.int .u8 (xs.getD i 0))) :
    Calls Tryd.prog 46 #[.slice (some ⟨b, o, none⟩) n c, .int .u8 cv] w fun e w' => e = .returned (.int .i64 (Lib.indexByte (Lib.bytesOf xs) cv.toNat.toUInt8)) ∧ w' = w := Any.bytes_IndexByte Tryd.lays187 b o n c xs cv w hx hc
theorem Tryd.bytes_IndexByte_nil (cv : Int) (w : World) :
    Calls Tryd.prog 46 #[.slice none 0 0, .int .u8 cv] w fun e w' => e = .returned (.int .i64 (-1)) ∧ w' = w := Any.bytes_IndexByte_nil Tryd.lays187 cv w
end Go.Proofs
