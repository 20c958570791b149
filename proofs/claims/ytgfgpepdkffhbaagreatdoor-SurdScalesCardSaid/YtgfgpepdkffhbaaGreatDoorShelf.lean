/- The contracts of Go's library that the proofs use, laid at this translation by the kit's tool and cut by program to what is used. -/
import Derived.Shelf.Strings.Builder1
import Derived.Shelf.Small.Strs
import Derived.Shelf.Small.Wraps
import Derived.Shelf.Strings.BuilderF
import Derived.Shelf.Strings.BuilderK
import Derived.Shelf.Strconv.Atoi
import Derived.Shelf.Strconv.Itoa0
import Derived.Shelf.Strconv.Itoa1
import Derived.Shelf.LaysM
import Derived.Shelf.Strconv.Itoa2
import Derived.Shelf.Strconv.Itoa3
import Derived.Shelf.Strconv.AtoiErrFast
import Derived.Shelf.Strconv.ParseIntEmpty
import Derived.Shelf.Strconv.AtoiFail
import Derived.Shelf.Strconv.Clone
import Derived.Shelf.Strconv.SyntaxError
import Derived.Shelf.LaysC
import Derived.Shelf.Strconv.ToError
import Derived.Shelf.Strconv.Lower
import Derived.Shelf.Strconv.ParseUint10
import Derived.Shelf.Strconv.ParseUint10Empty
import Derived.Shelf.Strconv.ParseUint10Any
import Derived.Shelf.Strconv.ParseInt10
import Derived.Shelf.Strconv.AtoiLong
import Derived.Shelf.Strconv.AtoiInnerAll
import Derived.Shelf.Strconv.RangeError
import Derived.Shelf.Strconv.ToErrorRange
import Derived.Shelf.Strconv.AtoiAll
import Derived.Shelf.Strconv.ErrVarAll
import Derived.Shelf.Strconv.ParseUintEmpty
import Derived.Shelf.Strconv.ParseUint10b64
import Derived.Shelf.Strconv.ParseUint10b32
import Derived.Shelf.Strconv.ParseUint10b16
import Derived.Shelf.Strconv.ParseUint10b8
import Derived.Shelf.Strconv.ParseUint10At
import Derived.Shelf.Strconv.ParseInt10At64
import Derived.Shelf.Strconv.ParseInt10At32
import Derived.Shelf.Strconv.ParseInt10At16
import Derived.Shelf.Strconv.ParseInt10At8
import Derived.Shelf.Strconv.ParseInt10All
import Derived.Ground.MpProg
import Derived.Shelf.Pu.ParseUintPublic10
import Derived.Shelf.Pu.ErrVarParseUint
import Derived.Shelf.Strings.Search1
import Derived.Shelf.Strings.Search2
import Derived.Shelf.Strings.Cut
import Derived.Shelf.Strings.Shaped
import Derived.Shelf.Strings.Prefix
import Derived.Shelf.Strings.BuilderCap
import Derived.Test.YtgfgpepdkffhbaaGreatDoorProg
namespace Go.Proofs
open Go.Shelf
def Tryz.lays169_ren : Go.Shelf.Ren := ⟨fun | 169 => 59 | n => n, fun | 70 => 94 | 9 => 9 | 0 => 0 | 72 => 97 | 37 => 95 | 127 => 135 | 3 => 3 | 5 => 5 | n => n, fun | n => n⟩
theorem Tryz.lays169 : Go.Proofs.Lays.n169 Tryz.prog Tryz.lays169_ren := {
  mixed := by kernel_rfl
  f169 := Tryz.func59.trans (congrArg some (by kernel_rfl))
  t0 := Tryz.underlying0
  a0 := Tryz.isAgg0
  z0 := Tryz.sizeOf0
  v0 := Tryz.zeroValue0
  t3 := Tryz.underlying3
  a3 := Tryz.isAgg3
  z3 := Tryz.sizeOf3
  v3 := Tryz.zeroValue3
  t9 := Tryz.underlying9
  a9 := Tryz.isAgg9
  z9 := Tryz.sizeOf9
  v9 := Tryz.zeroValue9
  t37 := Tryz.underlying95
  a37 := Tryz.isAgg95
  z37 := Tryz.sizeOf95
  v37 := Tryz.zeroValue95
  t70 := Tryz.underlying94
  a70 := Tryz.isAgg94
  z70 := Tryz.sizeOf94
  v70 := Tryz.zeroValue94
  t72 := Tryz.underlying97
  a72 := Tryz.isAgg97
  z72 := Tryz.sizeOf97
  v72 := Tryz.zeroValue97
  t127 := Tryz.underlying135
  a127 := Tryz.isAgg135
  z127 := Tryz.sizeOf135
  v127 := Tryz.zeroValue135 }
theorem Tryz.Builder_Extra_169 : Builder.Extra Tryz.prog Tryz.lays169_ren := {
  sizeBuilder := by kernel_rfl
  liesBuilder := by kernel_rfl
  t5 := Tryz.underlying5
  a5 := Tryz.isAgg5
  z5 := Tryz.sizeOf5
  v5 := Tryz.zeroValue5
  infoByte := by kernel_rfl
  cellsByte := by kernel_rfl
  sizeByte := by kernel_rfl
  neB5 := by decide }
def Tryz.lays106_ren : Go.Shelf.Ren := ⟨fun | 106 => 105 | 213 => 124 | 265 => 140 | n => n, fun | 9 => 9 | 3 => 3 | n => n, fun | n => n⟩
theorem Tryz.lays106 : Go.Proofs.Lays.n106 Tryz.prog Tryz.lays106_ren := {
  mixed := by kernel_rfl
  f106 := Tryz.func105.trans (congrArg some (by kernel_rfl))
  f213 := Tryz.func124.trans (congrArg some (by kernel_rfl))
  f265 := Tryz.func140.trans (congrArg some (by kernel_rfl))
  t3 := Tryz.underlying3
  a3 := Tryz.isAgg3
  z3 := Tryz.sizeOf3
  v3 := Tryz.zeroValue3
  t9 := Tryz.underlying9
  a9 := Tryz.isAgg9
  z9 := Tryz.sizeOf9
  v9 := Tryz.zeroValue9 }
open Go.RowKit in
theorem Tryz.strings_Compare (a b : ByteArray) (w : World) :
    Calls Tryz.prog 105 #[.string a, .string b] w fun e w' => e = .returned (.int .i64 (Lib.compareBytes a.data.toList b.data.toList)) ∧ w' = w := Any.strings_Compare Tryz.lays106 a b w
def Tryz.lays103_ren : Go.Shelf.Ren := ⟨fun | 103 => 103 | 210 => 122 | 206 => 131 | n => n, fun | 9 => 9 | 4 => 4 | 24 => 139 | 3 => 3 | n => n, fun | n => n⟩
theorem Tryz.lays103 : Go.Proofs.Lays.n103 Tryz.prog Tryz.lays103_ren := {
  mixed := by kernel_rfl
  f103 := Tryz.func103.trans (congrArg some (by kernel_rfl))
  f206 := Tryz.func131.trans (congrArg some (by kernel_rfl))
  f210 := Tryz.func122.trans (congrArg some (by kernel_rfl))
  t3 := Tryz.underlying3
  a3 := Tryz.isAgg3
  z3 := Tryz.sizeOf3
  v3 := Tryz.zeroValue3
  t4 := Tryz.underlying4
  a4 := Tryz.isAgg4
  z4 := Tryz.sizeOf4
  v4 := Tryz.zeroValue4
  t9 := Tryz.underlying9
  a9 := Tryz.isAgg9
  z9 := Tryz.sizeOf9
  v9 := Tryz.zeroValue9
  t24 := Tryz.underlying139
  a24 := Tryz.isAgg139
  z24 := Tryz.sizeOf139
  v24 := Tryz.zeroValue139 }
open Go.RowKit in
theorem Tryz.strings_CutPrefix (s p : ByteArray) (w : World) :
    Calls Tryz.prog 103 #[.string s, .string p] w fun e w' => e = .returned (.tuple #[.string ⟨(Lib.trimPrefix s.data.toList p.data.toList).toArray⟩, .bool (Lib.hasPrefix s.data.toList p.data.toList)]) ∧ w' = w := Any.strings_CutPrefix Tryz.lays103 s p w
open Go.RowKit in
theorem Tryz.Builder_String_any_k (B b : Nat) (l : List UInt8) (w : World) (h : Lib.IsBuilderF 97 5 B b (Lib.byteCells l) w) (hBw : B ≤ w.heap.size) :
    Calls Tryz.prog 59 #[.pointer (some ⟨b, 0, none⟩)] w fun e w' => e = .returned (.string ⟨l.toArray⟩) ∧ (Lib.IsBuilderF 97 5 B b (Lib.byteCells l) w' ∧ Below B w w' ∧ Lib.OthersKept 5 (some b) w w') := Any.Builder_String_any_k Tryz.lays169 Tryz.Builder_Extra_169 B b l w h hBw
def Tryz.lays283_ren : Go.Shelf.Ren := ⟨fun | 283 => 132 | n => n, fun | 3 => 3 | 9 => 9 | 4 => 4 | n => n, fun | n => n⟩
theorem Tryz.lays283 : Go.Proofs.Lays.n283 Tryz.prog Tryz.lays283_ren := {
  mixed := by kernel_rfl
  f283 := Tryz.func132.trans (congrArg some (by kernel_rfl))
  t3 := Tryz.underlying3
  a3 := Tryz.isAgg3
  z3 := Tryz.sizeOf3
  v3 := Tryz.zeroValue3
  t4 := Tryz.underlying4
  a4 := Tryz.isAgg4
  z4 := Tryz.sizeOf4
  v4 := Tryz.zeroValue4
  t9 := Tryz.underlying9
  a9 := Tryz.isAgg9
  z9 := Tryz.sizeOf9
  v9 := Tryz.zeroValue9 }
open Go.Lib in
theorem Tryz.internal_strconv_small (i : Nat) (h : i < 100) (w : World) :
    Calls Tryz.prog 132 #[.int .i64 i] w fun e w' => e = .returned (.string ⟨(Lib.decDigits i).toArray⟩) ∧ w' = w := Any.internal_strconv_small Tryz.lays283 i h w
def Tryz.laysM284_ren : Go.Shelf.Ren := ⟨fun | 284 => 133 | 129 => 149 | 317 => 148 | 318 => 150 | n => n, fun | 53 => 145 | 3 => 3 | 212 => 180 | 0 => 0 | 4 => 4 | 46 => 170 | 5 => 5 | 9 => 9 | n => n, fun | 17 => 1 | n => n⟩
theorem Tryz.laysM284 : Go.Proofs.LaysM.n284 Tryz.prog Tryz.laysM284_ren := {
  mixed := by kernel_rfl
  f129 := Tryz.func149.trans (congrArg some (by kernel_rfl))
  f284 := Tryz.func133.trans (congrArg some (by kernel_rfl))
  f317 := Tryz.func148.trans (congrArg some (by kernel_rfl))
  f318 := Tryz.func150.trans (congrArg some (by kernel_rfl))
  t0 := Tryz.underlying0
  a0 := Tryz.isAgg0
  z0 := Tryz.sizeOf0
  v0 := Tryz.zeroValue0
  t3 := Tryz.underlying3
  a3 := Tryz.isAgg3
  z3 := Tryz.sizeOf3
  v3 := Tryz.zeroValue3
  t4 := Tryz.underlying4
  a4 := Tryz.isAgg4
  z4 := Tryz.sizeOf4
  v4 := Tryz.zeroValue4
  t5 := Tryz.underlying5
  a5 := Tryz.isAgg5
  z5 := Tryz.sizeOf5
  v5 := Tryz.zeroValue5
  t9 := Tryz.underlying9
  a9 := Tryz.isAgg9
  z9 := Tryz.sizeOf9
  v9 := Tryz.zeroValue9
  t46 := Tryz.underlying170
  a46 := Tryz.isAgg170
  z46 := Tryz.sizeOf170
  v46 := Tryz.zeroValue170
  t53 := Tryz.underlying145
  a53 := Tryz.isAgg145
  z53 := Tryz.sizeOf145
  v53 := Tryz.zeroValue145
  t212 := Tryz.underlying180
  a212 := Tryz.isAgg180
  z212 := Tryz.sizeOf180
  v212 := Tryz.zeroValue180
  g17 := by kernel_rfl
  i0 := by kernel_rfl
  i3 := by kernel_rfl
  i4 := by kernel_rfl
  i5 := by kernel_rfl
  i9 := by kernel_rfl
  i46 := by kernel_rfl
  i53 := by kernel_rfl
  i212 := by kernel_rfl
  m17 := by kernel_rfl }
open Go.Lib in
theorem Tryz.internal_strconv_numDigits (u : Nat) (h1 : 1 ≤ u) (h2 : u < 18446744073709551616) (w : World) (htab : Lib.TabIs Tryz.prog w "internal/strconv.uint64pow10" .u64 Lib.pow10Tab) :
    Calls Tryz.prog 133 #[.int .u64 u] w fun e w' => e = .returned (.int .i64 (Lib.nDigits u)) ∧ w' = w := Any.internal_strconv_numDigits Tryz.laysM284 u h1 h2 w htab
def Tryz.lays285_ren : Go.Shelf.Ren := ⟨fun | 285 => 134 | n => n, fun | 37 => 95 | 53 => 145 | 3 => 3 | 4 => 4 | 51 => 181 | 9 => 9 | 5 => 5 | 0 => 0 | n => n, fun | n => n⟩
theorem Tryz.lays285 : Go.Proofs.Lays.n285 Tryz.prog Tryz.lays285_ren := {
  mixed := by kernel_rfl
  f285 := Tryz.func134.trans (congrArg some (by kernel_rfl))
  t0 := Tryz.underlying0
  a0 := Tryz.isAgg0
  z0 := Tryz.sizeOf0
  v0 := Tryz.zeroValue0
  t3 := Tryz.underlying3
  a3 := Tryz.isAgg3
  z3 := Tryz.sizeOf3
  v3 := Tryz.zeroValue3
  t4 := Tryz.underlying4
  a4 := Tryz.isAgg4
  z4 := Tryz.sizeOf4
  v4 := Tryz.zeroValue4
  t5 := Tryz.underlying5
  a5 := Tryz.isAgg5
  z5 := Tryz.sizeOf5
  v5 := Tryz.zeroValue5
  t9 := Tryz.underlying9
  a9 := Tryz.isAgg9
  z9 := Tryz.sizeOf9
  v9 := Tryz.zeroValue9
  t37 := Tryz.underlying95
  a37 := Tryz.isAgg95
  z37 := Tryz.sizeOf95
  v37 := Tryz.zeroValue95
  t51 := Tryz.underlying181
  a51 := Tryz.isAgg181
  z51 := Tryz.sizeOf181
  v51 := Tryz.zeroValue181
  t53 := Tryz.underlying145
  a53 := Tryz.isAgg145
  z53 := Tryz.sizeOf145
  v53 := Tryz.zeroValue145 }
open Go.RowKit Go.Sort Go.Lib in
theorem Tryz.internal_strconv_formatBase10 (blk off cap : Nat) (u : Nat) (d : Array UInt8) (w : World) (hH : Holds (fun (b : UInt8) => Value.int .u8 (b.toNat : Int)) w blk off d) (hu : u < 10 ^ d.size) (hu64 : u < 18446744073709551616) (hsz : d.size < 4611686018427387904) :
    Calls Tryz.prog 134 #[.slice (some ⟨blk, off, none⟩) d.size cap, .int .u64 u] w fun e w' =>
      e = .returned (.tuple #[]) ∧ ∃ (n v' : Nat) (dk : Array UInt8), w' = (putRow (fun (b : UInt8) => Value.int .u8 (b.toNat : Int)) w blk off dk).drewN n ∧ FmtInv d.size u 0 v' dk := Any.internal_strconv_formatBase10 Tryz.lays285 blk off cap u d w hH hu hu64 hsz
def Tryz.laysM171_ren : Go.Shelf.Ren := ⟨fun | 171 => 56 | 243 => 97 | 246 => 117 | 283 => 132 | 284 => 133 | 285 => 134 | 286 => 135 | 129 => 149 | 317 => 148 | 318 => 150 | 319 => 151 | 320 => 152 | 337 => 157 | 338 => 158 | n => n, fun | 3 => 3 | 9 => 9 | 2 => 2 | 4 => 4 | 171 => 163 | 0 => 0 | 53 => 145 | 37 => 95 | 5 => 5 | 173 => 166 | 212 => 180 | 51 => 181 | 20 => 20 | 213 => 182 | 46 => 170 | 232 => 195 | 233 => 196 | n => n, fun | 17 => 1 | 18 => 4 | 19 => 5 | n => n⟩
theorem Tryz.laysM171 : Go.Proofs.LaysM.n171 Tryz.prog Tryz.laysM171_ren := {
  mixed := by kernel_rfl
  f129 := Tryz.func149.trans (congrArg some (by kernel_rfl))
  f171 := Tryz.func56.trans (congrArg some (by kernel_rfl))
  f243 := Tryz.func97.trans (congrArg some (by kernel_rfl))
  f246 := Tryz.func117.trans (congrArg some (by kernel_rfl))
  f283 := Tryz.func132.trans (congrArg some (by kernel_rfl))
  f284 := Tryz.func133.trans (congrArg some (by kernel_rfl))
  f285 := Tryz.func134.trans (congrArg some (by kernel_rfl))
  f286 := Tryz.func135.trans (congrArg some (by kernel_rfl))
  f317 := Tryz.func148.trans (congrArg some (by kernel_rfl))
  f318 := Tryz.func150.trans (congrArg some (by kernel_rfl))
  f319 := Tryz.func151.trans (congrArg some (by kernel_rfl))
  f320 := Tryz.func152.trans (congrArg some (by kernel_rfl))
  f337 := Tryz.func157.trans (congrArg some (by kernel_rfl))
  f338 := Tryz.func158.trans (congrArg some (by kernel_rfl))
  t0 := Tryz.underlying0
  a0 := Tryz.isAgg0
  z0 := Tryz.sizeOf0
  v0 := Tryz.zeroValue0
  t2 := Tryz.underlying2
  a2 := Tryz.isAgg2
  z2 := Tryz.sizeOf2
  v2 := Tryz.zeroValue2
  t3 := Tryz.underlying3
  a3 := Tryz.isAgg3
  z3 := Tryz.sizeOf3
  v3 := Tryz.zeroValue3
  t4 := Tryz.underlying4
  a4 := Tryz.isAgg4
  z4 := Tryz.sizeOf4
  v4 := Tryz.zeroValue4
  t5 := Tryz.underlying5
  a5 := Tryz.isAgg5
  z5 := Tryz.sizeOf5
  v5 := Tryz.zeroValue5
  t9 := Tryz.underlying9
  a9 := Tryz.isAgg9
  z9 := Tryz.sizeOf9
  v9 := Tryz.zeroValue9
  t20 := Tryz.underlying20
  a20 := Tryz.isAgg20
  z20 := Tryz.sizeOf20
  v20 := Tryz.zeroValue20
  t37 := Tryz.underlying95
  a37 := Tryz.isAgg95
  z37 := Tryz.sizeOf95
  v37 := Tryz.zeroValue95
  t46 := Tryz.underlying170
  a46 := Tryz.isAgg170
  z46 := Tryz.sizeOf170
  v46 := Tryz.zeroValue170
  t51 := Tryz.underlying181
  a51 := Tryz.isAgg181
  z51 := Tryz.sizeOf181
  v51 := Tryz.zeroValue181
  t53 := Tryz.underlying145
  a53 := Tryz.isAgg145
  z53 := Tryz.sizeOf145
  v53 := Tryz.zeroValue145
  t171 := Tryz.underlying163
  a171 := Tryz.isAgg163
  z171 := Tryz.sizeOf163
  v171 := Tryz.zeroValue163
  t173 := Tryz.underlying166
  a173 := Tryz.isAgg166
  z173 := Tryz.sizeOf166
  v173 := Tryz.zeroValue166
  t212 := Tryz.underlying180
  a212 := Tryz.isAgg180
  z212 := Tryz.sizeOf180
  v212 := Tryz.zeroValue180
  t213 := Tryz.underlying182
  a213 := Tryz.isAgg182
  z213 := Tryz.sizeOf182
  t232 := Tryz.underlying195
  a232 := Tryz.isAgg195
  z232 := Tryz.sizeOf195
  v232 := Tryz.zeroValue195
  t233 := Tryz.underlying196
  a233 := Tryz.isAgg196
  z233 := Tryz.sizeOf196
  v233 := Tryz.zeroValue196
  g17 := by kernel_rfl
  g18 := by kernel_rfl
  g19 := by kernel_rfl
  i0 := by kernel_rfl
  i2 := by kernel_rfl
  i3 := by kernel_rfl
  i4 := by kernel_rfl
  i5 := by kernel_rfl
  i9 := by kernel_rfl
  i20 := by kernel_rfl
  i37 := by kernel_rfl
  i46 := by kernel_rfl
  i51 := by kernel_rfl
  i53 := by kernel_rfl
  i171 := by kernel_rfl
  i173 := by kernel_rfl
  i212 := by kernel_rfl
  i232 := by kernel_rfl
  i233 := by kernel_rfl
  m17 := by kernel_rfl
  m18 := by kernel_rfl
  m19 := by kernel_rfl }
open Go.RowKit Go.Sort Go.Lib in
theorem Tryz.strconv_Itoa (n : Int) (h0 : -9223372036854775808 ≤ n) (h1 : n ≤ 9223372036854775807) (w : World) (htab : Lib.TabIs Tryz.prog w "internal/strconv.uint64pow10" .u64 Lib.pow10Tab) :
    Calls Tryz.prog 56 #[.int .i64 n] w fun e w' => e = .returned (.string ⟨(Lib.itoa n).toArray⟩) ∧ ∃ k os, w' = grow (w.drewN k) os := Any.strconv_Itoa Tryz.laysM171 n h0 h1 w htab
def Tryz.laysC172_ren : Go.Shelf.Ren := ⟨fun | 172 => 107 | 244 => 126 | 245 => 127 | 247 => 141 | 279 => 142 | 280 => 143 | 281 => 144 | 282 => 145 | 287 => 128 | 316 => 155 | 171 => 56 | 205 => 156 | 321 => 146 | 322 => 147 | 243 => 97 | 246 => 117 | 283 => 132 | 284 => 133 | 285 => 134 | 286 => 135 | 129 => 149 | 317 => 148 | 318 => 150 | 319 => 151 | 320 => 152 | 337 => 157 | 338 => 158 | n => n, fun | 9 => 9 | 3 => 3 | 75 => 100 | 76 => 101 | 4 => 4 | 5 => 5 | 167 => 171 | 37 => 95 | 0 => 0 | 85 => 172 | 2 => 2 | 168 => 174 | 53 => 145 | 175 => 146 | 46 => 170 | 210 => 189 | 127 => 135 | 145 => 194 | 143 => 192 | 21 => 21 | 171 => 163 | 173 => 166 | 212 => 180 | 51 => 181 | 20 => 20 | 213 => 182 | 232 => 195 | 233 => 196 | 80 => 103 | n => n, fun | 15 => 2 | 16 => 3 | 17 => 1 | 18 => 4 | 19 => 5 | n => n⟩
theorem Tryz.laysC172 : Go.Proofs.LaysC.n172 Tryz.prog Tryz.laysC172_ren := {
  mixed := by kernel_rfl
  f129 := Tryz.func149.trans (congrArg some (by kernel_rfl))
  f171 := Tryz.func56.trans (congrArg some (by kernel_rfl))
  f172 := Tryz.func107.trans (congrArg some (by kernel_rfl))
  f205 := Tryz.func156.trans (congrArg some (by kernel_rfl))
  f243 := Tryz.func97.trans (congrArg some (by kernel_rfl))
  f244 := Tryz.func126.trans (congrArg some (by kernel_rfl))
  f245 := Tryz.func127.trans (congrArg some (by kernel_rfl))
  f246 := Tryz.func117.trans (congrArg some (by kernel_rfl))
  f247 := Tryz.func141.trans (congrArg some (by kernel_rfl))
  f279 := Tryz.func142.trans (congrArg some (by kernel_rfl))
  f280 := Tryz.func143.trans (congrArg some (by kernel_rfl))
  f281 := Tryz.func144.trans (congrArg some (by kernel_rfl))
  f282 := Tryz.func145.trans (congrArg some (by kernel_rfl))
  f283 := Tryz.func132.trans (congrArg some (by kernel_rfl))
  f284 := Tryz.func133.trans (congrArg some (by kernel_rfl))
  f285 := Tryz.func134.trans (congrArg some (by kernel_rfl))
  f286 := Tryz.func135.trans (congrArg some (by kernel_rfl))
  f287 := Tryz.func128.trans (congrArg some (by kernel_rfl))
  f316 := Tryz.func155.trans (congrArg some (by kernel_rfl))
  f317 := Tryz.func148.trans (congrArg some (by kernel_rfl))
  f318 := Tryz.func150.trans (congrArg some (by kernel_rfl))
  f319 := Tryz.func151.trans (congrArg some (by kernel_rfl))
  f320 := Tryz.func152.trans (congrArg some (by kernel_rfl))
  f321 := Tryz.func146.trans (congrArg some (by kernel_rfl))
  f322 := Tryz.func147.trans (congrArg some (by kernel_rfl))
  f337 := Tryz.func157.trans (congrArg some (by kernel_rfl))
  f338 := Tryz.func158.trans (congrArg some (by kernel_rfl))
  t0 := Tryz.underlying0
  a0 := Tryz.isAgg0
  z0 := Tryz.sizeOf0
  v0 := Tryz.zeroValue0
  t2 := Tryz.underlying2
  a2 := Tryz.isAgg2
  z2 := Tryz.sizeOf2
  v2 := Tryz.zeroValue2
  t3 := Tryz.underlying3
  a3 := Tryz.isAgg3
  z3 := Tryz.sizeOf3
  v3 := Tryz.zeroValue3
  t4 := Tryz.underlying4
  a4 := Tryz.isAgg4
  z4 := Tryz.sizeOf4
  v4 := Tryz.zeroValue4
  t5 := Tryz.underlying5
  a5 := Tryz.isAgg5
  z5 := Tryz.sizeOf5
  v5 := Tryz.zeroValue5
  t9 := Tryz.underlying9
  a9 := Tryz.isAgg9
  z9 := Tryz.sizeOf9
  v9 := Tryz.zeroValue9
  t20 := Tryz.underlying20
  a20 := Tryz.isAgg20
  z20 := Tryz.sizeOf20
  v20 := Tryz.zeroValue20
  t21 := Tryz.underlying21
  a21 := Tryz.isAgg21
  z21 := Tryz.sizeOf21
  v21 := Tryz.zeroValue21
  t37 := Tryz.underlying95
  a37 := Tryz.isAgg95
  z37 := Tryz.sizeOf95
  v37 := Tryz.zeroValue95
  t46 := Tryz.underlying170
  a46 := Tryz.isAgg170
  z46 := Tryz.sizeOf170
  v46 := Tryz.zeroValue170
  t51 := Tryz.underlying181
  a51 := Tryz.isAgg181
  z51 := Tryz.sizeOf181
  v51 := Tryz.zeroValue181
  t53 := Tryz.underlying145
  a53 := Tryz.isAgg145
  z53 := Tryz.sizeOf145
  v53 := Tryz.zeroValue145
  t75 := Tryz.underlying100
  a75 := Tryz.isAgg100
  z75 := Tryz.sizeOf100
  v75 := Tryz.zeroValue100
  t76 := Tryz.underlying101
  a76 := Tryz.isAgg101
  z76 := Tryz.sizeOf101
  v76 := Tryz.zeroValue101
  t85 := Tryz.underlying172
  a85 := Tryz.isAgg172
  z85 := Tryz.sizeOf172
  v85 := Tryz.zeroValue172
  t127 := Tryz.underlying135
  a127 := Tryz.isAgg135
  z127 := Tryz.sizeOf135
  v127 := Tryz.zeroValue135
  t143 := Tryz.underlying192
  a143 := Tryz.isAgg192
  z143 := Tryz.sizeOf192
  v143 := Tryz.zeroValue192
  t145 := Tryz.underlying194
  a145 := Tryz.isAgg194
  z145 := Tryz.sizeOf194
  v145 := Tryz.zeroValue194
  t167 := Tryz.underlying171
  a167 := Tryz.isAgg171
  z167 := Tryz.sizeOf171
  v167 := Tryz.zeroValue171
  t168 := Tryz.underlying174
  a168 := Tryz.isAgg174
  z168 := Tryz.sizeOf174
  v168 := Tryz.zeroValue174
  t171 := Tryz.underlying163
  a171 := Tryz.isAgg163
  z171 := Tryz.sizeOf163
  v171 := Tryz.zeroValue163
  t173 := Tryz.underlying166
  a173 := Tryz.isAgg166
  z173 := Tryz.sizeOf166
  v173 := Tryz.zeroValue166
  t175 := Tryz.underlying146
  a175 := Tryz.isAgg146
  z175 := Tryz.sizeOf146
  v175 := Tryz.zeroValue146
  t210 := Tryz.underlying189
  a210 := Tryz.isAgg189
  z210 := Tryz.sizeOf189
  v210 := Tryz.zeroValue189
  t212 := Tryz.underlying180
  a212 := Tryz.isAgg180
  z212 := Tryz.sizeOf180
  v212 := Tryz.zeroValue180
  t213 := Tryz.underlying182
  a213 := Tryz.isAgg182
  z213 := Tryz.sizeOf182
  t232 := Tryz.underlying195
  a232 := Tryz.isAgg195
  z232 := Tryz.sizeOf195
  v232 := Tryz.zeroValue195
  t233 := Tryz.underlying196
  a233 := Tryz.isAgg196
  z233 := Tryz.sizeOf196
  v233 := Tryz.zeroValue196
  g15 := by kernel_rfl
  g16 := by kernel_rfl
  g17 := by kernel_rfl
  g18 := by kernel_rfl
  g19 := by kernel_rfl
  t80 := Tryz.underlying103
  a80 := Tryz.isAgg103
  z80 := Tryz.sizeOf103
  v80 := Tryz.zeroValue103
  i0 := by kernel_rfl
  i2 := by kernel_rfl
  i3 := by kernel_rfl
  i4 := by kernel_rfl
  i5 := by kernel_rfl
  i9 := by kernel_rfl
  i20 := by kernel_rfl
  i21 := by kernel_rfl
  i37 := by kernel_rfl
  i46 := by kernel_rfl
  i51 := by kernel_rfl
  i53 := by kernel_rfl
  i75 := by kernel_rfl
  i76 := by kernel_rfl
  i80 := by kernel_rfl
  i85 := by kernel_rfl
  i127 := by kernel_rfl
  i143 := by kernel_rfl
  i145 := by kernel_rfl
  i167 := by kernel_rfl
  i168 := by kernel_rfl
  i171 := by kernel_rfl
  i173 := by kernel_rfl
  i175 := by kernel_rfl
  i210 := by kernel_rfl
  i212 := by kernel_rfl
  i232 := by kernel_rfl
  i233 := by kernel_rfl
  m15 := by kernel_rfl
  m16 := by kernel_rfl
  m17 := by kernel_rfl
  m18 := by kernel_rfl
  m19 := by kernel_rfl
  c0 := by kernel_rfl
  c2 := by kernel_rfl
  c3 := by kernel_rfl
  c4 := by kernel_rfl
  c5 := by kernel_rfl
  c9 := by kernel_rfl
  c20 := by kernel_rfl
  c21 := by kernel_rfl
  c37 := by kernel_rfl
  c46 := by kernel_rfl
  c51 := by kernel_rfl
  c53 := by kernel_rfl
  c75 := by kernel_rfl
  c76 := by kernel_rfl
  c80 := by kernel_rfl
  c85 := by kernel_rfl
  c127 := by kernel_rfl
  c143 := by kernel_rfl
  c145 := by kernel_rfl
  c167 := by kernel_rfl
  c168 := by kernel_rfl
  c171 := by kernel_rfl
  c173 := by kernel_rfl
  c175 := by kernel_rfl
  c210 := by kernel_rfl
  c212 := by kernel_rfl
  c213 := by kernel_rfl
  c232 := by kernel_rfl
  c233 := by kernel_rfl }
open Go.RowKit in
theorem Tryz.strconv_Atoi_ok (s : ByteArray) (hmax : s.size ≤ 9223372036854775806) (v : Int) (h : Lib.atoiAll s.data.toList = .ok v) (w : World) :
    Calls Tryz.prog 107 #[.string s] w fun e w' => e = .returned (.tuple #[.int .i64 v, .nilIface]) ∧ (w' = w ∨ ∃ t, w' = Lib.bytesWorld w 5 t) := Any.strconv_Atoi_ok Tryz.laysC172 s hmax v h w
def Tryz.laysPu14_ren : Go.Shelf.Ren := ⟨fun | 14 => 108 | 16 => 128 | 17 => 127 | 19 => 146 | 20 => 147 | 21 => 142 | 22 => 143 | 23 => 144 | 24 => 145 | 25 => 155 | 27 => 56 | 26 => 156 | 28 => 97 | 29 => 117 | 30 => 132 | 31 => 133 | 32 => 134 | 33 => 135 | 35 => 149 | 34 => 148 | 36 => 150 | 37 => 151 | 38 => 152 | 39 => 157 | 40 => 158 | n => n, fun | 9 => 9 | 3 => 3 | 22 => 145 | 24 => 100 | 25 => 146 | 4 => 4 | 34 => 171 | 5 => 5 | 36 => 170 | 37 => 95 | 0 => 0 | 39 => 174 | 21 => 21 | 44 => 189 | 47 => 135 | 50 => 194 | 48 => 192 | 2 => 2 | 52 => 163 | 55 => 166 | 59 => 180 | 60 => 181 | 20 => 20 | 61 => 182 | 65 => 195 | 66 => 196 | 67 => 103 | n => n, fun | 0 => 2 | 1 => 3 | 2 => 1 | 3 => 4 | 4 => 5 | n => n⟩
theorem Tryz.laysPu14 : Go.Proofs.LaysPu.n14 Tryz.prog Tryz.laysPu14_ren := {
  mixed := by kernel_rfl
  f14 := Tryz.func108.trans (congrArg some (by kernel_rfl))
  f16 := Tryz.func128.trans (congrArg some (by kernel_rfl))
  f17 := Tryz.func127.trans (congrArg some (by kernel_rfl))
  f19 := Tryz.func146.trans (congrArg some (by kernel_rfl))
  f20 := Tryz.func147.trans (congrArg some (by kernel_rfl))
  f21 := Tryz.func142.trans (congrArg some (by kernel_rfl))
  f22 := Tryz.func143.trans (congrArg some (by kernel_rfl))
  f23 := Tryz.func144.trans (congrArg some (by kernel_rfl))
  f24 := Tryz.func145.trans (congrArg some (by kernel_rfl))
  f25 := Tryz.func155.trans (congrArg some (by kernel_rfl))
  f26 := Tryz.func156.trans (congrArg some (by kernel_rfl))
  f27 := Tryz.func56.trans (congrArg some (by kernel_rfl))
  f28 := Tryz.func97.trans (congrArg some (by kernel_rfl))
  f29 := Tryz.func117.trans (congrArg some (by kernel_rfl))
  f30 := Tryz.func132.trans (congrArg some (by kernel_rfl))
  f31 := Tryz.func133.trans (congrArg some (by kernel_rfl))
  f32 := Tryz.func134.trans (congrArg some (by kernel_rfl))
  f33 := Tryz.func135.trans (congrArg some (by kernel_rfl))
  f34 := Tryz.func148.trans (congrArg some (by kernel_rfl))
  f35 := Tryz.func149.trans (congrArg some (by kernel_rfl))
  f36 := Tryz.func150.trans (congrArg some (by kernel_rfl))
  f37 := Tryz.func151.trans (congrArg some (by kernel_rfl))
  f38 := Tryz.func152.trans (congrArg some (by kernel_rfl))
  f39 := Tryz.func157.trans (congrArg some (by kernel_rfl))
  f40 := Tryz.func158.trans (congrArg some (by kernel_rfl))
  t0 := Tryz.underlying0
  a0 := Tryz.isAgg0
  z0 := Tryz.sizeOf0
  v0 := Tryz.zeroValue0
  i0 := by kernel_rfl
  t2 := Tryz.underlying2
  a2 := Tryz.isAgg2
  z2 := Tryz.sizeOf2
  v2 := Tryz.zeroValue2
  i2 := by kernel_rfl
  t3 := Tryz.underlying3
  a3 := Tryz.isAgg3
  z3 := Tryz.sizeOf3
  v3 := Tryz.zeroValue3
  i3 := by kernel_rfl
  t4 := Tryz.underlying4
  a4 := Tryz.isAgg4
  z4 := Tryz.sizeOf4
  v4 := Tryz.zeroValue4
  i4 := by kernel_rfl
  t5 := Tryz.underlying5
  a5 := Tryz.isAgg5
  z5 := Tryz.sizeOf5
  v5 := Tryz.zeroValue5
  i5 := by kernel_rfl
  t9 := Tryz.underlying9
  a9 := Tryz.isAgg9
  z9 := Tryz.sizeOf9
  v9 := Tryz.zeroValue9
  i9 := by kernel_rfl
  t20 := Tryz.underlying20
  a20 := Tryz.isAgg20
  z20 := Tryz.sizeOf20
  v20 := Tryz.zeroValue20
  i20 := by kernel_rfl
  t21 := Tryz.underlying21
  a21 := Tryz.isAgg21
  z21 := Tryz.sizeOf21
  v21 := Tryz.zeroValue21
  i21 := by kernel_rfl
  t22 := Tryz.underlying145
  a22 := Tryz.isAgg145
  z22 := Tryz.sizeOf145
  v22 := Tryz.zeroValue145
  i22 := by kernel_rfl
  t24 := Tryz.underlying100
  a24 := Tryz.isAgg100
  z24 := Tryz.sizeOf100
  v24 := Tryz.zeroValue100
  i24 := by kernel_rfl
  t25 := Tryz.underlying146
  a25 := Tryz.isAgg146
  z25 := Tryz.sizeOf146
  v25 := Tryz.zeroValue146
  i25 := by kernel_rfl
  t34 := Tryz.underlying171
  a34 := Tryz.isAgg171
  z34 := Tryz.sizeOf171
  v34 := Tryz.zeroValue171
  i34 := by kernel_rfl
  c34 := by kernel_rfl
  t36 := Tryz.underlying170
  a36 := Tryz.isAgg170
  z36 := Tryz.sizeOf170
  v36 := Tryz.zeroValue170
  i36 := by kernel_rfl
  t37 := Tryz.underlying95
  a37 := Tryz.isAgg95
  z37 := Tryz.sizeOf95
  v37 := Tryz.zeroValue95
  i37 := by kernel_rfl
  t39 := Tryz.underlying174
  a39 := Tryz.isAgg174
  z39 := Tryz.sizeOf174
  v39 := Tryz.zeroValue174
  i39 := by kernel_rfl
  t44 := Tryz.underlying189
  a44 := Tryz.isAgg189
  z44 := Tryz.sizeOf189
  v44 := Tryz.zeroValue189
  i44 := by kernel_rfl
  t47 := Tryz.underlying135
  a47 := Tryz.isAgg135
  z47 := Tryz.sizeOf135
  v47 := Tryz.zeroValue135
  i47 := by kernel_rfl
  t48 := Tryz.underlying192
  a48 := Tryz.isAgg192
  z48 := Tryz.sizeOf192
  v48 := Tryz.zeroValue192
  i48 := by kernel_rfl
  t50 := Tryz.underlying194
  a50 := Tryz.isAgg194
  z50 := Tryz.sizeOf194
  v50 := Tryz.zeroValue194
  i50 := by kernel_rfl
  t52 := Tryz.underlying163
  a52 := Tryz.isAgg163
  z52 := Tryz.sizeOf163
  v52 := Tryz.zeroValue163
  i52 := by kernel_rfl
  t55 := Tryz.underlying166
  a55 := Tryz.isAgg166
  z55 := Tryz.sizeOf166
  v55 := Tryz.zeroValue166
  i55 := by kernel_rfl
  t59 := Tryz.underlying180
  a59 := Tryz.isAgg180
  z59 := Tryz.sizeOf180
  v59 := Tryz.zeroValue180
  i59 := by kernel_rfl
  t60 := Tryz.underlying181
  a60 := Tryz.isAgg181
  z60 := Tryz.sizeOf181
  v60 := Tryz.zeroValue181
  i60 := by kernel_rfl
  t61 := Tryz.underlying182
  a61 := Tryz.isAgg182
  z61 := Tryz.sizeOf182
  t65 := Tryz.underlying195
  a65 := Tryz.isAgg195
  z65 := Tryz.sizeOf195
  v65 := Tryz.zeroValue195
  i65 := by kernel_rfl
  t66 := Tryz.underlying196
  a66 := Tryz.isAgg196
  z66 := Tryz.sizeOf196
  v66 := Tryz.zeroValue196
  i66 := by kernel_rfl
  t67 := Tryz.underlying103
  a67 := Tryz.isAgg103
  z67 := Tryz.sizeOf103
  v67 := Tryz.zeroValue103
  i67 := by kernel_rfl
  g0 := by kernel_rfl
  m0 := by kernel_rfl
  g1 := by kernel_rfl
  m1 := by kernel_rfl
  g2 := by kernel_rfl
  m2 := by kernel_rfl
  g3 := by kernel_rfl
  m3 := by kernel_rfl
  g4 := by kernel_rfl
  m4 := by kernel_rfl }
open Go.RowKit in
theorem Tryz.strconv_ParseUint_10_at64_ok (s : ByteArray) (hmax : s.size ≤ 9223372036854775806) (u : Nat) (h : Lib.parseUintB 64 s.data.toList = .ok u) (w : World) :
    Calls Tryz.prog 108 #[.string s, .int .i64 10, .int .i64 64] w fun e w' => e = .returned (.tuple #[.int .u64 u, .nilIface]) ∧ (w' = w ∨ w' = Lib.bytesWorld w 5 s) := Any.strconv_ParseUint_10_at64_ok Tryz.laysPu14 s hmax u h w
def Tryz.laysM145_ren : Go.Shelf.Ren := ⟨fun | 145 => 62 | 220 => 102 | 219 => 121 | 217 => 136 | 225 => 137 | 224 => 138 | 267 => 139 | 266 => 153 | 314 => 154 | n => n, fun | 9 => 9 | 4 => 4 | 59 => 105 | 3 => 3 | 5 => 5 | 46 => 170 | 146 => 185 | 51 => 181 | n => n, fun | 1 => 0 | n => n⟩
theorem Tryz.laysM145 : Go.Proofs.LaysM.n145 Tryz.prog Tryz.laysM145_ren := {
  mixed := by kernel_rfl
  f145 := Tryz.func62.trans (congrArg some (by kernel_rfl))
  f217 := Tryz.func136.trans (congrArg some (by kernel_rfl))
  f219 := Tryz.func121.trans (congrArg some (by kernel_rfl))
  f220 := Tryz.func102.trans (congrArg some (by kernel_rfl))
  f224 := Tryz.func138.trans (congrArg some (by kernel_rfl))
  f225 := Tryz.func137.trans (congrArg some (by kernel_rfl))
  f266 := Tryz.func153.trans (congrArg some (by kernel_rfl))
  f267 := Tryz.func139.trans (congrArg some (by kernel_rfl))
  f314 := Tryz.func154.trans (congrArg some (by kernel_rfl))
  t3 := Tryz.underlying3
  a3 := Tryz.isAgg3
  z3 := Tryz.sizeOf3
  v3 := Tryz.zeroValue3
  t4 := Tryz.underlying4
  a4 := Tryz.isAgg4
  z4 := Tryz.sizeOf4
  v4 := Tryz.zeroValue4
  t5 := Tryz.underlying5
  a5 := Tryz.isAgg5
  z5 := Tryz.sizeOf5
  v5 := Tryz.zeroValue5
  t9 := Tryz.underlying9
  a9 := Tryz.isAgg9
  z9 := Tryz.sizeOf9
  v9 := Tryz.zeroValue9
  t46 := Tryz.underlying170
  a46 := Tryz.isAgg170
  z46 := Tryz.sizeOf170
  v46 := Tryz.zeroValue170
  t51 := Tryz.underlying181
  a51 := Tryz.isAgg181
  z51 := Tryz.sizeOf181
  v51 := Tryz.zeroValue181
  t59 := Tryz.underlying105
  a59 := Tryz.isAgg105
  z59 := Tryz.sizeOf105
  v59 := Tryz.zeroValue105
  t146 := Tryz.underlying185
  a146 := Tryz.isAgg185
  z146 := Tryz.sizeOf185
  v146 := Tryz.zeroValue185
  g1 := by kernel_rfl
  i3 := by kernel_rfl
  i4 := by kernel_rfl
  i5 := by kernel_rfl
  i9 := by kernel_rfl
  i46 := by kernel_rfl
  i51 := by kernel_rfl
  i59 := by kernel_rfl
  i146 := by kernel_rfl
  m1 := by kernel_rfl
  s1_3 := fun w h => Go.Proofs.cell_of_shapedOpen_int (zero := #[.int .i64 0]) (t := 3) h (of_decide_eq_true (by kernel_rfl)) (by kernel_rfl) rfl (by kernel_rfl) (by kernel_rfl) Tryz.underlying3 }
open Go.RowKit Go.Lib in
theorem Tryz.strings_Cut_shaped (s sep : ByteArray) (w : World) (h : w.ShapedOpen Tryz.prog) (hs : s.size < 4294967281) :
    Calls Tryz.prog 62 #[.string s, .string sep] w fun e w' => e = .returned (.tuple #[.string ⟨(Lib.cut s.data.toList sep.data.toList).1.toArray⟩, .string ⟨(Lib.cut s.data.toList sep.data.toList).2.1.toArray⟩, .bool (Lib.cut s.data.toList sep.data.toList).2.2]) ∧ ∃ n, w' = w.drewN n := Any.strings_Cut_shaped Tryz.laysM145 s sep w h hs
def Tryz.lays99_ren : Go.Shelf.Ren := ⟨fun | 99 => 115 | 206 => 131 | n => n, fun | 9 => 9 | 4 => 4 | 3 => 3 | n => n, fun | n => n⟩
theorem Tryz.lays99 : Go.Proofs.Lays.n99 Tryz.prog Tryz.lays99_ren := {
  mixed := by kernel_rfl
  f99 := Tryz.func115.trans (congrArg some (by kernel_rfl))
  f206 := Tryz.func131.trans (congrArg some (by kernel_rfl))
  t3 := Tryz.underlying3
  a3 := Tryz.isAgg3
  z3 := Tryz.sizeOf3
  v3 := Tryz.zeroValue3
  t4 := Tryz.underlying4
  a4 := Tryz.isAgg4
  z4 := Tryz.sizeOf4
  v4 := Tryz.zeroValue4
  t9 := Tryz.underlying9
  a9 := Tryz.isAgg9
  z9 := Tryz.sizeOf9
  v9 := Tryz.zeroValue9 }
open Go.RowKit Go.Lib in
theorem Tryz.strings_HasPrefix (s p : ByteArray) (w : World) :
    Calls Tryz.prog 115 #[.string s, .string p] w fun e w' => e = .returned (.bool (Lib.hasPrefix s.data.toList p.data.toList)) ∧ w' = w := Any.strings_HasPrefix Tryz.lays99 s p w
def Tryz.lays101_ren : Go.Shelf.Ren := ⟨fun | 101 => 104 | 208 => 123 | 206 => 131 | n => n, fun | 9 => 9 | 4 => 4 | 3 => 3 | n => n, fun | n => n⟩
theorem Tryz.lays101 : Go.Proofs.Lays.n101 Tryz.prog Tryz.lays101_ren := {
  mixed := by kernel_rfl
  f101 := Tryz.func104.trans (congrArg some (by kernel_rfl))
  f206 := Tryz.func131.trans (congrArg some (by kernel_rfl))
  f208 := Tryz.func123.trans (congrArg some (by kernel_rfl))
  t3 := Tryz.underlying3
  a3 := Tryz.isAgg3
  z3 := Tryz.sizeOf3
  v3 := Tryz.zeroValue3
  t4 := Tryz.underlying4
  a4 := Tryz.isAgg4
  z4 := Tryz.sizeOf4
  v4 := Tryz.zeroValue4
  t9 := Tryz.underlying9
  a9 := Tryz.isAgg9
  z9 := Tryz.sizeOf9
  v9 := Tryz.zeroValue9 }
open Go.RowKit Go.Lib in
theorem Tryz.strings_TrimPrefix (s p : ByteArray) (w : World) :
    Calls Tryz.prog 104 #[.string s, .string p] w fun e w' => e = .returned (.string ⟨(Lib.trimPrefix s.data.toList p.data.toList).toArray⟩) ∧ w' = w := Any.strings_TrimPrefix Tryz.lays101 s p w
end Go.Proofs
