/-
  DERIVED. Contracts of the library, laid at this dump by the kit's tool, in plain words; only those that are used. Conditions: as each says.
-/
import Derived.Shelf.Strings.Builder1
import Derived.Shelf.Strings.Builder2
import Derived.Shelf.Strings.OnBuilder
import Derived.Shelf.Small.Utf8
import Derived.Shelf.Small.Strs
import Derived.Shelf.Strings.BuilderF
import Derived.Shelf.Strings.BuilderK
import Derived.Shelf.Strings.Builder2Cap
import Derived.Shelf.Strconv.Atoi
import Derived.Shelf.Strconv.Itoa0
import Derived.Shelf.Strconv.Itoa1
import Derived.Shelf.LaysM
import Derived.Shelf.Strconv.Itoa2
import Derived.Shelf.Strconv.Itoa3
import Derived.Shelf.Strconv.AtoiErrFast
import Derived.Shelf.Strconv.ParseIntEmpty
import Derived.Shelf.Strconv.AtoiFail
import Derived.Shelf.Strconv.Clone
import Derived.Shelf.Strconv.SyntaxError
import Derived.Shelf.LaysC
import Derived.Shelf.Strconv.ToError
import Derived.Shelf.Strconv.Lower
import Derived.Shelf.Strconv.ParseUint10
import Derived.Shelf.Strconv.ParseUint10Empty
import Derived.Shelf.Strconv.ParseUint10Any
import Derived.Shelf.Strconv.ParseInt10
import Derived.Shelf.Strconv.AtoiLong
import Derived.Shelf.Strconv.AtoiInnerAll
import Derived.Shelf.Strconv.RangeError
import Derived.Shelf.Strconv.ToErrorRange
import Derived.Shelf.Strconv.AtoiAll
import Derived.Shelf.Strings.Search1
import Derived.Shelf.Strings.Search2
import Derived.Shelf.Strings.Cut
import Derived.Shelf.Strings.Shaped
import Derived.Shelf.Strings.Prefix
import Derived.Shelf.Strings.Runes
import Derived.Shelf.Strings.IndexAny
import Derived.Shelf.Strings.AsciiSet
import Derived.Shelf.Strings.IndexAnyAll
import Derived.Shelf.Strings.BuilderCap
import Derived.Test.YtcbmddgafkoooaaDoorProg
namespace Go.Proofs
open Go.Shelf
def Tryd.lays156_ren : Go.Shelf.Ren := ⟨fun | 156 => 23 | 165 => 50 | 166 => 19 | 169 => 21 | 240 => 47 | 241 => 65 | 276 => 64 | 277 => 81 | n => n, fun | 31 => 57 | 9 => 9 | 3 => 3 | 4 => 4 | 0 => 0 | 20 => 20 | 72 => 49 | 76 => 52 | 70 => 46 | 37 => 47 | 75 => 51 | 127 => 76 | 164 => 87 | 5 => 5 | 80 => 55 | n => n, fun | n => n⟩
theorem Tryd.lays156 : Go.Proofs.Lays.n156 Tryd.prog Tryd.lays156_ren := {
  mixed := by kernel_rfl
  f156 := Tryd.func23.trans (congrArg some (by kernel_rfl))
  f165 := Tryd.func50.trans (congrArg some (by kernel_rfl))
  f166 := Tryd.func19.trans (congrArg some (by kernel_rfl))
  f169 := Tryd.func21.trans (congrArg some (by kernel_rfl))
  f240 := Tryd.func47.trans (congrArg some (by kernel_rfl))
  f241 := Tryd.func65.trans (congrArg some (by kernel_rfl))
  f276 := Tryd.func64.trans (congrArg some (by kernel_rfl))
  f277 := Tryd.func81.trans (congrArg some (by kernel_rfl))
  t0 := Tryd.underlying0
  a0 := Tryd.isAgg0
  z0 := Tryd.sizeOf0
  v0 := Tryd.zeroValue0
  t3 := Tryd.underlying3
  a3 := Tryd.isAgg3
  z3 := Tryd.sizeOf3
  v3 := Tryd.zeroValue3
  t4 := Tryd.underlying4
  a4 := Tryd.isAgg4
  z4 := Tryd.sizeOf4
  v4 := Tryd.zeroValue4
  t9 := Tryd.underlying9
  a9 := Tryd.isAgg9
  z9 := Tryd.sizeOf9
  v9 := Tryd.zeroValue9
  t20 := Tryd.underlying20
  a20 := Tryd.isAgg20
  z20 := Tryd.sizeOf20
  v20 := Tryd.zeroValue20
  t31 := Tryd.underlying57
  a31 := Tryd.isAgg57
  z31 := Tryd.sizeOf57
  v31 := Tryd.zeroValue57
  t37 := Tryd.underlying47
  a37 := Tryd.isAgg47
  z37 := Tryd.sizeOf47
  v37 := Tryd.zeroValue47
  t70 := Tryd.underlying46
  a70 := Tryd.isAgg46
  z70 := Tryd.sizeOf46
  v70 := Tryd.zeroValue46
  t72 := Tryd.underlying49
  a72 := Tryd.isAgg49
  z72 := Tryd.sizeOf49
  v72 := Tryd.zeroValue49
  t75 := Tryd.underlying51
  a75 := Tryd.isAgg51
  z75 := Tryd.sizeOf51
  v75 := Tryd.zeroValue51
  t76 := Tryd.underlying52
  a76 := Tryd.isAgg52
  z76 := Tryd.sizeOf52
  v76 := Tryd.zeroValue52
  t127 := Tryd.underlying76
  a127 := Tryd.isAgg76
  z127 := Tryd.sizeOf76
  v127 := Tryd.zeroValue76
  t164 := Tryd.underlying87
  a164 := Tryd.isAgg87
  z164 := Tryd.sizeOf87
  v164 := Tryd.zeroValue87 }
theorem Tryd.Builder_Extra_156 : Builder.Extra Tryd.prog Tryd.lays156_ren := {
  sizeBuilder := by kernel_rfl
  liesBuilder := by kernel_rfl
  t5 := Tryd.underlying5
  a5 := Tryd.isAgg5
  z5 := Tryd.sizeOf5
  v5 := Tryd.zeroValue5
  infoByte := by kernel_rfl
  cellsByte := by kernel_rfl
  sizeByte := by kernel_rfl
  neB5 := by decide }
open Go.RowKit in
theorem Tryd.strings_Join_none (a : Option Addr) (c : Nat) (sep : ByteArray) (w : World) :
    Calls Tryd.prog 23 #[.slice a 0 c, .string sep] w fun e w' => e = .returned (.string ⟨#[]⟩) ∧ w' = w := Any.strings_Join_none Tryd.lays156 Tryd.Builder_Extra_156 a c sep w
open Go.RowKit in
theorem Tryd.strings_Join (bk o c : Nat) (xs : List ByteArray) (sep : ByteArray) (w : World) (hcells : ∀ (j : Nat) x, xs[j]? = some x → w.cell? ⟨bk, o + j, none⟩ = some (.string x)) (hbk : bk < w.heap.size) (hN : xs.length ≤ 140737488355328) (hcap : xs.length ≤ c) (hlen : (Lib.join (xs.map (·.data.toList)) sep.data.toList).length ≤ 140737488355328) :
    Calls Tryd.prog 23 #[.slice (some ⟨bk, o, none⟩) xs.length c, .string sep] w fun e w' => e = .returned (.string ⟨(Lib.join (xs.map (·.data.toList)) sep.data.toList).toArray⟩) ∧ Below w.heap.size w w' := Any.strings_Join Tryd.lays156 Tryd.Builder_Extra_156 bk o c xs sep w hcells hbk hN hcap hlen
def Tryd.lays137_ren : Go.Shelf.Ren := ⟨fun | 137 => 76 | 217 => 93 | 266 => 104 | n => n, fun | 9 => 9 | 5 => 5 | 3 => 3 | n => n, fun | n => n⟩
theorem Tryd.lays137 : Go.Proofs.Lays.n137 Tryd.prog Tryd.lays137_ren := {
  mixed := by kernel_rfl
  f137 := Tryd.func76.trans (congrArg some (by kernel_rfl))
  f217 := Tryd.func93.trans (congrArg some (by kernel_rfl))
  f266 := Tryd.func104.trans (congrArg some (by kernel_rfl))
  t3 := Tryd.underlying3
  a3 := Tryd.isAgg3
  z3 := Tryd.sizeOf3
  v3 := Tryd.zeroValue3
  t5 := Tryd.underlying5
  a5 := Tryd.isAgg5
  z5 := Tryd.sizeOf5
  v5 := Tryd.zeroValue5
  t9 := Tryd.underlying9
  a9 := Tryd.isAgg9
  z9 := Tryd.sizeOf9
  v9 := Tryd.zeroValue9 }
open Go.RowKit in
theorem Tryd.strings_IndexByte (s : ByteArray) (c : Int) (w : World) :
    Calls Tryd.prog 76 #[.string s, .int .u8 c] w fun e w' => e = .returned (.int .i64 (Lib.indexByte s.data.toList c.toNat.toUInt8)) ∧ w' = w := Any.strings_IndexByte Tryd.lays137 s c w
def Tryd.lays172_ren : Go.Shelf.Ren := ⟨fun | 172 => 89 | 244 => 102 | 245 => 103 | 247 => 111 | 279 => 112 | 280 => 113 | 281 => 114 | 282 => 115 | 287 => 119 | 316 => 120 | 171 => 56 | 205 => 121 | 321 => 123 | 322 => 124 | 243 => 67 | 246 => 86 | 283 => 98 | 284 => 99 | 285 => 100 | 286 => 101 | 129 => 107 | 317 => 106 | 318 => 108 | 319 => 109 | 320 => 110 | 337 => 117 | 338 => 118 | n => n, fun | 9 => 9 | 3 => 3 | 75 => 51 | 76 => 52 | 4 => 4 | 5 => 5 | 167 => 118 | 37 => 47 | 0 => 0 | 85 => 119 | 2 => 2 | 168 => 121 | 53 => 107 | 175 => 125 | 46 => 104 | 210 => 128 | 127 => 76 | 145 => 137 | 143 => 135 | 21 => 21 | 171 => 106 | 173 => 110 | 212 => 114 | 51 => 115 | 20 => 20 | 213 => 116 | 232 => 132 | 233 => 133 | 80 => 55 | n => n, fun | 15 => 2 | 16 => 3 | 17 => 1 | 18 => 4 | 19 => 5 | n => n⟩
theorem Tryd.lays172 : Go.Proofs.Lays.n172 Tryd.prog Tryd.lays172_ren := {
  mixed := by kernel_rfl
  f129 := Tryd.func107.trans (congrArg some (by kernel_rfl))
  f171 := Tryd.func56.trans (congrArg some (by kernel_rfl))
  f172 := Tryd.func89.trans (congrArg some (by kernel_rfl))
  f205 := Tryd.func121.trans (congrArg some (by kernel_rfl))
  f243 := Tryd.func67.trans (congrArg some (by kernel_rfl))
  f244 := Tryd.func102.trans (congrArg some (by kernel_rfl))
  f245 := Tryd.func103.trans (congrArg some (by kernel_rfl))
  f246 := Tryd.func86.trans (congrArg some (by kernel_rfl))
  f247 := Tryd.func111.trans (congrArg some (by kernel_rfl))
  f279 := Tryd.func112.trans (congrArg some (by kernel_rfl))
  f280 := Tryd.func113.trans (congrArg some (by kernel_rfl))
  f281 := Tryd.func114.trans (congrArg some (by kernel_rfl))
  f282 := Tryd.func115.trans (congrArg some (by kernel_rfl))
  f283 := Tryd.func98.trans (congrArg some (by kernel_rfl))
  f284 := Tryd.func99.trans (congrArg some (by kernel_rfl))
  f285 := Tryd.func100.trans (congrArg some (by kernel_rfl))
  f286 := Tryd.func101.trans (congrArg some (by kernel_rfl))
  f287 := Tryd.func119.trans (congrArg some (by kernel_rfl))
  f316 := Tryd.func120.trans (congrArg some (by kernel_rfl))
  f317 := Tryd.func106.trans (congrArg some (by kernel_rfl))
  f318 := Tryd.func108.trans (congrArg some (by kernel_rfl))
  f319 := Tryd.func109.trans (congrArg some (by kernel_rfl))
  f320 := Tryd.func110.trans (congrArg some (by kernel_rfl))
  f321 := Tryd.func123.trans (congrArg some (by kernel_rfl))
  f322 := Tryd.func124.trans (congrArg some (by kernel_rfl))
  f337 := Tryd.func117.trans (congrArg some (by kernel_rfl))
  f338 := Tryd.func118.trans (congrArg some (by kernel_rfl))
  t0 := Tryd.underlying0
  a0 := Tryd.isAgg0
  z0 := Tryd.sizeOf0
  v0 := Tryd.zeroValue0
  t2 := Tryd.underlying2
  a2 := Tryd.isAgg2
  z2 := Tryd.sizeOf2
  v2 := Tryd.zeroValue2
  t3 := Tryd.underlying3
  a3 := Tryd.isAgg3
  z3 := Tryd.sizeOf3
  v3 := Tryd.zeroValue3
  t4 := Tryd.underlying4
  a4 := Tryd.isAgg4
  z4 := Tryd.sizeOf4
  v4 := Tryd.zeroValue4
  t5 := Tryd.underlying5
  a5 := Tryd.isAgg5
  z5 := Tryd.sizeOf5
  v5 := Tryd.zeroValue5
  t9 := Tryd.underlying9
  a9 := Tryd.isAgg9
  z9 := Tryd.sizeOf9
  v9 := Tryd.zeroValue9
  t20 := Tryd.underlying20
  a20 := Tryd.isAgg20
  z20 := Tryd.sizeOf20
  v20 := Tryd.zeroValue20
  t21 := Tryd.underlying21
  a21 := Tryd.isAgg21
  z21 := Tryd.sizeOf21
  v21 := Tryd.zeroValue21
  t37 := Tryd.underlying47
  a37 := Tryd.isAgg47
  z37 := Tryd.sizeOf47
  v37 := Tryd.zeroValue47
  t46 := Tryd.underlying104
  a46 := Tryd.isAgg104
  z46 := Tryd.sizeOf104
  v46 := Tryd.zeroValue104
  t51 := Tryd.underlying115
  a51 := Tryd.isAgg115
  z51 := Tryd.sizeOf115
  v51 := Tryd.zeroValue115
  t53 := Tryd.underlying107
  a53 := Tryd.isAgg107
  z53 := Tryd.sizeOf107
  v53 := Tryd.zeroValue107
  t75 := Tryd.underlying51
  a75 := Tryd.isAgg51
  z75 := Tryd.sizeOf51
  v75 := Tryd.zeroValue51
  t76 := Tryd.underlying52
  a76 := Tryd.isAgg52
  z76 := Tryd.sizeOf52
  v76 := Tryd.zeroValue52
  t85 := Tryd.underlying119
  a85 := Tryd.isAgg119
  z85 := Tryd.sizeOf119
  v85 := Tryd.zeroValue119
  t127 := Tryd.underlying76
  a127 := Tryd.isAgg76
  z127 := Tryd.sizeOf76
  v127 := Tryd.zeroValue76
  t143 := Tryd.underlying135
  a143 := Tryd.isAgg135
  z143 := Tryd.sizeOf135
  v143 := Tryd.zeroValue135
  t145 := Tryd.underlying137
  a145 := Tryd.isAgg137
  z145 := Tryd.sizeOf137
  v145 := Tryd.zeroValue137
  t167 := Tryd.underlying118
  a167 := Tryd.isAgg118
  z167 := Tryd.sizeOf118
  v167 := Tryd.zeroValue118
  t168 := Tryd.underlying121
  a168 := Tryd.isAgg121
  z168 := Tryd.sizeOf121
  v168 := Tryd.zeroValue121
  t171 := Tryd.underlying106
  a171 := Tryd.isAgg106
  z171 := Tryd.sizeOf106
  v171 := Tryd.zeroValue106
  t173 := Tryd.underlying110
  a173 := Tryd.isAgg110
  z173 := Tryd.sizeOf110
  v173 := Tryd.zeroValue110
  t175 := Tryd.underlying125
  a175 := Tryd.isAgg125
  z175 := Tryd.sizeOf125
  v175 := Tryd.zeroValue125
  t210 := Tryd.underlying128
  a210 := Tryd.isAgg128
  z210 := Tryd.sizeOf128
  v210 := Tryd.zeroValue128
  t212 := Tryd.underlying114
  a212 := Tryd.isAgg114
  z212 := Tryd.sizeOf114
  v212 := Tryd.zeroValue114
  t213 := Tryd.underlying116
  a213 := Tryd.isAgg116
  z213 := Tryd.sizeOf116
  t232 := Tryd.underlying132
  a232 := Tryd.isAgg132
  z232 := Tryd.sizeOf132
  v232 := Tryd.zeroValue132
  t233 := Tryd.underlying133
  a233 := Tryd.isAgg133
  z233 := Tryd.sizeOf133
  v233 := Tryd.zeroValue133
  g15 := by kernel_rfl
  g16 := by kernel_rfl
  g17 := by kernel_rfl
  g18 := by kernel_rfl
  g19 := by kernel_rfl }
open Go.RowKit in
theorem Tryd.strconv_Atoi (s : ByteArray) (n : Int) (hl : s.size ≤ 18) (h : Lib.atoi s.data.toList = some n) (w : World) :
    Calls Tryd.prog 89 #[.string s] w fun e w' => e = .returned (.tuple #[.int .i64 n, .nilIface]) ∧ ∃ t, w' = Lib.bytesWorld w 5 t := Any.strconv_Atoi Tryd.lays172 s n hl h w
def Tryd.laysM171_ren : Go.Shelf.Ren := ⟨fun | 171 => 56 | 243 => 67 | 246 => 86 | 283 => 98 | 284 => 99 | 285 => 100 | 286 => 101 | 129 => 107 | 317 => 106 | 318 => 108 | 319 => 109 | 320 => 110 | 337 => 117 | 338 => 118 | n => n, fun | 3 => 3 | 9 => 9 | 2 => 2 | 4 => 4 | 171 => 106 | 0 => 0 | 53 => 107 | 37 => 47 | 5 => 5 | 173 => 110 | 212 => 114 | 51 => 115 | 20 => 20 | 213 => 116 | 46 => 104 | 232 => 132 | 233 => 133 | n => n, fun | 17 => 1 | 18 => 4 | 19 => 5 | n => n⟩
theorem Tryd.laysM171 : Go.Proofs.LaysM.n171 Tryd.prog Tryd.laysM171_ren := {
  mixed := by kernel_rfl
  f129 := Tryd.func107.trans (congrArg some (by kernel_rfl))
  f171 := Tryd.func56.trans (congrArg some (by kernel_rfl))
  f243 := Tryd.func67.trans (congrArg some (by kernel_rfl))
  f246 := Tryd.func86.trans (congrArg some (by kernel_rfl))
  f283 := Tryd.func98.trans (congrArg some (by kernel_rfl))
  f284 := Tryd.func99.trans (congrArg some (by kernel_rfl))
  f285 := Tryd.func100.trans (congrArg some (by kernel_rfl))
  f286 := Tryd.func101.trans (congrArg some (by kernel_rfl))
  f317 := Tryd.func106.trans (congrArg some (by kernel_rfl))
  f318 := Tryd.func108.trans (congrArg some (by kernel_rfl))
  f319 := Tryd.func109.trans (congrArg some (by kernel_rfl))
  f320 := Tryd.func110.trans (congrArg some (by kernel_rfl))
  f337 := Tryd.func117.trans (congrArg some (by kernel_rfl))
  f338 := Tryd.func118.trans (congrArg some (by kernel_rfl))
  t0 := Tryd.underlying0
  a0 := Tryd.isAgg0
  z0 := Tryd.sizeOf0
  v0 := Tryd.zeroValue0
  t2 := Tryd.underlying2
  a2 := Tryd.isAgg2
  z2 := Tryd.sizeOf2
  v2 := Tryd.zeroValue2
  t3 := Tryd.underlying3
  a3 := Tryd.isAgg3
  z3 := Tryd.sizeOf3
  v3 := Tryd.zeroValue3
  t4 := Tryd.underlying4
  a4 := Tryd.isAgg4
  z4 := Tryd.sizeOf4
  v4 := Tryd.zeroValue4
  t5 := Tryd.underlying5
  a5 := Tryd.isAgg5
  z5 := Tryd.sizeOf5
  v5 := Tryd.zeroValue5
  t9 := Tryd.underlying9
  a9 := Tryd.isAgg9
  z9 := Tryd.sizeOf9
  v9 := Tryd.zeroValue9
  t20 := Tryd.underlying20
  a20 := Tryd.isAgg20
  z20 := Tryd.sizeOf20
  v20 := Tryd.zeroValue20
  t37 := Tryd.underlying47
  a37 := Tryd.isAgg47
  z37 := Tryd.sizeOf47
  v37 := Tryd.zeroValue47
  t46 := Tryd.underlying104
  a46 := Tryd.isAgg104
  z46 := Tryd.sizeOf104
  v46 := Tryd.zeroValue104
  t51 := Tryd.underlying115
  a51 := Tryd.isAgg115
  z51 := Tryd.sizeOf115
  v51 := Tryd.zeroValue115
  t53 := Tryd.underlying107
  a53 := Tryd.isAgg107
  z53 := Tryd.sizeOf107
  v53 := Tryd.zeroValue107
  t171 := Tryd.underlying106
  a171 := Tryd.isAgg106
  z171 := Tryd.sizeOf106
  v171 := Tryd.zeroValue106
  t173 := Tryd.underlying110
  a173 := Tryd.isAgg110
  z173 := Tryd.sizeOf110
  v173 := Tryd.zeroValue110
  t212 := Tryd.underlying114
  a212 := Tryd.isAgg114
  z212 := Tryd.sizeOf114
  v212 := Tryd.zeroValue114
  t213 := Tryd.underlying116
  a213 := Tryd.isAgg116
  z213 := Tryd.sizeOf116
  t232 := Tryd.underlying132
  a232 := Tryd.isAgg132
  z232 := Tryd.sizeOf132
  v232 := Tryd.zeroValue132
  t233 := Tryd.underlying133
  a233 := Tryd.isAgg133
  z233 := Tryd.sizeOf133
  v233 := Tryd.zeroValue133
  g17 := by kernel_rfl
  g18 := by kernel_rfl
  g19 := by kernel_rfl
  i0 := by kernel_rfl
  i2 := by kernel_rfl
  i3 := by kernel_rfl
  i4 := by kernel_rfl
  i5 := by kernel_rfl
  i9 := by kernel_rfl
  i20 := by kernel_rfl
  i37 := by kernel_rfl
  i46 := by kernel_rfl
  i51 := by kernel_rfl
  i53 := by kernel_rfl
  i171 := by kernel_rfl
  i173 := by kernel_rfl
  i212 := by kernel_rfl
  i232 := by kernel_rfl
  i233 := by kernel_rfl
  m17 := by kernel_rfl
  m18 := by kernel_rfl
  m19 := by kernel_rfl }
open Go.RowKit Go.Sort Go.Lib in
theorem Tryd.strconv_Itoa (n : Int) (h0 : -9223372036854775808 ≤ n) (h1 : n ≤ 9223372036854775807) (w : World) (htab : Lib.TabIs Tryd.prog w "internal/strconv.uint64pow10" .u64 Lib.pow10Tab) :
    Calls Tryd.prog 56 #[.int .i64 n] w fun e w' => e = .returned (.string ⟨(Lib.itoa n).toArray⟩) ∧ ∃ k os, w' = grow (w.drewN k) os := Any.strconv_Itoa Tryd.laysM171 n h0 h1 w htab
def Tryd.lays145_ren : Go.Shelf.Ren := ⟨fun | 145 => 77 | 220 => 94 | 219 => 105 | 217 => 93 | 225 => 97 | 224 => 96 | 267 => 116 | 266 => 104 | 314 => 122 | n => n, fun | 9 => 9 | 4 => 4 | 59 => 92 | 3 => 3 | 5 => 5 | 46 => 104 | 146 => 130 | 51 => 115 | n => n, fun | 1 => 0 | n => n⟩
theorem Tryd.lays145 : Go.Proofs.Lays.n145 Tryd.prog Tryd.lays145_ren := {
  mixed := by kernel_rfl
  f145 := Tryd.func77.trans (congrArg some (by kernel_rfl))
  f217 := Tryd.func93.trans (congrArg some (by kernel_rfl))
  f219 := Tryd.func105.trans (congrArg some (by kernel_rfl))
  f220 := Tryd.func94.trans (congrArg some (by kernel_rfl))
  f224 := Tryd.func96.trans (congrArg some (by kernel_rfl))
  f225 := Tryd.func97.trans (congrArg some (by kernel_rfl))
  f266 := Tryd.func104.trans (congrArg some (by kernel_rfl))
  f267 := Tryd.func116.trans (congrArg some (by kernel_rfl))
  f314 := Tryd.func122.trans (congrArg some (by kernel_rfl))
  t3 := Tryd.underlying3
  a3 := Tryd.isAgg3
  z3 := Tryd.sizeOf3
  v3 := Tryd.zeroValue3
  t4 := Tryd.underlying4
  a4 := Tryd.isAgg4
  z4 := Tryd.sizeOf4
  v4 := Tryd.zeroValue4
  t5 := Tryd.underlying5
  a5 := Tryd.isAgg5
  z5 := Tryd.sizeOf5
  v5 := Tryd.zeroValue5
  t9 := Tryd.underlying9
  a9 := Tryd.isAgg9
  z9 := Tryd.sizeOf9
  v9 := Tryd.zeroValue9
  t46 := Tryd.underlying104
  a46 := Tryd.isAgg104
  z46 := Tryd.sizeOf104
  v46 := Tryd.zeroValue104
  t51 := Tryd.underlying115
  a51 := Tryd.isAgg115
  z51 := Tryd.sizeOf115
  v51 := Tryd.zeroValue115
  t59 := Tryd.underlying92
  a59 := Tryd.isAgg92
  z59 := Tryd.sizeOf92
  v59 := Tryd.zeroValue92
  t146 := Tryd.underlying130
  a146 := Tryd.isAgg130
  z146 := Tryd.sizeOf130
  v146 := Tryd.zeroValue130
  g1 := by kernel_rfl }
open Go.RowKit Go.Lib in
theorem Tryd.strings_Cut (s sep : ByteArray) (m : Int) (w : World) (hs : s.size < 4294967281) (hm : w.cell? ⟨0, 0, none⟩ = some (.int .i64 m)) :
    Calls Tryd.prog 77 #[.string s, .string sep] w fun e w' => e = .returned (.tuple #[.string ⟨(Lib.cut s.data.toList sep.data.toList).1.toArray⟩, .string ⟨(Lib.cut s.data.toList sep.data.toList).2.1.toArray⟩, .bool (Lib.cut s.data.toList sep.data.toList).2.2]) ∧ ∃ n, w' = w.drewN n := Any.strings_Cut Tryd.lays145 s sep m w hs hm
def Tryd.lays99_ren : Go.Shelf.Ren := ⟨fun | 99 => 74 | 206 => 92 | n => n, fun | 9 => 9 | 4 => 4 | 3 => 3 | n => n, fun | n => n⟩
theorem Tryd.lays99 : Go.Proofs.Lays.n99 Tryd.prog Tryd.lays99_ren := {
  mixed := by kernel_rfl
  f99 := Tryd.func74.trans (congrArg some (by kernel_rfl))
  f206 := Tryd.func92.trans (congrArg some (by kernel_rfl))
  t3 := Tryd.underlying3
  a3 := Tryd.isAgg3
  z3 := Tryd.sizeOf3
  v3 := Tryd.zeroValue3
  t4 := Tryd.underlying4
  a4 := Tryd.isAgg4
  z4 := Tryd.sizeOf4
  v4 := Tryd.zeroValue4
  t9 := Tryd.underlying9
  a9 := Tryd.isAgg9
  z9 := Tryd.sizeOf9
  v9 := Tryd.zeroValue9 }
open Go.RowKit Go.Lib in
theorem Tryd.strings_HasPrefix (s p : ByteArray) (w : World) :
    Calls Tryd.prog 74 #[.string s, .string p] w fun e w' => e = .returned (.bool (Lib.hasPrefix s.data.toList p.data.toList)) ∧ w' = w := Any.strings_HasPrefix Tryd.lays99 s p w
def Tryd.lays152_ren : Go.Shelf.Ren := ⟨fun | 152 => 82 | 137 => 76 | 119 => 95 | 224 => 96 | 225 => 97 | 217 => 93 | 266 => 104 | n => n, fun | 9 => 9 | 21 => 21 | 3 => 3 | 4 => 4 | 5 => 5 | 0 => 0 | 46 => 104 | n => n, fun | n => n⟩
theorem Tryd.lays152 : Go.Proofs.Lays.n152 Tryd.prog Tryd.lays152_ren := {
  mixed := by kernel_rfl
  f119 := Tryd.func95.trans (congrArg some (by kernel_rfl))
  f137 := Tryd.func76.trans (congrArg some (by kernel_rfl))
  f152 := Tryd.func82.trans (congrArg some (by kernel_rfl))
  f217 := Tryd.func93.trans (congrArg some (by kernel_rfl))
  f224 := Tryd.func96.trans (congrArg some (by kernel_rfl))
  f225 := Tryd.func97.trans (congrArg some (by kernel_rfl))
  f266 := Tryd.func104.trans (congrArg some (by kernel_rfl))
  t0 := Tryd.underlying0
  a0 := Tryd.isAgg0
  z0 := Tryd.sizeOf0
  v0 := Tryd.zeroValue0
  t3 := Tryd.underlying3
  a3 := Tryd.isAgg3
  z3 := Tryd.sizeOf3
  v3 := Tryd.zeroValue3
  t4 := Tryd.underlying4
  a4 := Tryd.isAgg4
  z4 := Tryd.sizeOf4
  v4 := Tryd.zeroValue4
  t5 := Tryd.underlying5
  a5 := Tryd.isAgg5
  z5 := Tryd.sizeOf5
  v5 := Tryd.zeroValue5
  t9 := Tryd.underlying9
  a9 := Tryd.isAgg9
  z9 := Tryd.sizeOf9
  v9 := Tryd.zeroValue9
  t21 := Tryd.underlying21
  a21 := Tryd.isAgg21
  z21 := Tryd.sizeOf21
  v21 := Tryd.zeroValue21
  t46 := Tryd.underlying104
  a46 := Tryd.isAgg104
  z46 := Tryd.sizeOf104
  v46 := Tryd.zeroValue104 }
open Go.RowKit Go.Lib in
theorem Tryd.strings_IndexRune_ascii (s : ByteArray) (r : Int) (w : World) (h0 : 0 ≤ r) (h1 : r < 128) :
    Calls Tryd.prog 82 #[.string s, .int .i32 r] w fun e w' => e = .returned (.int .i64 (Lib.indexByte s.data.toList r.toNat.toUInt8)) ∧ w' = w := Any.strings_IndexRune_ascii Tryd.lays152 s r w h0 h1
def Tryd.lays153_ren : Go.Shelf.Ren := ⟨fun | 153 => 66 | 152 => 82 | 226 => 83 | 227 => 84 | 228 => 85 | 137 => 76 | 119 => 95 | 224 => 96 | 225 => 97 | 217 => 93 | 266 => 104 | n => n, fun | 9 => 9 | 3 => 3 | 4 => 4 | 5 => 5 | 21 => 21 | 117 => 99 | 116 => 98 | 0 => 0 | 46 => 104 | 124 => 105 | n => n, fun | n => n⟩
theorem Tryd.lays153 : Go.Proofs.Lays.n153 Tryd.prog Tryd.lays153_ren := {
  mixed := by kernel_rfl
  f119 := Tryd.func95.trans (congrArg some (by kernel_rfl))
  f137 := Tryd.func76.trans (congrArg some (by kernel_rfl))
  f152 := Tryd.func82.trans (congrArg some (by kernel_rfl))
  f153 := Tryd.func66.trans (congrArg some (by kernel_rfl))
  f217 := Tryd.func93.trans (congrArg some (by kernel_rfl))
  f224 := Tryd.func96.trans (congrArg some (by kernel_rfl))
  f225 := Tryd.func97.trans (congrArg some (by kernel_rfl))
  f226 := Tryd.func83.trans (congrArg some (by kernel_rfl))
  f227 := Tryd.func84.trans (congrArg some (by kernel_rfl))
  f228 := Tryd.func85.trans (congrArg some (by kernel_rfl))
  f266 := Tryd.func104.trans (congrArg some (by kernel_rfl))
  t0 := Tryd.underlying0
  a0 := Tryd.isAgg0
  z0 := Tryd.sizeOf0
  v0 := Tryd.zeroValue0
  t3 := Tryd.underlying3
  a3 := Tryd.isAgg3
  z3 := Tryd.sizeOf3
  v3 := Tryd.zeroValue3
  t4 := Tryd.underlying4
  a4 := Tryd.isAgg4
  z4 := Tryd.sizeOf4
  v4 := Tryd.zeroValue4
  t5 := Tryd.underlying5
  a5 := Tryd.isAgg5
  z5 := Tryd.sizeOf5
  v5 := Tryd.zeroValue5
  t9 := Tryd.underlying9
  a9 := Tryd.isAgg9
  z9 := Tryd.sizeOf9
  v9 := Tryd.zeroValue9
  t21 := Tryd.underlying21
  a21 := Tryd.isAgg21
  z21 := Tryd.sizeOf21
  v21 := Tryd.zeroValue21
  t46 := Tryd.underlying104
  a46 := Tryd.isAgg104
  z46 := Tryd.sizeOf104
  v46 := Tryd.zeroValue104
  t116 := Tryd.underlying98
  a116 := Tryd.isAgg98
  z116 := Tryd.sizeOf98
  t117 := Tryd.underlying99
  a117 := Tryd.isAgg99
  z117 := Tryd.sizeOf99
  v117 := Tryd.zeroValue99
  t124 := Tryd.underlying105
  a124 := Tryd.isAgg105
  z124 := Tryd.sizeOf105
  v124 := Tryd.zeroValue105 }
open Go.RowKit Go.Lib in
theorem Tryd.strings_IndexAny_long (hv116 : ∀ w, (zeroValue 98).run Tryd.prog w = .ok (.agg (Array.replicate 256 (.bool false))) w) (s chars : ByteArray) (w : World) (h2 : 2 ≤ chars.size) (h8 : 8 < s.size) (hs : s.size < 4294967281) (hcs : chars.size < 4294967281) (hascii : ∀ (j : Nat) b, chars.data.toList[j]? = some b → b.toNat < 128) :
    Calls Tryd.prog 66 #[.string s, .string chars] w fun e w' => e = .returned (.int .i64 (Lib.indexAny s.data.toList chars.data.toList)) ∧ w' = ((w.alloc (.cells (Lib.setCells chars.data.toList) 98)).alloc (.cells (Lib.setCells chars.data.toList) 98)) := Any.strings_IndexAny_long Tryd.lays153 hv116 (by kernel_rfl) s chars w h2 h8 hs hcs hascii
open Go.RowKit Go.Lib in
theorem Tryd.strings_IndexAny (hv116 : ∀ w, (zeroValue 98).run Tryd.prog w = .ok (.agg (Array.replicate 256 (.bool false))) w) (s chars : ByteArray) (w : World) (hs : s.size < 4294967281) (hcs : chars.size < 4294967281) (has : ∀ (j : Nat) b, s.data.toList[j]? = some b → b.toNat < 128) (hac : ∀ (j : Nat) b, chars.data.toList[j]? = some b → b.toNat < 128) :
    Calls Tryd.prog 66 #[.string s, .string chars] w fun e w' => e = .returned (.int .i64 (Lib.indexAny s.data.toList chars.data.toList)) ∧ Below w.heap.size w w' := Any.strings_IndexAny Tryd.lays153 hv116 (by kernel_rfl) s chars w hs hcs has hac
end Go.Proofs
