/-
  DERIVED. DERIVED: THE SHELF's CONTRACTS AT THIS DUMP, IN PLAIN WORDS (tools/lay-plain.mjs out of 'TryShelf.lean', which tools/lay-shelf.mjs wrote): THE SAME DECLARATIONS UNDER THE SAME NAMES: 'import', 'namespace', 'open', 'def', 'theorem' AND NOTHING ELSE: no command of the shelf's: FOR A HAND-IN. Each laying: the table of numbers ('.._ren') and one theorem, a field a fact of the dump's own or the kernel's comparison; each contract: ONE APPLICATION.
  Contracts of the library, laid at this dump by the kit's tool, in plain words; only those that are used. Conditions: as each says.
  Plain law: a text with a backslash ahead of each quotation mark and backslash. Conditions: none.
  DERIVED: THE SHELF's CONTRACTS AT THIS DUMP, IN PLAIN WORDS (tools/lay-plain.mjs out of 'CtShelf.lean', which tools/lay-shelf.mjs wrote): THE SAME DECLARATIONS UNDER THE SAME NAMES: 'import', 'namespace', 'open', 'def', 'theorem' AND NOTHING ELSE: no command of the shelf's: FOR A HAND-IN. Each laying: the table of numbers ('.._ren') and one theorem, a field a fact of the dump's own or the kernel's comparison; each contract: ONE APPLICATION.
  By an AI agent.
-/
import Derived.Shelf.Small.Utf8
import Derived.Shelf.Small.Strs
import Derived.Shelf.Strings.Search1
import Derived.Shelf.GgClosure.StringsIndexFunc
import Derived.Shelf.GgClosure.StringsIndexFuncTop
import Derived.Shelf.Strings.Runes
import Derived.Shelf.Strings.IndexAny
import Derived.Shelf.Strings.AsciiSet
import Derived.Shelf.Strings.IndexAnyAll
import Derived.Test.YtnlonleljbbgoaaGreatDoorProg
import Derived.Shelf.Strconv.Atoi
import Derived.Shelf.Strings.Prefix
import Derived.Lib.Bytealg
import Derived.Shelf.Strings.Search2
import Derived.Shelf.Strings.Search3
import Derived.Shelf.Strings.Count
namespace Go.Proofs
open Go.Shelf
def Tryz.lays137_ren : Go.Shelf.Ren := ⟨fun | 137 => 178 | 217 => 173 | 266 => 203 | n => n, fun | 9 => 9 | 5 => 5 | 3 => 3 | n => n, fun | n => n⟩
theorem Tryz.lays137 : Go.Proofs.Lays.n137 Tryz.prog Tryz.lays137_ren := {
  mixed := by kernel_rfl
  f137 := Tryz.func178.trans (congrArg some (by kernel_rfl))
  f217 := Tryz.func173.trans (congrArg some (by kernel_rfl))
  f266 := Tryz.func203.trans (congrArg some (by kernel_rfl))
  t3 := Tryz.underlying3
  a3 := Tryz.isAgg3
  z3 := Tryz.sizeOf3
  v3 := Tryz.zeroValue3
  t5 := Tryz.underlying5
  a5 := Tryz.isAgg5
  z5 := Tryz.sizeOf5
  v5 := Tryz.zeroValue5
  t9 := Tryz.underlying9
  a9 := Tryz.isAgg9
  z9 := Tryz.sizeOf9
  v9 := Tryz.zeroValue9 }
open Go.RowKit in
theorem Tryz.strings_IndexByte (s : ByteArray) (c : Int) (w : World) :
    Calls Tryz.prog 178 #[.string s, .int .u8 c] w fun e w' => e = .returned (.int .i64 (Lib.indexByte s.data.toList c.toNat.toUInt8)) ∧ w' = w := Any.strings_IndexByte Tryz.lays137 s c w
def Tryz.laysGw17_ren : Go.Shelf.Ren := ⟨fun | 17 => 201 | 15 => 231 | 20 => 258 | n => n, fun | 9 => 9 | 23 => 226 | 4 => 4 | 3 => 3 | 0 => 0 | 21 => 21 | n => n, fun | n => n⟩
theorem Tryz.laysGw17 : Go.Proofs.LaysGw.n17 Tryz.prog Tryz.laysGw17_ren := {
  mixed := by kernel_rfl
  f15 := Tryz.func231.trans (congrArg some (by kernel_rfl))
  f17 := Tryz.func201.trans (congrArg some (by kernel_rfl))
  f20 := Tryz.func258.trans (congrArg some (by kernel_rfl))
  t0 := Tryz.underlying0
  a0 := Tryz.isAgg0
  z0 := Tryz.sizeOf0
  v0 := Tryz.zeroValue0
  i0 := by kernel_rfl
  t3 := Tryz.underlying3
  a3 := Tryz.isAgg3
  z3 := Tryz.sizeOf3
  v3 := Tryz.zeroValue3
  i3 := by kernel_rfl
  t4 := Tryz.underlying4
  a4 := Tryz.isAgg4
  z4 := Tryz.sizeOf4
  v4 := Tryz.zeroValue4
  i4 := by kernel_rfl
  t9 := Tryz.underlying9
  a9 := Tryz.isAgg9
  z9 := Tryz.sizeOf9
  v9 := Tryz.zeroValue9
  i9 := by kernel_rfl
  t21 := Tryz.underlying21
  a21 := Tryz.isAgg21
  z21 := Tryz.sizeOf21
  v21 := Tryz.zeroValue21
  i21 := by kernel_rfl
  t23 := Tryz.underlying226
  a23 := Tryz.isAgg226
  z23 := Tryz.sizeOf226
  v23 := Tryz.zeroValue226
  i23 := by kernel_rfl }
open Go.RowKit Go.Lib in
theorem Tryz.strings_ContainsFunc (g : Nat) (lb : Array Value) (eg : ∀ args w, (callFunc g args).run Tryz.prog w = .ok (.enter g args) w) (p : Nat → Bool) (s : ByteArray) (w : World) (hp : PredAt Tryz.prog g lb encR p w) :
    Calls Tryz.prog 201 #[.string s, .func (.func g) #[] lb] w fun e w' => e = .returned (.bool (decide (0 ≤ Lib.idxFunc p true s))) ∧ Below w.heap.size w w' := Any.strings_ContainsFunc Tryz.laysGw17 g lb eg p s w hp
def Tryz.lays152_ren : Go.Shelf.Ren := ⟨fun | 152 => 165 | 137 => 178 | 119 => 199 | 224 => 175 | 225 => 174 | 217 => 173 | 266 => 203 | n => n, fun | 9 => 9 | 21 => 21 | 3 => 3 | 4 => 4 | 5 => 5 | 0 => 0 | 46 => 208 | n => n, fun | n => n⟩
theorem Tryz.lays152 : Go.Proofs.Lays.n152 Tryz.prog Tryz.lays152_ren := {
  mixed := by kernel_rfl
  f119 := Tryz.func199.trans (congrArg some (by kernel_rfl))
  f137 := Tryz.func178.trans (congrArg some (by kernel_rfl))
  f152 := Tryz.func165.trans (congrArg some (by kernel_rfl))
  f217 := Tryz.func173.trans (congrArg some (by kernel_rfl))
  f224 := Tryz.func175.trans (congrArg some (by kernel_rfl))
  f225 := Tryz.func174.trans (congrArg some (by kernel_rfl))
  f266 := Tryz.func203.trans (congrArg some (by kernel_rfl))
  t0 := Tryz.underlying0
  a0 := Tryz.isAgg0
  z0 := Tryz.sizeOf0
  v0 := Tryz.zeroValue0
  t3 := Tryz.underlying3
  a3 := Tryz.isAgg3
  z3 := Tryz.sizeOf3
  v3 := Tryz.zeroValue3
  t4 := Tryz.underlying4
  a4 := Tryz.isAgg4
  z4 := Tryz.sizeOf4
  v4 := Tryz.zeroValue4
  t5 := Tryz.underlying5
  a5 := Tryz.isAgg5
  z5 := Tryz.sizeOf5
  v5 := Tryz.zeroValue5
  t9 := Tryz.underlying9
  a9 := Tryz.isAgg9
  z9 := Tryz.sizeOf9
  v9 := Tryz.zeroValue9
  t21 := Tryz.underlying21
  a21 := Tryz.isAgg21
  z21 := Tryz.sizeOf21
  v21 := Tryz.zeroValue21
  t46 := Tryz.underlying208
  a46 := Tryz.isAgg208
  z46 := Tryz.sizeOf208
  v46 := Tryz.zeroValue208 }
open Go.RowKit Go.Lib in
theorem Tryz.strings_IndexRune_ascii (s : ByteArray) (r : Int) (w : World) (h0 : 0 ≤ r) (h1 : r < 128) :
    Calls Tryz.prog 165 #[.string s, .int .i32 r] w fun e w' => e = .returned (.int .i64 (Lib.indexByte s.data.toList r.toNat.toUInt8)) ∧ w' = w := Any.strings_IndexRune_ascii Tryz.lays152 s r w h0 h1
def Tryz.lays153_ren : Go.Shelf.Ren := ⟨fun | 153 => 126 | 152 => 165 | 226 => 166 | 227 => 167 | 228 => 168 | 137 => 178 | 119 => 199 | 224 => 175 | 225 => 174 | 217 => 173 | 266 => 203 | n => n, fun | 9 => 9 | 3 => 3 | 4 => 4 | 5 => 5 | 21 => 21 | 117 => 200 | 116 => 199 | 0 => 0 | 46 => 208 | 124 => 227 | n => n, fun | n => n⟩
theorem Tryz.lays153 : Go.Proofs.Lays.n153 Tryz.prog Tryz.lays153_ren := {
  mixed := by kernel_rfl
  f119 := Tryz.func199.trans (congrArg some (by kernel_rfl))
  f137 := Tryz.func178.trans (congrArg some (by kernel_rfl))
  f152 := Tryz.func165.trans (congrArg some (by kernel_rfl))
  f153 := Tryz.func126.trans (congrArg some (by kernel_rfl))
  f217 := Tryz.func173.trans (congrArg some (by kernel_rfl))
  f224 := Tryz.func175.trans (congrArg some (by kernel_rfl))
  f225 := Tryz.func174.trans (congrArg some (by kernel_rfl))
  f226 := Tryz.func166.trans (congrArg some (by kernel_rfl))
  f227 := Tryz.func167.trans (congrArg some (by kernel_rfl))
  f228 := Tryz.func168.trans (congrArg some (by kernel_rfl))
  f266 := Tryz.func203.trans (congrArg some (by kernel_rfl))
  t0 := Tryz.underlying0
  a0 := Tryz.isAgg0
  z0 := Tryz.sizeOf0
  v0 := Tryz.zeroValue0
  t3 := Tryz.underlying3
  a3 := Tryz.isAgg3
  z3 := Tryz.sizeOf3
  v3 := Tryz.zeroValue3
  t4 := Tryz.underlying4
  a4 := Tryz.isAgg4
  z4 := Tryz.sizeOf4
  v4 := Tryz.zeroValue4
  t5 := Tryz.underlying5
  a5 := Tryz.isAgg5
  z5 := Tryz.sizeOf5
  v5 := Tryz.zeroValue5
  t9 := Tryz.underlying9
  a9 := Tryz.isAgg9
  z9 := Tryz.sizeOf9
  v9 := Tryz.zeroValue9
  t21 := Tryz.underlying21
  a21 := Tryz.isAgg21
  z21 := Tryz.sizeOf21
  v21 := Tryz.zeroValue21
  t46 := Tryz.underlying208
  a46 := Tryz.isAgg208
  z46 := Tryz.sizeOf208
  v46 := Tryz.zeroValue208
  t116 := Tryz.underlying199
  a116 := Tryz.isAgg199
  z116 := Tryz.sizeOf199
  t117 := Tryz.underlying200
  a117 := Tryz.isAgg200
  z117 := Tryz.sizeOf200
  v117 := Tryz.zeroValue200
  t124 := Tryz.underlying227
  a124 := Tryz.isAgg227
  z124 := Tryz.sizeOf227
  v124 := Tryz.zeroValue227 }
open Go.RowKit Go.Lib in
theorem Tryz.strings_IndexAny_long (hv116 : ∀ w, (zeroValue 199).run Tryz.prog w = .ok (.agg (Array.replicate 256 (.bool false))) w) (s chars : ByteArray) (w : World) (h2 : 2 ≤ chars.size) (h8 : 8 < s.size) (hs : s.size < 4294967281) (hcs : chars.size < 4294967281) (hascii : ∀ (j : Nat) b, chars.data.toList[j]? = some b → b.toNat < 128) :
    Calls Tryz.prog 126 #[.string s, .string chars] w fun e w' => e = .returned (.int .i64 (Lib.indexAny s.data.toList chars.data.toList)) ∧ w' = ((w.alloc (.cells (Lib.setCells chars.data.toList) 199)).alloc (.cells (Lib.setCells chars.data.toList) 199)) := Any.strings_IndexAny_long Tryz.lays153 hv116 (by kernel_rfl) s chars w h2 h8 hs hcs hascii
end Go.Proofs
namespace Go.Proofs
open Go.Shelf

def Tryz.lays172_ren : Go.Shelf.Ren := ⟨fun | 172 => 197 | 244 => 228 | 245 => 229 | 247 => 246 | 279 => 247 | 280 => 248 | 281 => 249 | 282 => 250 | 287 => 274 | 316 => 275 | 171 => 26 | 205 => 276 | 321 => 289 | 322 => 290 | 243 => 65 | 246 => 113 | 283 => 152 | 284 => 153 | 285 => 154 | 286 => 155 | 129 => 190 | 317 => 189 | 318 => 191 | 319 => 192 | 320 => 193 | 337 => 217 | 338 => 218 | n => n, fun | 9 => 9 | 3 => 3 | 75 => 147 | 76 => 148 | 4 => 4 | 5 => 5 | 167 => 282 | 37 => 103 | 0 => 0 | 85 => 283 | 2 => 2 | 168 => 285 | 53 => 187 | 175 => 306 | 46 => 208 | 210 => 309 | 127 => 167 | 145 => 319 | 143 => 317 | 21 => 21 | 171 => 186 | 173 => 190 | 212 => 221 | 51 => 171 | 20 => 20 | 213 => 222 | 232 => 279 | 233 => 280 | 80 => 108 | n => n, fun | 15 => 6 | 16 => 7 | 17 => 1 | 18 => 2 | 19 => 3 | n => n⟩
theorem Tryz.lays172 : Go.Proofs.Lays.n172 Tryz.prog Tryz.lays172_ren := {
  mixed := by kernel_rfl
  f129 := Tryz.func190.trans (congrArg some (by kernel_rfl))
  f171 := Tryz.func26.trans (congrArg some (by kernel_rfl))
  f172 := Tryz.func197.trans (congrArg some (by kernel_rfl))
  f205 := Tryz.func276.trans (congrArg some (by kernel_rfl))
  f243 := Tryz.func65.trans (congrArg some (by kernel_rfl))
  f244 := Tryz.func228.trans (congrArg some (by kernel_rfl))
  f245 := Tryz.func229.trans (congrArg some (by kernel_rfl))
  f246 := Tryz.func113.trans (congrArg some (by kernel_rfl))
  f247 := Tryz.func246.trans (congrArg some (by kernel_rfl))
  f279 := Tryz.func247.trans (congrArg some (by kernel_rfl))
  f280 := Tryz.func248.trans (congrArg some (by kernel_rfl))
  f281 := Tryz.func249.trans (congrArg some (by kernel_rfl))
  f282 := Tryz.func250.trans (congrArg some (by kernel_rfl))
  f283 := Tryz.func152.trans (congrArg some (by kernel_rfl))
  f284 := Tryz.func153.trans (congrArg some (by kernel_rfl))
  f285 := Tryz.func154.trans (congrArg some (by kernel_rfl))
  f286 := Tryz.func155.trans (congrArg some (by kernel_rfl))
  f287 := Tryz.func274.trans (congrArg some (by kernel_rfl))
  f316 := Tryz.func275.trans (congrArg some (by kernel_rfl))
  f317 := Tryz.func189.trans (congrArg some (by kernel_rfl))
  f318 := Tryz.func191.trans (congrArg some (by kernel_rfl))
  f319 := Tryz.func192.trans (congrArg some (by kernel_rfl))
  f320 := Tryz.func193.trans (congrArg some (by kernel_rfl))
  f321 := Tryz.func289.trans (congrArg some (by kernel_rfl))
  f322 := Tryz.func290.trans (congrArg some (by kernel_rfl))
  f337 := Tryz.func217.trans (congrArg some (by kernel_rfl))
  f338 := Tryz.func218.trans (congrArg some (by kernel_rfl))
  t0 := Tryz.underlying0
  a0 := Tryz.isAgg0
  z0 := Tryz.sizeOf0
  v0 := Tryz.zeroValue0
  t2 := Tryz.underlying2
  a2 := Tryz.isAgg2
  z2 := Tryz.sizeOf2
  v2 := Tryz.zeroValue2
  t3 := Tryz.underlying3
  a3 := Tryz.isAgg3
  z3 := Tryz.sizeOf3
  v3 := Tryz.zeroValue3
  t4 := Tryz.underlying4
  a4 := Tryz.isAgg4
  z4 := Tryz.sizeOf4
  v4 := Tryz.zeroValue4
  t5 := Tryz.underlying5
  a5 := Tryz.isAgg5
  z5 := Tryz.sizeOf5
  v5 := Tryz.zeroValue5
  t9 := Tryz.underlying9
  a9 := Tryz.isAgg9
  z9 := Tryz.sizeOf9
  v9 := Tryz.zeroValue9
  t20 := Tryz.underlying20
  a20 := Tryz.isAgg20
  z20 := Tryz.sizeOf20
  v20 := Tryz.zeroValue20
  t21 := Tryz.underlying21
  a21 := Tryz.isAgg21
  z21 := Tryz.sizeOf21
  v21 := Tryz.zeroValue21
  t37 := Tryz.underlying103
  a37 := Tryz.isAgg103
  z37 := Tryz.sizeOf103
  v37 := Tryz.zeroValue103
  t46 := Tryz.underlying208
  a46 := Tryz.isAgg208
  z46 := Tryz.sizeOf208
  v46 := Tryz.zeroValue208
  t51 := Tryz.underlying171
  a51 := Tryz.isAgg171
  z51 := Tryz.sizeOf171
  v51 := Tryz.zeroValue171
  t53 := Tryz.underlying187
  a53 := Tryz.isAgg187
  z53 := Tryz.sizeOf187
  v53 := Tryz.zeroValue187
  t75 := Tryz.underlying147
  a75 := Tryz.isAgg147
  z75 := Tryz.sizeOf147
  v75 := Tryz.zeroValue147
  t76 := Tryz.underlying148
  a76 := Tryz.isAgg148
  z76 := Tryz.sizeOf148
  v76 := Tryz.zeroValue148
  t85 := Tryz.underlying283
  a85 := Tryz.isAgg283
  z85 := Tryz.sizeOf283
  v85 := Tryz.zeroValue283
  t127 := Tryz.underlying167
  a127 := Tryz.isAgg167
  z127 := Tryz.sizeOf167
  v127 := Tryz.zeroValue167
  t143 := Tryz.underlying317
  a143 := Tryz.isAgg317
  z143 := Tryz.sizeOf317
  v143 := Tryz.zeroValue317
  t145 := Tryz.underlying319
  a145 := Tryz.isAgg319
  z145 := Tryz.sizeOf319
  v145 := Tryz.zeroValue319
  t167 := Tryz.underlying282
  a167 := Tryz.isAgg282
  z167 := Tryz.sizeOf282
  v167 := Tryz.zeroValue282
  t168 := Tryz.underlying285
  a168 := Tryz.isAgg285
  z168 := Tryz.sizeOf285
  v168 := Tryz.zeroValue285
  t171 := Tryz.underlying186
  a171 := Tryz.isAgg186
  z171 := Tryz.sizeOf186
  v171 := Tryz.zeroValue186
  t173 := Tryz.underlying190
  a173 := Tryz.isAgg190
  z173 := Tryz.sizeOf190
  v173 := Tryz.zeroValue190
  t175 := Tryz.underlying306
  a175 := Tryz.isAgg306
  z175 := Tryz.sizeOf306
  v175 := Tryz.zeroValue306
  t210 := Tryz.underlying309
  a210 := Tryz.isAgg309
  z210 := Tryz.sizeOf309
  v210 := Tryz.zeroValue309
  t212 := Tryz.underlying221
  a212 := Tryz.isAgg221
  z212 := Tryz.sizeOf221
  v212 := Tryz.zeroValue221
  t213 := Tryz.underlying222
  a213 := Tryz.isAgg222
  z213 := Tryz.sizeOf222
  t232 := Tryz.underlying279
  a232 := Tryz.isAgg279
  z232 := Tryz.sizeOf279
  v232 := Tryz.zeroValue279
  t233 := Tryz.underlying280
  a233 := Tryz.isAgg280
  z233 := Tryz.sizeOf280
  v233 := Tryz.zeroValue280
  g15 := by kernel_rfl
  g16 := by kernel_rfl
  g17 := by kernel_rfl
  g18 := by kernel_rfl
  g19 := by kernel_rfl }
open Go.RowKit in
theorem Tryz.strconv_Atoi (s : ByteArray) (n : Int) (hl : s.size ≤ 18) (h : Lib.atoi s.data.toList = some n) (w : World) :
    Calls Tryz.prog 197 #[.string s] w fun e w' => e = .returned (.tuple #[.int .i64 n, .nilIface]) ∧ ∃ t, w' = Lib.bytesWorld w 5 t := Any.strconv_Atoi Tryz.lays172 s n hl h w
def Tryz.lays99_ren : Go.Shelf.Ren := ⟨fun | 99 => 57 | 206 => 102 | n => n, fun | 9 => 9 | 4 => 4 | 3 => 3 | n => n, fun | n => n⟩
theorem Tryz.lays99 : Go.Proofs.Lays.n99 Tryz.prog Tryz.lays99_ren := {
  mixed := by kernel_rfl
  f99 := Tryz.func57.trans (congrArg some (by kernel_rfl))
  f206 := Tryz.func102.trans (congrArg some (by kernel_rfl))
  t3 := Tryz.underlying3
  a3 := Tryz.isAgg3
  z3 := Tryz.sizeOf3
  v3 := Tryz.zeroValue3
  t4 := Tryz.underlying4
  a4 := Tryz.isAgg4
  z4 := Tryz.sizeOf4
  v4 := Tryz.zeroValue4
  t9 := Tryz.underlying9
  a9 := Tryz.isAgg9
  z9 := Tryz.sizeOf9
  v9 := Tryz.zeroValue9 }
open Go.RowKit Go.Lib in
theorem Tryz.strings_HasPrefix (s p : ByteArray) (w : World) :
    Calls Tryz.prog 57 #[.string s, .string p] w fun e w' => e = .returned (.bool (Lib.hasPrefix s.data.toList p.data.toList)) ∧ w' = w := Any.strings_HasPrefix Tryz.lays99 s p w
end Go.Proofs
namespace Go.Proofs.YtnlonleljbbgoaaGreatDoor

/-- what a byte is written as -/
def escB (c : UInt8) : List UInt8 := if c = 34 then [92, 34] else if c = 92 then [92, 92] else [c]
def escL (l : List UInt8) : List UInt8 := l.flatMap escB
theorem escB_34 : escB 34 = [92, 34] := rfl
theorem escB_92 : escB 92 = [92, 92] := rfl
theorem escB_other {c : UInt8} (h : c ≠ 34) (h' : c ≠ 92) : escB c = [c] := by unfold escB; rw [if_neg h, if_neg h']
theorem escB_len (c : UInt8) : (escB c).length = 1 + (if c == 34 then 1 else 0) + (if c == 92 then 1 else 0) := by
  unfold escB
  by_cases h : c = 34
  · subst h; rfl
  · by_cases h' : c = 92
    · subst h'; rfl
    · simp [h, h']
theorem escL_nil : escL [] = [] := rfl
theorem escL_cons (c : UInt8) (l : List UInt8) : escL (c :: l) = escB c ++ escL l := rfl
theorem escL_app (l r : List UInt8) : escL (l ++ r) = escL l ++ escL r := List.flatMap_append
theorem escL_len (l : List UInt8) : (escL l).length = l.length + Lib.countByte l 34 + Lib.countByte l 92 := by
  unfold Lib.countByte
  induction l with
  | nil => rfl
  | cons c l ih =>
    rw [escL_cons, List.length_append, ih, escB_len, List.count_cons, List.count_cons, List.length_cons]
    omega
theorem escL_le (l : List UInt8) : (escL l).length ≤ 2 * l.length := by
  induction l with
  | nil => exact Nat.le_refl _
  | cons c l ih =>
    have := escB_len c
    rw [escL_cons, List.length_append, List.length_cons]
    have h1 : (if c == 34 then 1 else 0 : Nat) + (if c == 92 then 1 else 0) ≤ 1 := by
      by_cases h : c = 34
      · subst h; decide
      · simp [h]; split <;> omega
    omega
theorem escL_same {l : List UInt8} (h : Lib.countByte l 34 = 0) (h' : Lib.countByte l 92 = 0) : escL l = l := by
  unfold Lib.countByte at h h'
  induction l with
  | nil => rfl
  | cons c l ih =>
    rw [List.count_cons] at h h'
    have n1 : c ≠ 34 := by rintro rfl; simp at h
    have n2 : c ≠ 92 := by rintro rfl; simp at h'
    rw [escL_cons, escB_other n1 n2, ih (by omega) (by omega)]
    rfl
theorem escL_take {l : List UInt8} {k : Nat} (h : k < l.length) : escL (l.take (k + 1)) = escL (l.take k) ++ escB l[k] := by
  rw [← List.take_append_getElem h, escL_app]
  rw [show escL [l[k]] = escB l[k] from by rw [escL_cons, escL_nil, List.append_nil]]
theorem count_take {l : List UInt8} {k : Nat} (c : UInt8) (h : k < l.length) : Lib.countByte (l.take (k + 1)) c = Lib.countByte (l.take k) c + (if l[k] = c then 1 else 0) := by
  unfold Lib.countByte
  rw [← List.take_append_getElem h, List.count_append]
  congr 1
  by_cases e : l[k] = c
  · rw [if_pos e, e]; simp
  · rw [if_neg e]; simp [e]
theorem escL_grows {l : List UInt8} {k : Nat} (h : k < l.length) : (escL (l.take k)).length + (escB l[k]).length ≤ (escL l).length := by
  rw [← List.length_append, ← escL_take h]
  conv => rhs; rw [← List.take_append_drop (k + 1) l, escL_app, List.length_append]
  omega
/-- the text, written between quotation marks -/
def quoS (s : ByteArray) : ByteArray := ⟨(34 :: escL s.data.toList ++ [34]).toArray⟩
def escS (s : ByteArray) : ByteArray := ⟨(escL s.data.toList).toArray⟩
theorem escS_size (s : ByteArray) : (escS s).size ≤ 2 * s.size := by
  have := escL_le s.data.toList
  show (escL s.data.toList).toArray.size ≤ 2 * s.data.size
  simpa using this
theorem quoS_eq (s : ByteArray) : (⟨#[34]⟩ : ByteArray) ++ escS s ++ ⟨#[34]⟩ = quoS s := by
  apply ByteArray.ext
  simp [quoS, escS]
theorem quoS_size (s : ByteArray) : (quoS s).size ≤ 2 * s.size + 2 := by
  have := escS_size s
  rw [← quoS_eq, ByteArray.size_append, ByteArray.size_append]
  show 1 + _ + 1 ≤ _
  omega
end Go.Proofs.YtnlonleljbbgoaaGreatDoor
namespace Go.Proofs
open Go.Shelf

def Tryz.lays138_ren : Go.Shelf.Ren := ⟨fun | 138 => 181 | 195 => 206 | 218 => 208 | 143 => 94 | 219 => 141 | 217 => 173 | 225 => 174 | 224 => 175 | 267 => 176 | 266 => 203 | 314 => 204 | n => n, fun | 9 => 9 | 3 => 3 | 4 => 4 | 5 => 5 | 0 => 0 | 46 => 208 | 146 => 229 | 51 => 171 | n => n, fun | 1 => 0 | n => n⟩
theorem Tryz.lays138 : Go.Proofs.Lays.n138 Tryz.prog Tryz.lays138_ren := {
  mixed := by kernel_rfl
  f138 := Tryz.func181.trans (congrArg some (by kernel_rfl))
  f143 := Tryz.func94.trans (congrArg some (by kernel_rfl))
  f195 := Tryz.func206.trans (congrArg some (by kernel_rfl))
  f217 := Tryz.func173.trans (congrArg some (by kernel_rfl))
  f218 := Tryz.func208.trans (congrArg some (by kernel_rfl))
  f219 := Tryz.func141.trans (congrArg some (by kernel_rfl))
  f224 := Tryz.func175.trans (congrArg some (by kernel_rfl))
  f225 := Tryz.func174.trans (congrArg some (by kernel_rfl))
  f266 := Tryz.func203.trans (congrArg some (by kernel_rfl))
  f267 := Tryz.func176.trans (congrArg some (by kernel_rfl))
  f314 := Tryz.func204.trans (congrArg some (by kernel_rfl))
  t0 := Tryz.underlying0
  a0 := Tryz.isAgg0
  z0 := Tryz.sizeOf0
  v0 := Tryz.zeroValue0
  t3 := Tryz.underlying3
  a3 := Tryz.isAgg3
  z3 := Tryz.sizeOf3
  v3 := Tryz.zeroValue3
  t4 := Tryz.underlying4
  a4 := Tryz.isAgg4
  z4 := Tryz.sizeOf4
  v4 := Tryz.zeroValue4
  t5 := Tryz.underlying5
  a5 := Tryz.isAgg5
  z5 := Tryz.sizeOf5
  v5 := Tryz.zeroValue5
  t9 := Tryz.underlying9
  a9 := Tryz.isAgg9
  z9 := Tryz.sizeOf9
  v9 := Tryz.zeroValue9
  t46 := Tryz.underlying208
  a46 := Tryz.isAgg208
  z46 := Tryz.sizeOf208
  v46 := Tryz.zeroValue208
  t51 := Tryz.underlying171
  a51 := Tryz.isAgg171
  z51 := Tryz.sizeOf171
  v51 := Tryz.zeroValue171
  t146 := Tryz.underlying229
  a146 := Tryz.isAgg229
  z146 := Tryz.sizeOf229
  v146 := Tryz.zeroValue229
  g1 := by kernel_rfl }
open Go.RowKit Go.Lib in
theorem Tryz.strings_Count_one (s : ByteArray) (c : UInt8) (w : World) :
    Calls Tryz.prog 181 #[.string s, .string ⟨#[c]⟩] w fun e w' => e = .returned (.int .i64 (Lib.countByte s.data.toList c)) ∧ w' = w := Any.strings_Count_one Tryz.lays138 s c w
end Go.Proofs
