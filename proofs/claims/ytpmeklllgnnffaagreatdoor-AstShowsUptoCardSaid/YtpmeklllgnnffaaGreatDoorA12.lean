/-
  DERIVED: THE SHELF's CONTRACTS AT THIS DUMP, IN PLAIN WORDS (tools/lay-plain.mjs out of 'TryzShelf.lean', which tools/lay-shelf.mjs wrote): THE SAME DECLARATIONS UNDER THE SAME NAMES: 'import', 'namespace', 'open', 'def', 'theorem' AND NOTHING ELSE: no command of the shelf's: FOR A HAND-IN. Each laying: the table of numbers ('.._ren') and one theorem, a field a fact of the dump's own or the kernel's comparison; each contract: ONE APPLICATION.
-/
import Derived.Shelf.Strings.Builder1
import Derived.Shelf.Strings.Builder2
import Derived.Shelf.Strings.OnBuilder
import Derived.Shelf.Small.Utf8
import Derived.Shelf.Utf8.RuneCount
import Derived.Shelf.Strconv.Itoa0
import Derived.Shelf.Strconv.Itoa1
import Derived.Shelf.LaysM
import Derived.Shelf.Strconv.Itoa2
import Derived.Shelf.Strconv.Itoa3
import Derived.Shelf.Strconv.ParseIntEmpty
import Derived.Shelf.Strconv.Clone
import Derived.Shelf.Strconv.SyntaxError
import Derived.Shelf.LaysC
import Derived.Shelf.Strconv.ToError
import Derived.Shelf.Strconv.Lower
import Derived.Shelf.Strconv.ParseUint10
import Derived.Shelf.Strconv.ParseUint10Empty
import Derived.Shelf.Strconv.ParseUint10Any
import Derived.Shelf.Strconv.ParseInt10
import Derived.Shelf.Strconv.RangeError
import Derived.Shelf.Strconv.ToErrorRange
import Derived.Shelf.Strconv.ParseUintEmpty
import Derived.Shelf.Strconv.ParseUint10b64
import Derived.Shelf.Strconv.ParseUint10b32
import Derived.Shelf.Strconv.ParseUint10b16
import Derived.Shelf.Strconv.ParseUint10b8
import Derived.Shelf.Strconv.ParseUint10At
import Derived.Shelf.Strconv.ParseInt10At64
import Derived.Shelf.Strconv.ParseInt10At32
import Derived.Shelf.Strconv.ParseInt10At16
import Derived.Shelf.Strconv.ParseInt10At8
import Derived.Shelf.Strconv.ParseInt10All
import Derived.Shelf.Strconv.ParseIntPublic10
import Derived.Shelf.Strconv.ErrVarParseInt
import Derived.Shelf.Strings.Search1
import Derived.Shelf.Strings.Search2
import Derived.Shelf.Strings.Search3
import Derived.Shelf.Strings.Count
import Derived.Shelf.Strings.Shaped
import Derived.Shelf.Strings.Prefix
import Derived.Shelf.Strings.Split
import Derived.Shelf.Strings.Replace
import Derived.Shelf.Strings.SplitShaped
import Derived.Shelf.Unicode.Latin
import Derived.Shelf.Unicode.Decode
import Derived.Shelf.Strings.RuneCount
import Derived.Shelf.Unicode.DecodeSlow
import Derived.Shelf.Unicode.DecodeAny
import Derived.Shelf.Unicode.CaseLookup
import Derived.Shelf.Unicode.CaseConvert
import Derived.Shelf.Unicode.CaseTo
import Derived.Shelf.Unicode.CaseLaid
import Derived.Test.YtpmeklllgnnffaaGreatDoorProg
import Derived.Test.YtpmeklllgnnffaaGreatDoorA11
import Derived.Test.YtpmeklllgnnffaaGreatDoorA9
import Derived.Lib.AppendIntMem
import Derived.Laws.Externs
import Derived.Eval
import Derived.Test.YtpmeklllgnnffaaGreatDoorChecked
import Derived.Test.YtpmeklllgnnffaaGreatDoorRows
set_option linter.unusedSimpArgs false
set_option linter.unusedVariables false

namespace Go.Proofs
open Go.Shelf
def Tryz.lays158_ren : Go.Shelf.Ren := ⟨fun | 158 => 93 | 165 => 133 | 166 => 134 | 167 => 138 | 169 => 135 | 230 => 139 | 203 => 140 | 240 => 164 | 241 => 165 | 197 => 168 | 118 => 169 | 168 => 170 | 270 => 171 | 262 => 172 | 276 => 178 | 277 => 179 | 260 => 186 | 242 => 187 | 313 => 188 | 278 => 204 | 274 => 205 | 275 => 206 | n => n, fun | 9 => 9 | 4 => 4 | 3 => 3 | 5 => 5 | 72 => 170 | 0 => 0 | 76 => 174 | 75 => 173 | 107 => 179 | 70 => 168 | 20 => 20 | 37 => 138 | 127 => 194 | 21 => 21 | 105 => 197 | 164 => 205 | 162 => 218 | 203 => 216 | 119 => 233 | 46 => 222 | 139 => 236 | 138 => 235 | 51 => 228 | 160 => 237 | 208 => 248 | 206 => 246 | 80 => 96 | n => n, fun | 13 => 0 | 3 => 3 | 4 => 4 | n => n⟩
theorem Tryz.lays158 : Go.Proofs.Lays.n158 Tryz.prog Tryz.lays158_ren := {
  mixed := by kernel_rfl
  f118 := Tryz.func169.trans (congrArg some (by kernel_rfl))
  f158 := Tryz.func93.trans (congrArg some (by kernel_rfl))
  f165 := Tryz.func133.trans (congrArg some (by kernel_rfl))
  f166 := Tryz.func134.trans (congrArg some (by kernel_rfl))
  f167 := Tryz.func138.trans (congrArg some (by kernel_rfl))
  f168 := Tryz.func170.trans (congrArg some (by kernel_rfl))
  f169 := Tryz.func135.trans (congrArg some (by kernel_rfl))
  f197 := Tryz.func168.trans (congrArg some (by kernel_rfl))
  f203 := Tryz.func140.trans (congrArg some (by kernel_rfl))
  f230 := Tryz.func139.trans (congrArg some (by kernel_rfl))
  f240 := Tryz.func164.trans (congrArg some (by kernel_rfl))
  f241 := Tryz.func165.trans (congrArg some (by kernel_rfl))
  f242 := Tryz.func187.trans (congrArg some (by kernel_rfl))
  f260 := Tryz.func186.trans (congrArg some (by kernel_rfl))
  f262 := Tryz.func172.trans (congrArg some (by kernel_rfl))
  f270 := Tryz.func171.trans (congrArg some (by kernel_rfl))
  f274 := Tryz.func205.trans (congrArg some (by kernel_rfl))
  f275 := Tryz.func206.trans (congrArg some (by kernel_rfl))
  f276 := Tryz.func178.trans (congrArg some (by kernel_rfl))
  f277 := Tryz.func179.trans (congrArg some (by kernel_rfl))
  f278 := Tryz.func204.trans (congrArg some (by kernel_rfl))
  f313 := Tryz.func188.trans (congrArg some (by kernel_rfl))
  t0 := Tryz.underlying0
  a0 := Tryz.isAgg0
  z0 := Tryz.sizeOf0
  v0 := Tryz.zeroValue0
  t3 := Tryz.underlying3
  a3 := Tryz.isAgg3
  z3 := Tryz.sizeOf3
  v3 := Tryz.zeroValue3
  t4 := Tryz.underlying4
  a4 := Tryz.isAgg4
  z4 := Tryz.sizeOf4
  v4 := Tryz.zeroValue4
  t5 := Tryz.underlying5
  a5 := Tryz.isAgg5
  z5 := Tryz.sizeOf5
  v5 := Tryz.zeroValue5
  t9 := Tryz.underlying9
  a9 := Tryz.isAgg9
  z9 := Tryz.sizeOf9
  v9 := Tryz.zeroValue9
  t20 := Tryz.underlying20
  a20 := Tryz.isAgg20
  z20 := Tryz.sizeOf20
  v20 := Tryz.zeroValue20
  t21 := Tryz.underlying21
  a21 := Tryz.isAgg21
  z21 := Tryz.sizeOf21
  v21 := Tryz.zeroValue21
  t37 := Tryz.underlying138
  a37 := Tryz.isAgg138
  z37 := Tryz.sizeOf138
  v37 := Tryz.zeroValue138
  t46 := Tryz.underlying222
  a46 := Tryz.isAgg222
  z46 := Tryz.sizeOf222
  v46 := Tryz.zeroValue222
  t51 := Tryz.underlying228
  a51 := Tryz.isAgg228
  z51 := Tryz.sizeOf228
  v51 := Tryz.zeroValue228
  t70 := Tryz.underlying168
  a70 := Tryz.isAgg168
  z70 := Tryz.sizeOf168
  v70 := Tryz.zeroValue168
  t72 := Tryz.underlying170
  a72 := Tryz.isAgg170
  z72 := Tryz.sizeOf170
  v72 := Tryz.zeroValue170
  t75 := Tryz.underlying173
  a75 := Tryz.isAgg173
  z75 := Tryz.sizeOf173
  v75 := Tryz.zeroValue173
  t76 := Tryz.underlying174
  a76 := Tryz.isAgg174
  z76 := Tryz.sizeOf174
  v76 := Tryz.zeroValue174
  t105 := Tryz.underlying197
  a105 := Tryz.isAgg197
  z105 := Tryz.sizeOf197
  v105 := Tryz.zeroValue197
  t107 := Tryz.underlying179
  a107 := Tryz.isAgg179
  z107 := Tryz.sizeOf179
  v107 := Tryz.zeroValue179
  t119 := Tryz.underlying233
  a119 := Tryz.isAgg233
  z119 := Tryz.sizeOf233
  t127 := Tryz.underlying194
  a127 := Tryz.isAgg194
  z127 := Tryz.sizeOf194
  v127 := Tryz.zeroValue194
  t138 := Tryz.underlying235
  a138 := Tryz.isAgg235
  z138 := Tryz.sizeOf235
  v138 := Tryz.zeroValue235
  t139 := Tryz.underlying236
  a139 := Tryz.isAgg236
  z139 := Tryz.sizeOf236
  v139 := Tryz.zeroValue236
  t160 := Tryz.underlying237
  a160 := Tryz.isAgg237
  z160 := Tryz.sizeOf237
  v160 := Tryz.zeroValue237
  t162 := Tryz.underlying218
  a162 := Tryz.isAgg218
  z162 := Tryz.sizeOf218
  v162 := Tryz.zeroValue218
  t164 := Tryz.underlying205
  a164 := Tryz.isAgg205
  z164 := Tryz.sizeOf205
  v164 := Tryz.zeroValue205
  t203 := Tryz.underlying216
  a203 := Tryz.isAgg216
  z203 := Tryz.sizeOf216
  v203 := Tryz.zeroValue216
  t206 := Tryz.underlying246
  a206 := Tryz.isAgg246
  z206 := Tryz.sizeOf246
  v206 := Tryz.zeroValue246
  t208 := Tryz.underlying248
  a208 := Tryz.isAgg248
  z208 := Tryz.sizeOf248
  v208 := Tryz.zeroValue248
  g3 := by kernel_rfl
  g4 := by kernel_rfl
  g13 := by kernel_rfl }
theorem Tryz.Builder_Extra_158 : Builder.Extra Tryz.prog Tryz.lays158_ren := {
  sizeBuilder := by kernel_rfl
  liesBuilder := by kernel_rfl
  t5 := Tryz.underlying5
  a5 := Tryz.isAgg5
  z5 := Tryz.sizeOf5
  v5 := Tryz.zeroValue5
  infoByte := by kernel_rfl
  cellsByte := by kernel_rfl
  sizeByte := by kernel_rfl
  neB5 := by decide }
open Go.RowKit in
/-- strings.ToUpper: "ToUpper returns s with all Unicode letters mapped to their upper case.": ON ASCII TEXT OF AT MOST 2^47 BYTES. Below the heap's end the world is as it was: where a letter turns, the call makes a builder and its buffer. (LAID: no walk: one application.) -/
theorem Tryz.strings_ToUpper_ascii (s : ByteArray) (w : World) (hs : s.size ≤ 140737488355328) (hascii : ∀ (j : Nat) (b : UInt8), s.data.toList[j]? = some b → b.toNat < 128) :
    Calls Tryz.prog 93 #[.string s] w fun e w' => e = .returned (.string ⟨(Lib.toUpperA s.data.toList).toArray⟩) ∧ Below w.heap.size w w' := Any.strings_ToUpper_ascii Tryz.lays158 Tryz.Builder_Extra_158 s w hs hascii
def Tryz.lays156_ren : Go.Shelf.Ren := ⟨fun | 156 => 87 | 165 => 133 | 166 => 134 | 169 => 135 | 240 => 164 | 241 => 165 | 276 => 178 | 277 => 179 | n => n, fun | 31 => 100 | 9 => 9 | 3 => 3 | 4 => 4 | 0 => 0 | 20 => 20 | 72 => 170 | 76 => 174 | 70 => 168 | 37 => 138 | 75 => 173 | 127 => 194 | 164 => 205 | 5 => 5 | 80 => 96 | n => n, fun | n => n⟩
theorem Tryz.lays156 : Go.Proofs.Lays.n156 Tryz.prog Tryz.lays156_ren := {
  mixed := by kernel_rfl
  f156 := Tryz.func87.trans (congrArg some (by kernel_rfl))
  f165 := Tryz.func133.trans (congrArg some (by kernel_rfl))
  f166 := Tryz.func134.trans (congrArg some (by kernel_rfl))
  f169 := Tryz.func135.trans (congrArg some (by kernel_rfl))
  f240 := Tryz.func164.trans (congrArg some (by kernel_rfl))
  f241 := Tryz.func165.trans (congrArg some (by kernel_rfl))
  f276 := Tryz.func178.trans (congrArg some (by kernel_rfl))
  f277 := Tryz.func179.trans (congrArg some (by kernel_rfl))
  t0 := Tryz.underlying0
  a0 := Tryz.isAgg0
  z0 := Tryz.sizeOf0
  v0 := Tryz.zeroValue0
  t3 := Tryz.underlying3
  a3 := Tryz.isAgg3
  z3 := Tryz.sizeOf3
  v3 := Tryz.zeroValue3
  t4 := Tryz.underlying4
  a4 := Tryz.isAgg4
  z4 := Tryz.sizeOf4
  v4 := Tryz.zeroValue4
  t9 := Tryz.underlying9
  a9 := Tryz.isAgg9
  z9 := Tryz.sizeOf9
  v9 := Tryz.zeroValue9
  t20 := Tryz.underlying20
  a20 := Tryz.isAgg20
  z20 := Tryz.sizeOf20
  v20 := Tryz.zeroValue20
  t31 := Tryz.underlying100
  a31 := Tryz.isAgg100
  z31 := Tryz.sizeOf100
  v31 := Tryz.zeroValue100
  t37 := Tryz.underlying138
  a37 := Tryz.isAgg138
  z37 := Tryz.sizeOf138
  v37 := Tryz.zeroValue138
  t70 := Tryz.underlying168
  a70 := Tryz.isAgg168
  z70 := Tryz.sizeOf168
  v70 := Tryz.zeroValue168
  t72 := Tryz.underlying170
  a72 := Tryz.isAgg170
  z72 := Tryz.sizeOf170
  v72 := Tryz.zeroValue170
  t75 := Tryz.underlying173
  a75 := Tryz.isAgg173
  z75 := Tryz.sizeOf173
  v75 := Tryz.zeroValue173
  t76 := Tryz.underlying174
  a76 := Tryz.isAgg174
  z76 := Tryz.sizeOf174
  v76 := Tryz.zeroValue174
  t127 := Tryz.underlying194
  a127 := Tryz.isAgg194
  z127 := Tryz.sizeOf194
  v127 := Tryz.zeroValue194
  t164 := Tryz.underlying205
  a164 := Tryz.isAgg205
  z164 := Tryz.sizeOf205
  v164 := Tryz.zeroValue205 }
theorem Tryz.Builder_Extra_156 : Builder.Extra Tryz.prog Tryz.lays156_ren := {
  sizeBuilder := by kernel_rfl
  liesBuilder := by kernel_rfl
  t5 := Tryz.underlying5
  a5 := Tryz.isAgg5
  z5 := Tryz.sizeOf5
  v5 := Tryz.zeroValue5
  infoByte := by kernel_rfl
  cellsByte := by kernel_rfl
  sizeByte := by kernel_rfl
  neB5 := by decide }
open Go.RowKit in
/-- No element: the empty string; the world is as it was. (Whatever the slice's address and capacity: a nil slice too.) (LAID: no walk: one application.) -/
theorem Tryz.strings_Join_none (a : Option Addr) (c : Nat) (sep : ByteArray) (w : World) :
    Calls Tryz.prog 87 #[.slice a 0 c, .string sep] w fun e w' => e = .returned (.string ⟨#[]⟩) ∧ w' = w := Any.strings_Join_none Tryz.lays156 Tryz.Builder_Extra_156 a c sep w
open Go.RowKit in
/-- strings.Join: "Join concatenates the elements of its first argument to create a single string. The separator string sep is placed between elements in the resulting string.": HOWEVER MANY ELEMENTS. Below the heap's end the world is as it was. (LAID: no walk: one application.) -/
theorem Tryz.strings_Join (bk o c : Nat) (xs : List ByteArray) (sep : ByteArray) (w : World) (hcells : ∀ (j : Nat) x, xs[j]? = some x → w.cell? ⟨bk, o + j, none⟩ = some (.string x)) (hbk : bk < w.heap.size) (hN : xs.length ≤ 140737488355328) (hcap : xs.length ≤ c) (hlen : (Lib.join (xs.map (·.data.toList)) sep.data.toList).length ≤ 140737488355328) :
    Calls Tryz.prog 87 #[.slice (some ⟨bk, o, none⟩) xs.length c, .string sep] w fun e w' => e = .returned (.string ⟨(Lib.join (xs.map (·.data.toList)) sep.data.toList).toArray⟩) ∧ Below w.heap.size w w' := Any.strings_Join Tryz.lays156 Tryz.Builder_Extra_156 bk o c xs sep w hcells hbk hN hcap hlen
def Tryz.laysM171_ren : Go.Shelf.Ren := ⟨fun | 171 => 89 | 243 => 136 | 246 => 166 | 283 => 180 | 284 => 181 | 285 => 182 | 286 => 183 | 129 => 197 | 317 => 196 | 318 => 198 | 319 => 199 | 320 => 200 | 337 => 213 | 338 => 214 | n => n, fun | 3 => 3 | 9 => 9 | 2 => 2 | 4 => 4 | 171 => 208 | 0 => 0 | 53 => 209 | 37 => 138 | 5 => 5 | 173 => 212 | 212 => 227 | 51 => 228 | 20 => 20 | 213 => 229 | 46 => 222 | 232 => 252 | 233 => 253 | n => n, fun | 17 => 2 | 18 => 7 | 19 => 8 | n => n⟩
theorem Tryz.laysM171 : Go.Proofs.LaysM.n171 Tryz.prog Tryz.laysM171_ren := {
  mixed := by kernel_rfl
  f129 := Tryz.func197.trans (congrArg some (by kernel_rfl))
  f171 := Tryz.func89.trans (congrArg some (by kernel_rfl))
  f243 := Tryz.func136.trans (congrArg some (by kernel_rfl))
  f246 := Tryz.func166.trans (congrArg some (by kernel_rfl))
  f283 := Tryz.func180.trans (congrArg some (by kernel_rfl))
  f284 := Tryz.func181.trans (congrArg some (by kernel_rfl))
  f285 := Tryz.func182.trans (congrArg some (by kernel_rfl))
  f286 := Tryz.func183.trans (congrArg some (by kernel_rfl))
  f317 := Tryz.func196.trans (congrArg some (by kernel_rfl))
  f318 := Tryz.func198.trans (congrArg some (by kernel_rfl))
  f319 := Tryz.func199.trans (congrArg some (by kernel_rfl))
  f320 := Tryz.func200.trans (congrArg some (by kernel_rfl))
  f337 := Tryz.func213.trans (congrArg some (by kernel_rfl))
  f338 := Tryz.func214.trans (congrArg some (by kernel_rfl))
  t0 := Tryz.underlying0
  a0 := Tryz.isAgg0
  z0 := Tryz.sizeOf0
  v0 := Tryz.zeroValue0
  t2 := Tryz.underlying2
  a2 := Tryz.isAgg2
  z2 := Tryz.sizeOf2
  v2 := Tryz.zeroValue2
  t3 := Tryz.underlying3
  a3 := Tryz.isAgg3
  z3 := Tryz.sizeOf3
  v3 := Tryz.zeroValue3
  t4 := Tryz.underlying4
  a4 := Tryz.isAgg4
  z4 := Tryz.sizeOf4
  v4 := Tryz.zeroValue4
  t5 := Tryz.underlying5
  a5 := Tryz.isAgg5
  z5 := Tryz.sizeOf5
  v5 := Tryz.zeroValue5
  t9 := Tryz.underlying9
  a9 := Tryz.isAgg9
  z9 := Tryz.sizeOf9
  v9 := Tryz.zeroValue9
  t20 := Tryz.underlying20
  a20 := Tryz.isAgg20
  z20 := Tryz.sizeOf20
  v20 := Tryz.zeroValue20
  t37 := Tryz.underlying138
  a37 := Tryz.isAgg138
  z37 := Tryz.sizeOf138
  v37 := Tryz.zeroValue138
  t46 := Tryz.underlying222
  a46 := Tryz.isAgg222
  z46 := Tryz.sizeOf222
  v46 := Tryz.zeroValue222
  t51 := Tryz.underlying228
  a51 := Tryz.isAgg228
  z51 := Tryz.sizeOf228
  v51 := Tryz.zeroValue228
  t53 := Tryz.underlying209
  a53 := Tryz.isAgg209
  z53 := Tryz.sizeOf209
  v53 := Tryz.zeroValue209
  t171 := Tryz.underlying208
  a171 := Tryz.isAgg208
  z171 := Tryz.sizeOf208
  v171 := Tryz.zeroValue208
  t173 := Tryz.underlying212
  a173 := Tryz.isAgg212
  z173 := Tryz.sizeOf212
  v173 := Tryz.zeroValue212
  t212 := Tryz.underlying227
  a212 := Tryz.isAgg227
  z212 := Tryz.sizeOf227
  v212 := Tryz.zeroValue227
  t213 := Tryz.underlying229
  a213 := Tryz.isAgg229
  z213 := Tryz.sizeOf229
  t232 := Tryz.underlying252
  a232 := Tryz.isAgg252
  z232 := Tryz.sizeOf252
  v232 := Tryz.zeroValue252
  t233 := Tryz.underlying253
  a233 := Tryz.isAgg253
  z233 := Tryz.sizeOf253
  v233 := Tryz.zeroValue253
  g17 := by kernel_rfl
  g18 := by kernel_rfl
  g19 := by kernel_rfl
  i0 := by kernel_rfl
  i2 := by kernel_rfl
  i3 := by kernel_rfl
  i4 := by kernel_rfl
  i5 := by kernel_rfl
  i9 := by kernel_rfl
  i20 := by kernel_rfl
  i37 := by kernel_rfl
  i46 := by kernel_rfl
  i51 := by kernel_rfl
  i53 := by kernel_rfl
  i171 := by kernel_rfl
  i173 := by kernel_rfl
  i212 := by kernel_rfl
  i232 := by kernel_rfl
  i233 := by kernel_rfl
  m17 := by kernel_rfl
  m18 := by kernel_rfl
  m19 := by kernel_rfl }
open Go.RowKit Go.Sort Go.Lib in
/-- strconv.Itoa: "Itoa is equivalent to FormatInt(int64(i), 10).": i's DECIMAL NUMERAL ('Lib.itoa': a '-' where i is negative, then the digits), FOR EVERY int. The world behind the call: the world before it, new blocks behind the heap (the library's 'var a [24]byte'), draws. (LAID: no walk: one application.) -/
theorem Tryz.strconv_Itoa (n : Int) (h0 : -9223372036854775808 ≤ n) (h1 : n ≤ 9223372036854775807) (w : World) (htab : Lib.TabIs Tryz.prog w "internal/strconv.uint64pow10" .u64 Lib.pow10Tab) :
    Calls Tryz.prog 89 #[.int .i64 n] w fun e w' => e = .returned (.string ⟨(Lib.itoa n).toArray⟩) ∧ ∃ k os, w' = grow (w.drewN k) os := Any.strconv_Itoa Tryz.laysM171 n h0 h1 w htab
def Tryz.lays155_ren : Go.Shelf.Ren := ⟨fun | 155 => 137 | 154 => 167 | 138 => 184 | 165 => 133 | 143 => 185 | 166 => 134 | 197 => 168 | 169 => 135 | 195 => 201 | 218 => 202 | 240 => 164 | 241 => 165 | 219 => 203 | 260 => 186 | 276 => 178 | 277 => 179 | 217 => 215 | 225 => 216 | 224 => 217 | 267 => 218 | 266 => 221 | 314 => 222 | n => n, fun | 9 => 9 | 3 => 3 | 4 => 4 | 72 => 170 | 0 => 0 | 76 => 174 | 105 => 197 | 21 => 21 | 5 => 5 | 70 => 168 | 20 => 20 | 37 => 138 | 75 => 173 | 127 => 194 | 164 => 205 | 46 => 222 | 119 => 233 | 139 => 236 | 138 => 235 | 146 => 254 | 51 => 228 | 80 => 96 | n => n, fun | 1 => 1 | 3 => 3 | 4 => 4 | n => n⟩
theorem Tryz.lays155 : Go.Proofs.Lays.n155 Tryz.prog Tryz.lays155_ren := {
  mixed := by kernel_rfl
  f138 := Tryz.func184.trans (congrArg some (by kernel_rfl))
  f143 := Tryz.func185.trans (congrArg some (by kernel_rfl))
  f154 := Tryz.func167.trans (congrArg some (by kernel_rfl))
  f155 := Tryz.func137.trans (congrArg some (by kernel_rfl))
  f165 := Tryz.func133.trans (congrArg some (by kernel_rfl))
  f166 := Tryz.func134.trans (congrArg some (by kernel_rfl))
  f169 := Tryz.func135.trans (congrArg some (by kernel_rfl))
  f195 := Tryz.func201.trans (congrArg some (by kernel_rfl))
  f197 := Tryz.func168.trans (congrArg some (by kernel_rfl))
  f217 := Tryz.func215.trans (congrArg some (by kernel_rfl))
  f218 := Tryz.func202.trans (congrArg some (by kernel_rfl))
  f219 := Tryz.func203.trans (congrArg some (by kernel_rfl))
  f224 := Tryz.func217.trans (congrArg some (by kernel_rfl))
  f225 := Tryz.func216.trans (congrArg some (by kernel_rfl))
  f240 := Tryz.func164.trans (congrArg some (by kernel_rfl))
  f241 := Tryz.func165.trans (congrArg some (by kernel_rfl))
  f260 := Tryz.func186.trans (congrArg some (by kernel_rfl))
  f266 := Tryz.func221.trans (congrArg some (by kernel_rfl))
  f267 := Tryz.func218.trans (congrArg some (by kernel_rfl))
  f276 := Tryz.func178.trans (congrArg some (by kernel_rfl))
  f277 := Tryz.func179.trans (congrArg some (by kernel_rfl))
  f314 := Tryz.func222.trans (congrArg some (by kernel_rfl))
  t0 := Tryz.underlying0
  a0 := Tryz.isAgg0
  z0 := Tryz.sizeOf0
  v0 := Tryz.zeroValue0
  t3 := Tryz.underlying3
  a3 := Tryz.isAgg3
  z3 := Tryz.sizeOf3
  v3 := Tryz.zeroValue3
  t4 := Tryz.underlying4
  a4 := Tryz.isAgg4
  z4 := Tryz.sizeOf4
  v4 := Tryz.zeroValue4
  t5 := Tryz.underlying5
  a5 := Tryz.isAgg5
  z5 := Tryz.sizeOf5
  v5 := Tryz.zeroValue5
  t9 := Tryz.underlying9
  a9 := Tryz.isAgg9
  z9 := Tryz.sizeOf9
  v9 := Tryz.zeroValue9
  t20 := Tryz.underlying20
  a20 := Tryz.isAgg20
  z20 := Tryz.sizeOf20
  v20 := Tryz.zeroValue20
  t21 := Tryz.underlying21
  a21 := Tryz.isAgg21
  z21 := Tryz.sizeOf21
  v21 := Tryz.zeroValue21
  t37 := Tryz.underlying138
  a37 := Tryz.isAgg138
  z37 := Tryz.sizeOf138
  v37 := Tryz.zeroValue138
  t46 := Tryz.underlying222
  a46 := Tryz.isAgg222
  z46 := Tryz.sizeOf222
  v46 := Tryz.zeroValue222
  t51 := Tryz.underlying228
  a51 := Tryz.isAgg228
  z51 := Tryz.sizeOf228
  v51 := Tryz.zeroValue228
  t70 := Tryz.underlying168
  a70 := Tryz.isAgg168
  z70 := Tryz.sizeOf168
  v70 := Tryz.zeroValue168
  t72 := Tryz.underlying170
  a72 := Tryz.isAgg170
  z72 := Tryz.sizeOf170
  v72 := Tryz.zeroValue170
  t75 := Tryz.underlying173
  a75 := Tryz.isAgg173
  z75 := Tryz.sizeOf173
  v75 := Tryz.zeroValue173
  t76 := Tryz.underlying174
  a76 := Tryz.isAgg174
  z76 := Tryz.sizeOf174
  v76 := Tryz.zeroValue174
  t105 := Tryz.underlying197
  a105 := Tryz.isAgg197
  z105 := Tryz.sizeOf197
  v105 := Tryz.zeroValue197
  t119 := Tryz.underlying233
  a119 := Tryz.isAgg233
  z119 := Tryz.sizeOf233
  t127 := Tryz.underlying194
  a127 := Tryz.isAgg194
  z127 := Tryz.sizeOf194
  v127 := Tryz.zeroValue194
  t138 := Tryz.underlying235
  a138 := Tryz.isAgg235
  z138 := Tryz.sizeOf235
  v138 := Tryz.zeroValue235
  t139 := Tryz.underlying236
  a139 := Tryz.isAgg236
  z139 := Tryz.sizeOf236
  v139 := Tryz.zeroValue236
  t146 := Tryz.underlying254
  a146 := Tryz.isAgg254
  z146 := Tryz.sizeOf254
  v146 := Tryz.zeroValue254
  t164 := Tryz.underlying205
  a164 := Tryz.isAgg205
  z164 := Tryz.sizeOf205
  v164 := Tryz.zeroValue205
  g1 := by kernel_rfl
  g3 := by kernel_rfl
  g4 := by kernel_rfl }
theorem Tryz.Builder_Extra_155 : Builder.Extra Tryz.prog Tryz.lays155_ren := {
  sizeBuilder := by kernel_rfl
  liesBuilder := by kernel_rfl
  t5 := Tryz.underlying5
  a5 := Tryz.isAgg5
  z5 := Tryz.sizeOf5
  v5 := Tryz.zeroValue5
  infoByte := by kernel_rfl
  cellsByte := by kernel_rfl
  sizeByte := by kernel_rfl
  neB5 := by decide }
open Go.RowKit Go.Lib in
/-- strings.ReplaceAll: "ReplaceAll returns a copy of the string s with all non-overlapping instances of old replaced by new.": AT AN old THAT IS NOT EMPTY: 'Lib.replaceAll s old new'. (LAID: no walk: one application.) -/
theorem Tryz.strings_ReplaceAll (s old new : ByteArray) (m : Int) (w : World) (hs : s.size < 4294967281) (hm : w.cell? ⟨1, 0, none⟩ = some (.int .i64 m)) (h1 : 1 ≤ old.size) (hlen : s.size + Lib.countB s old * new.size ≤ 140737488355328) :
    Calls Tryz.prog 137 #[.string s, .string old, .string new] w fun e w' =>
      e = .returned (.string ⟨(Lib.replaceAll s.data.toList old.data.toList new.data.toList).toArray⟩) ∧ Below w.heap.size w w' := Any.strings_ReplaceAll Tryz.lays155 Tryz.Builder_Extra_155 s old new m w hs hm h1 hlen
def Tryz.lays274_ren : Go.Shelf.Ren := ⟨fun | 274 => 205 | n => n, fun | 21 => 21 | 162 => 218 | 160 => 237 | 3 => 3 | 4 => 4 | 46 => 222 | 0 => 0 | 208 => 248 | 51 => 228 | 206 => 246 | n => n, fun | n => n⟩
theorem Tryz.lays274 : Go.Proofs.Lays.n274 Tryz.prog Tryz.lays274_ren := {
  mixed := by kernel_rfl
  f274 := Tryz.func205.trans (congrArg some (by kernel_rfl))
  t0 := Tryz.underlying0
  a0 := Tryz.isAgg0
  z0 := Tryz.sizeOf0
  v0 := Tryz.zeroValue0
  t3 := Tryz.underlying3
  a3 := Tryz.isAgg3
  z3 := Tryz.sizeOf3
  v3 := Tryz.zeroValue3
  t4 := Tryz.underlying4
  a4 := Tryz.isAgg4
  z4 := Tryz.sizeOf4
  v4 := Tryz.zeroValue4
  t21 := Tryz.underlying21
  a21 := Tryz.isAgg21
  z21 := Tryz.sizeOf21
  v21 := Tryz.zeroValue21
  t46 := Tryz.underlying222
  a46 := Tryz.isAgg222
  z46 := Tryz.sizeOf222
  v46 := Tryz.zeroValue222
  t51 := Tryz.underlying228
  a51 := Tryz.isAgg228
  z51 := Tryz.sizeOf228
  v51 := Tryz.zeroValue228
  t160 := Tryz.underlying237
  a160 := Tryz.isAgg237
  z160 := Tryz.sizeOf237
  v160 := Tryz.zeroValue237
  t162 := Tryz.underlying218
  a162 := Tryz.isAgg218
  z162 := Tryz.sizeOf218
  v162 := Tryz.zeroValue218
  t208 := Tryz.underlying248
  a208 := Tryz.isAgg248
  z208 := Tryz.sizeOf248
  v208 := Tryz.zeroValue248 }
open Go.RowKit Go.Lib in
theorem Tryz.unicode_lookupCaseRange (T : Array CaseRow) (R oR cap : Nat) (r : Int) (w : World) (hT : CaseTab R oR T w) (hok : CaseOk T) (hn : T.size ≤ 1000000000) :
    Calls Tryz.prog 205 #[.int .i32 r, .slice (some ⟨R, oR, none⟩) T.size cap] w fun e w' =>
      e = .returned (match lookupIdx T r (T.size + 1) 0 T.size with | some i => .pointer (some ⟨R, oR + i * 5, none⟩) | none => .pointer none) ∧ w' = w := Any.unicode_lookupCaseRange Tryz.lays274 T R oR cap r w hT hok hn
end Go.Proofs

namespace Go.Abs
set_option linter.unusedSimpArgs false
set_option linter.unusedVariables false
open Go Go.Proofs

set_option maxRecDepth 100000 in
theorem repl_sound : PrimSound Tryz.prog 137 (.pure replP) := by
  intro cl hcl args st out st' h G W vs hS ha
  simp only [primRun] at h
  cases hc : replP args with
  | none => rw [hc] at h; cases h
  | some v =>
    rw [hc] at h
    simp only [Option.some.injEq, Prod.mk.injEq] at h
    obtain ⟨rfl, rfl⟩ := h
    unfold replP at hc
    split at hc
    · rename_i a b c
      split at hc
      · rename_i hcond
        simp only [Option.some.injEq] at hc
        obtain ⟨u1, r1, e1, h1, h2⟩ := ha
        obtain ⟨u2, r2, rfl, h3, h4⟩ := h2
        obtain ⟨u3, r3, rfl, h5, h6⟩ := h4
        simp only [Reps] at h6
        subst h6
        obtain ⟨s1, rfl, rfl⟩ := h1
        obtain ⟨s2, rfl, rfl⟩ := h3
        obtain ⟨s3, rfl, rfl⟩ := h5
        obtain rfl : vs = #[.string s1, .string s2, .string s3] := Array.ext' (by simpa using e1)
        obtain ⟨m, hm⟩ := hS.base.1
        have hent : (callFunc 137 #[.string s1, .string s2, .string s3]).run Tryz.prog W = .ok (.enter 137 #[.string s1, .string s2, .string s3]) W := by
          simp [callFunc, Tryz.func137, Tryz.f137]
        unfold Does
        rw [hent]
        simp only
        have l : ∀ s : ByteArray, s.data.toList.length = s.size := fun s => by simp
        rw [l, l, l] at hcond
        refine (Tryz.strings_ReplaceAll s1 s2 s3 m W hcond.1 (hS.cell hm) hcond.2.1 hcond.2.2).mono fun e W' ⟨he, hg⟩ => ?_
        subst he
        refine ⟨G, _, good_below hS hg, rfl, ?_⟩
        rw [← hc]
        exact ⟨_, rfl, by simp⟩
      · cases hc
    · cases hc

theorem strs_cells {G : Ghost} {W : World} {st : St} (hS : Sim G st W) : ∀ (xs : List V) (ss : List (List UInt8)) (B off : Nat), strsOf xs = some ss → ReadsE G xs B off →
    ∃ bs : List ByteArray, bs.map (·.data.toList) = ss ∧ xs.length = bs.length ∧ ∀ (j : Nat) x, bs[j]? = some x → W.cell? ⟨B, off + j, none⟩ = some (.string x)
  | [], ss, B, off, h, _ => by
    simp only [strsOf, Option.some.injEq] at h
    subst h
    exact ⟨[], rfl, rfl, fun j x e => by simp at e⟩
  | x :: xs, ss, B, off, h, hr => by
    cases x <;> try (simp [strsOf] at h; done)
    case str s =>
      simp only [strsOf, Option.map_eq_some_iff] at h
      obtain ⟨r, h1, rfl⟩ := h
      rw [readsE_cons] at hr
      simp only [vcells, Reads, and_true, List.length_singleton] at hr
      obtain ⟨⟨v, e1, _, e2⟩, hr2⟩ := hr
      obtain ⟨z, rfl, rfl⟩ := e2
      obtain ⟨bs, k1, k2, k3⟩ := strs_cells hS xs r B (off + 1) h1 hr2
      refine ⟨z :: bs, by simp [k1], by simp [k2], fun j y e => ?_⟩
      cases j with
      | zero => simp at e; subst e; exact hS.cell e1
      | succ j =>
        have := k3 j y (by simpa using e)
        rwa [show off + (j + 1) = off + 1 + j by omega]

set_option maxRecDepth 100000 in
theorem join_sound : PrimSound Tryz.prog 87 (.pure joinP) := by
  intro cl hcl args st out st' h G W vs hS ha
  simp only [primRun] at h
  cases hc : joinP args with
  | none => rw [hc] at h; cases h
  | some v =>
    rw [hc] at h
    simp only [Option.some.injEq, Prod.mk.injEq] at h
    obtain ⟨rfl, rfl⟩ := h
    unfold joinP at hc
    split at hc
    · rename_i o xs sep
      cases hss : strsOf xs with
      | none => rw [hss] at hc; cases hc
      | some ss =>
        rw [hss] at hc
        simp only at hc
        split at hc
        · rename_i hcond
          simp only [Option.some.injEq] at hc
          obtain ⟨u1, r1, e1, h1, h2⟩ := ha
          obtain ⟨u2, r2, rfl, h3, h4⟩ := h2
          simp only [Reps] at h4
          subst h4
          obtain ⟨zs, rfl, rfl⟩ := h3
          obtain ⟨a, cap, rfl, hcap, _, _, _, hcase⟩ := h1
          obtain rfl : vs = #[.slice a xs.length cap, .string zs] := Array.ext' (by simpa using e1)
          have hent : (callFunc 87 #[.slice a xs.length cap, .string zs]).run Tryz.prog W = .ok (.enter 87 #[.slice a xs.length cap, .string zs]) W := by
            simp [callFunc, Tryz.func87, Tryz.f87]
          unfold Does
          rw [hent]
          simp only
          rcases hcase with rfl | ⟨B, off, rfl, hr⟩
          · simp only [strsOf, Option.some.injEq] at hss
            subst hss
            refine (Tryz.strings_Join_none a cap zs W).mono fun e W' ⟨he, hw⟩ => ?_
            subst he; subst hw
            refine ⟨G, _, .refl hS, rfl, ?_⟩
            rw [← hc, Lib.join_nil]
            exact ⟨_, rfl, rfl⟩
          · obtain ⟨bs, k1, k2, k3⟩ := strs_cells hS xs ss B off hss hr
            have hxs : xs ≠ [] ∨ xs = [] := by by_cases h0 : xs = [] <;> simp [h0]
            rcases hxs with hne | rfl
            · have hB : B < W.heap.size := by
                cases hb : bs with
                | nil => rw [hb] at k2; exact absurd (List.eq_nil_of_length_eq_zero k2) hne
                | cons b0 bs0 =>
                  have := k3 0 b0 (by rw [hb]; rfl)
                  unfold World.cell? at this
                  cases hh : W.heap[B]? with
                  | none => simp [hh] at this
                  | some x => exact (Array.getElem?_eq_some_iff.1 hh).1
              have hlen : bs.length = ss.length := by rw [← k1]; simp
              rw [k2] at hcap ⊢
              refine (Tryz.strings_Join B off cap bs zs W k3 hB (by omega) hcap (by rw [k1]; exact hcond.2)).mono fun e W' ⟨he, hg⟩ => ?_
              subst he
              refine ⟨G, _, good_below hS hg, rfl, ?_⟩
              rw [← hc, k1]
              exact ⟨_, rfl, by simp⟩
            · simp only [strsOf, Option.some.injEq] at hss
              subst hss
              refine (Tryz.strings_Join_none _ cap zs W).mono fun e W' ⟨he, hw⟩ => ?_
              subst he; subst hw
              refine ⟨G, _, .refl hS, rfl, ?_⟩
              rw [← hc, Lib.join_nil]
              exact ⟨_, rfl, rfl⟩
        · cases hc
    · cases hc

set_option maxRecDepth 100000 in
theorem itoa_sound : PrimSound Tryz.prog 89 (.pure itoaP) := by
  intro cl hcl args st out st' h G W vs hS ha
  simp only [primRun] at h
  cases hc : itoaP args with
  | none => rw [hc] at h; cases h
  | some v =>
    rw [hc] at h
    simp only [Option.some.injEq, Prod.mk.injEq] at h
    obtain ⟨rfl, rfl⟩ := h
    unfold itoaP at hc
    split at hc
    · rename_i n
      split at hc
      · rename_i hcond
        simp only [Option.some.injEq] at hc
        obtain ⟨u1, r1, e1, h1, h2⟩ := ha
        simp only [Reps] at h2
        subst h2
        simp only [Rep] at h1
        subst h1
        obtain rfl : vs = #[.int .i64 n] := Array.ext' (by simpa using e1)
        obtain ⟨g, T, f, hg, htf⟩ := hS.base.2
        have htab : Lib.TabIs Tryz.prog W "internal/strconv.uint64pow10" .u64 Lib.pow10Tab := by
          unfold Lib.TabIs World.var?
          rw [show Tryz.prog.globalNamed "internal/strconv.uint64pow10" = some 2 by kernel_rfl, Option.bind_some]
          subst hg
          rw [(hS.fix _ _ htf).1]
        have hent : (callFunc 89 #[.int .i64 n]).run Tryz.prog W = .ok (.enter 89 #[.int .i64 n]) W := by
          simp [callFunc, Tryz.func89, Tryz.f89]
        unfold Does
        rw [hent]
        simp only
        refine (Tryz.strconv_Itoa n hcond.1 hcond.2 W htab).mono fun e W' ⟨he, k, os, hw⟩ => ?_
        subst he
        subst hw
        refine ⟨G, _, good_below hS (Lib.below_grow _ _ (Nat.le_refl _) k os), rfl, ?_⟩
        rw [← hc]
        exact ⟨_, rfl, by simp⟩
      · cases hc
    · cases hc

set_option maxRecDepth 100000 in
theorem upper_sound : PrimSound Tryz.prog 93 (.pure upperP) := by
  intro cl hcl args st out st' h G W vs hS ha
  simp only [primRun] at h
  cases hc : upperP args with
  | none => rw [hc] at h; cases h
  | some v =>
    rw [hc] at h
    simp only [Option.some.injEq, Prod.mk.injEq] at h
    obtain ⟨rfl, rfl⟩ := h
    unfold upperP at hc
    split at hc
    · rename_i s
      split at hc
      · rename_i hcond
        simp only [Option.some.injEq] at hc
        obtain ⟨u1, r1, e1, h1, h2⟩ := ha
        simp only [Reps] at h2
        subst h2
        obtain ⟨s1, rfl, rfl⟩ := h1
        obtain rfl : vs = #[.string s1] := Array.ext' (by simpa using e1)
        have hent : (callFunc 93 #[.string s1]).run Tryz.prog W = .ok (.enter 93 #[.string s1]) W := by
          simp [callFunc, Tryz.func93, Tryz.f93]
        unfold Does
        rw [hent]
        simp only
        refine (Tryz.strings_ToUpper_ascii s1 W (by simpa using hcond.1) (fun j b e => by
          have := List.all_eq_true.1 hcond.2 b (List.mem_of_getElem? e)
          simpa using this)).mono fun e W' ⟨he, hg⟩ => ?_
        subst he
        refine ⟨G, _, good_below hS hg, rfl, ?_⟩
        rw [← hc]
        exact ⟨_, rfl, by simp⟩
      · cases hc
    · cases hc

set_option maxRecDepth 100000 in
theorem prims_sound : ∀ f p, pr0 f = some p → PrimSound Tryz.prog f p := by
  intro f p h
  unfold pr0 at h
  split at h
  · rename_i hf; subst hf; cases h; exact repl_sound
  · split at h
    · rename_i hf; subst hf; cases h; exact join_sound
    · split at h
      · rename_i hf; subst hf; cases h; exact catch_sound
      · split at h
        · rename_i hf; subst hf; cases h; exact itoa_sound
        · split at h
          · rename_i hf; subst hf; cases h; exact upper_sound
          · cases h

set_option maxRecDepth 100000 in
theorem noNum : NoNum Tryz.prog := by
  have h : (Tryz.prog.funcs.toList.all fun fn => !(fn.name == "runtime.NumGoroutine")) = true := by kernel_rfl
  intro f fn hf
  have := List.all_eq_true.1 h fn (List.mem_of_getElem? (by simpa using hf))
  simpa using this
theorem mixed : Tryz.prog.follows .mixedOrders = true := Checked.mixed Tryz.checked
end Go.Abs

namespace Go.Abs
open Go

section
variable {H : Type} {enc : TypeId × Value → H} {P : Program} {W : World}

abbrev bulk {H : Type} (d : DataW H) : Nat := Go.Proofs.YtpmeklllgnnffaaGreatDoor.Rows.uptoBulk d
abbrev bulks {H : Type} (d : List (DataW H)) : Nat := Go.Proofs.YtpmeklllgnnffaaGreatDoor.Rows.uptoBulkAll d
theorem bulks_nil {H : Type} : bulks ([] : List (DataW H)) = 0 := rfl
theorem bulks_cons {H : Type} (d : DataW H) (l : List (DataW H)) : bulks (d :: l) = bulk d + bulks l := rfl
theorem bulks_append {H : Type} (k l : List (DataW H)) : bulks (k ++ l) = bulks k + bulks l := by
  induction k with
  | nil => simp [bulks_nil]
  | cons d k ih => rw [List.cons_append, bulks_cons, bulks_cons, ih]; omega
def szs {α : Type} (sz : α → Nat) : List α → Nat
  | [] => 0
  | x :: xs => sz x + szs sz xs
theorem szs_append {α : Type} (sz : α → Nat) : ∀ k l : List α, szs sz (k ++ l) = szs sz k + szs sz l
  | [], l => by simp [szs]
  | x :: k, l => by simp only [List.cons_append, szs, szs_append sz k l]; omega
theorem szs_mem {α : Type} (sz : α → Nat) : ∀ {l : List α} {x : α}, x ∈ l → sz x ≤ szs sz l
  | _ :: _, _, .head _ => by simp only [szs]; omega
  | _ :: l, _, .tail _ h => by have := szs_mem sz h; simp only [szs]; omega
theorem szs_len {α : Type} (sz : α → Nat) (h : ∀ x, 1 ≤ sz x) : ∀ l : List α, l.length ≤ szs sz l
  | [] => by simp
  | x :: l => by have := szs_len sz h l; have := h x; simp only [szs, List.length_cons]; omega

/- what reads as data of a type reads as a value so written -/
def Rs {H : Type} (enc : TypeId × Value → H) (P : Program) (W : World) (n : Nat) (t : TypeId) {α : Type} (E : α → V) (Q : α → Prop) (sz : α → Nat) : Prop :=
  ∀ cs x, DataW.trod enc P W 0 (fun _ => true) true n t cs = some x → ∃ a, Q a ∧ sz a ≤ bulk x.1 ∧ Reps (G0 W) (vcells (E a)) cs

theorem Rs.map {n : Nat} {t : TypeId} {α β : Type} {E : α → V} {E' : β → V} {Q : α → Prop} {Q' : β → Prop} {sz : α → Nat} {sz' : β → Nat} (h : Rs enc P W n t E Q sz) (f : α → β) (hf : ∀ a, Q a → Q' (f a) ∧ sz' (f a) ≤ sz a ∧ vcells (E' (f a)) = vcells (E a)) : Rs enc P W n t E' Q' sz' :=
  fun cs x hx => let ⟨a, q, s, r⟩ := h cs x hx; ⟨f a, (hf a q).1, Nat.le_trans (hf a q).2.1 s, (hf a q).2.2 ▸ r⟩

theorem Rs.bool {t : TypeId} (ht : P.underlying t = some .bool) (n : Nat) : Rs enc P W n t V.bool (fun _ => True) (fun _ => 1) := fun cs x h => by
  obtain ⟨b, rfl, rfl⟩ := DataW.trod_bool ht h
  exact ⟨b, trivial, Nat.le_refl _, _, _, rfl, rfl, rfl⟩

theorem Rs.int {t : TypeId} {k : IntKind} (ht : P.underlying t = some (.int k)) (n : Nat) : Rs enc P W n t (V.int k) (fun m => (Lit.int k m).wf = true) (fun _ => 1) := fun cs x h => by
  obtain ⟨m, rfl, rfl, hw⟩ := DataW.trod_int ht h
  exact ⟨m, hw, Nat.le_refl _, _, _, rfl, rfl, rfl⟩

theorem Rs.str {t : TypeId} (ht : P.underlying t = some .string) (n : Nat) : Rs enc P W n t V.str (fun _ => True) (fun s => s.length + 1) := fun cs x h => by
  obtain ⟨s, rfl, rfl, hs⟩ := DataW.trod_string ht h
  exact ⟨s.data.toList, trivial, Nat.le_refl _, _, _, rfl, ⟨s, rfl, rfl⟩, rfl⟩

theorem Rs.slice {t e : TypeId} (ht : P.underlying t = some (.slice e)) {α : Type} {E : α → V} {Q : α → Prop} {sz : α → Nat} (hw : Well P e E) (hp : 0 < P.cellsOf e) {n : Nat} (h : ∀ m, m < n → Rs enc P W m e E Q sz) :
    Rs enc P W n t (fun xs : List α => V.slice .froz (xs.map E)) (fun xs => ∀ x ∈ xs, Q x) (fun xs => szs sz xs + 1) := by
  intro cs x hx
  rcases DataW.trod_slice ht hx with ⟨rfl, rfl⟩ | ⟨a, len, cap, elems, rest, m, rfl, rfl, rfl, _, hl, hc, hel, hall, _, _⟩
  · exact ⟨[], by simp, Nat.le_refl _, _, _, rfl, ⟨none, 0, rfl, Nat.le_refl _, trivial, by simp, ⟨0, by simp⟩, .inl rfl⟩, rfl⟩
  · have each : ∀ i, i < len → ∃ y : α, Q y ∧ (∃ d, elems[i]? = some d ∧ sz y ≤ bulk d.1) ∧ ∃ cs', W.cells? 0 (a.add (i * P.cellsOf e)) (P.cellsOf e) = some cs' ∧ Reps (G0 W) (vcells (E y)) cs' := by
      intro i hi
      have := hall i hi
      rw [List.getElem?_eq_getElem (by omega)] at this
      obtain ⟨cs', h1, h2⟩ := Option.bind_eq_some_iff.1 this
      obtain ⟨y, q, s, r⟩ := h m (Nat.lt_succ_self m) cs' _ h2
      exact ⟨y, q, ⟨_, List.getElem?_eq_getElem (by omega), s⟩, cs', h1, r⟩
    have build : ∀ k, k ≤ len → ∃ xs : List α, xs.length = k ∧ (∀ y ∈ xs, Q y) ∧ szs sz xs ≤ bulks ((elems.take k).map (·.1)) ∧ Reads (G0 W) ((xs.map E).flatMap vcells) a.block a.off ∧ (0 < k → a.spot = none) := by
      intro k
      induction k with
      | zero => intro _; exact ⟨[], rfl, by simp, by simp [szs], trivial, by omega⟩
      | succ k ih =>
        intro hk
        obtain ⟨xs, e1, e2, es, e3, e4⟩ := ih (by omega)
        obtain ⟨y, q, ⟨d, hd, hsd⟩, cs', h1, r⟩ := each k (by omega)
        obtain ⟨c1, c2⟩ := cells_of h1
        have len_of : ((xs.map E).flatMap vcells).length = k * P.cellsOf e := by
          rw [← e1]
          clear e1 e2 e3 es
          induction xs with
          | nil => simp
          | cons x xs ih => simp only [List.map_cons, List.flatMap_cons, List.length_append, hw.len, ih, List.length_cons, Nat.add_mul]; omega
        have at_ : ∀ j v, cs'[j]? = some v → (a.add (k * P.cellsOf e)).spot = none ∧ (G0 W).imm a.block (a.off + k * P.cellsOf e + j) = some v := fun j v hv => by
          have hj : j < P.cellsOf e := by rw [← c1]; exact (List.getElem?_eq_some_iff.1 hv).1
          have := imm0 ((c2 j hj).trans hv)
          have hb : ((a.add (k * P.cellsOf e)).add j).block = a.block ∧ ((a.add (k * P.cellsOf e)).add j).off = a.off + k * P.cellsOf e + j := by
            unfold Addr.add
            split <;> split <;> simp_all
          rw [hb.1, hb.2] at this
          refine ⟨?_, this.2⟩
          by_cases hj0 : j = 0
          · subst hj0; simpa [Addr.add] using this.1
          · obtain ⟨v0, hv0⟩ : ∃ v0, cs'[0]? = some v0 := ⟨cs'[0]'(by omega), by simp⟩
            have := imm0 ((c2 0 hp).trans hv0)
            simpa [Addr.add] using this.1
        refine ⟨xs ++ [y], by simp [e1], fun z hz => ?_, ?_, ?_, fun _ => ?_⟩
        · rcases List.mem_append.1 hz with hz | hz
          · exact e2 z hz
          · simp at hz; subst hz; exact q
        · have hlt : k < elems.length := by omega
          rw [List.take_succ_eq_append_getElem hlt, List.map_append, bulks_append, szs_append]
          rw [List.getElem?_eq_getElem hlt, Option.some.injEq] at hd
          rw [hd]
          simp only [List.map_cons, List.map_nil, bulks_cons, bulks_nil, szs]
          omega
        · rw [List.map_append, List.flatMap_append, Reads.append, len_of]
          refine ⟨e3, ?_⟩
          simp only [List.map_cons, List.map_nil, List.flatMap_cons, List.flatMap_nil, List.append_nil]
          exact Reads.of_reps (fun _ _ _ h => h) r (Reps.one r (hw.ok y)) (by rw [refs_vcells]; exact hw.refs y) fun j v hv => (at_ j v hv).2
        · by_cases hk0 : k = 0
          · subst hk0
            obtain ⟨v0, hv0⟩ : ∃ v0, cs'[0]? = some v0 := ⟨cs'[0]'(by omega), by simp⟩
            simpa [Addr.add] using (at_ 0 v0 hv0).1
          · exact e4 (by omega)
    obtain ⟨xs, e1, e2, es, e3, e4⟩ := build len (Nat.le_refl _)
    have hbk : szs sz xs + 1 ≤ bulk (DataW.slice (elems.map (·.1)) (rest.map (·.1))) := by
      rw [List.take_of_length_le (by omega)] at es
      have : bulk (DataW.slice (elems.map (·.1)) (rest.map (·.1))) = bulks (elems.map (·.1)) + bulks (rest.map (·.1)) + 1 := rfl
      omega
    refine ⟨xs, e2, hbk, _, _, rfl, ⟨some a, cap, by rw [List.length_map, e1], by rw [List.length_map, e1]; exact hl, trivial, ?_, ⟨P.cellsOf e, ?_⟩, ?_⟩, rfl⟩
    · intro z hz
      obtain ⟨y, _, rfl⟩ := List.mem_map.1 hz
      exact hw.refs y
    · intro z hz
      obtain ⟨y, _, rfl⟩ := List.mem_map.1 hz
      exact hw.len y
    · by_cases h0 : len = 0
      · left; rw [List.map_eq_nil_iff]; exact List.eq_nil_of_length_eq_zero (by omega)
      · right
        refine ⟨a.block, a.off, ?_, (readsE_flat _ _ _).2 e3⟩
        obtain ⟨b, o, s⟩ := a
        have := e4 (by omega)
        simp only at this
        subst this
        rfl

/- a struct's fields, one behind the other -/
def RsF {H : Type} (enc : TypeId × Value → H) (P : Program) (W : World) (n : Nat) (L : Nat) (fs : List (Nat × TypeId)) (off : Nat) {α : Type} (E : α → List V) (Q : α → Prop) (sz : α → Nat) : Prop :=
  ∀ (cs : List Value) (ds : List (DataW H)), cs.length = L → ds.length = fs.length → (∀ (i : Nat) f, fs[i]? = some f → ∃ y, DataW.trod enc P W 0 (fun _ => true) true n f.2 ((cs.drop f.1).take (P.cellsOf f.2)) = some y ∧ ds[i]? = some y.1) → ∃ a, Q a ∧ sz a ≤ bulks ds ∧ Reps (G0 W) (E a) (cs.drop off)

theorem RsF.nil {n L : Nat} : RsF enc P W n L [] L (fun _ : Unit => []) (fun _ => True) (fun _ => 0) := fun cs ds hl _ _ => ⟨(), trivial, Nat.zero_le _, by rw [List.drop_of_length_le (by omega)]; rfl⟩

theorem RsF.cons {n L off t : Nat} {fs : List (Nat × TypeId)} {α β : Type} {E : α → V} {Q : α → Prop} {E' : β → List V} {Q' : β → Prop} {sz : α → Nat} {sz' : β → Nat} {w : Nat} (hs : P.cellsOf t = w) (h : Rs enc P W n t E Q sz) (h' : RsF enc P W n L fs (off + w) E' Q' sz') :
    RsF enc P W n L ((off, t) :: fs) off (fun p : α × β => vcells (E p.1) ++ E' p.2) (fun p => Q p.1 ∧ Q' p.2) (fun p => sz p.1 + sz' p.2) := fun cs ds hl hd hall => by
  obtain ⟨y, hy, hy'⟩ := hall 0 (off, t) rfl
  obtain ⟨a, q, s, r⟩ := h _ _ hy
  cases ds with
  | nil => cases hd
  | cons d ds =>
    obtain ⟨b, q', s', r'⟩ := h' cs ds hl (by simpa using hd) (fun i f hf => by simpa using hall (i + 1) f (by simpa using hf))
    have hdy : d = y.1 := by simpa using hy'
    refine ⟨(a, b), ⟨q, q'⟩, by rw [bulks_cons, hdy]; exact Nat.add_le_add s s', ?_⟩
    have := r.append r'
    rw [hs] at this
    rwa [show (cs.drop off).take w ++ cs.drop (off + w) = cs.drop off by rw [← List.drop_drop, List.take_append_drop]] at this

theorem Rs.struct {t : TypeId} {fs : Array Field} (ht : P.underlying t = some (.struct fs)) {n : Nat} {α β : Type} {E : α → List V} {Q : α → Prop} {sz : α → Nat} {L : Nat} (hL : P.cellsOf t = L)
    (h : ∀ m, m < n → RsF enc P W m L (fs.toList.map fun f => (f.offset, f.type)) 0 E Q sz) {E' : β → V} {Q' : β → Prop} {sz' : β → Nat} (f : α → β) (hf : ∀ a, Q a → Q' (f a) ∧ sz' (f a) ≤ sz a + 1 ∧ vcells (E' (f a)) = E a) : Rs enc P W n t E' Q' sz' := by
  intro cs x hx
  obtain ⟨xs, m, rfl, rfl, hlen, hxs, hall⟩ := DataW.trod_struct ht hx
  obtain ⟨a, q, s, r⟩ := h m (Nat.lt_succ_self m) cs (xs.map (·.1)) (hlen.trans hL) (by simp [hxs]) fun i p hp => by
    simp only [List.getElem?_map, Option.map_eq_some_iff] at hp
    obtain ⟨fl, hi, rfl⟩ := hp
    have hi' : fs[i]? = some fl := by simpa using hi
    have := hall i fl hi'
    have hlt : i < xs.length := by rw [hxs]; exact (Array.getElem?_eq_some_iff.1 hi').1
    rw [List.getElem?_eq_getElem hlt] at this
    exact ⟨_, this, by simp [hlt]⟩
  obtain ⟨q', hs, e⟩ := hf a q
  have hb : bulk (DataW.agg (xs.map (·.1))) = bulks (xs.map (·.1)) + 1 := rfl
  exact ⟨f a, q', by simp only [hb]; omega, by rw [e]; simpa using r⟩

end

/- arguments -/
theorem rs_arg {H : Type} {enc : TypeId × Value → H} {P : Program} {W : World} {t : TypeId} {v : Value} {d : DataW H} {p : List MemPlace} {α : Type} {E : α → V} {Q : α → Prop} {sz : α → Nat} (hd : DataW.Trod enc P W 0 (fun _ => true) true t v d p)
    (h : ∀ n, Rs enc P W n t E Q sz) (hone : ∀ a, ∃ x, vcells (E a) = [x] ∧ cellOk x = true ∧ E a = x) (hv : ∀ cs, v ≠ .agg cs) : ∃ a, Q a ∧ sz a ≤ bulk d ∧ Rep (G0 W) (E a) v := by
  obtain ⟨n, hn⟩ := hd
  obtain ⟨a, q, s, r⟩ := h n _ _ hn
  obtain ⟨x, e1, e2, e3⟩ := hone a
  refine ⟨a, q, s, ?_⟩
  rw [e1] at r
  obtain ⟨u, hu, hr⟩ := reps_single r rfl
  have : v.cells = #[v] := by
    cases v with
    | agg cs => exact absurd rfl (hv cs)
    | _ => rfl
  rw [this] at hu
  cases hu
  rw [e3]; exact hr

theorem rs_arg_agg {H : Type} {enc : TypeId × Value → H} {P : Program} {W : World} {t : TypeId} {v : Value} {d : DataW H} {p : List MemPlace} {α : Type} {E : α → V} {Q : α → Prop} {sz : α → Nat} (hd : DataW.Trod enc P W 0 (fun _ => true) true t v d p)
    (h : ∀ n, Rs enc P W n t E Q sz) (hagg : ∀ a, ∃ cs, E a = .agg cs) (hv : ∃ cs, v = .agg cs) : ∃ a, Q a ∧ sz a ≤ bulk d ∧ Rep (G0 W) (E a) v := by
  obtain ⟨n, hn⟩ := hd
  obtain ⟨a, q, s, r⟩ := h n _ _ hn
  obtain ⟨xs, e1⟩ := hagg a
  obtain ⟨cs, rfl⟩ := hv
  refine ⟨a, q, s, ?_⟩
  rw [e1] at r ⊢
  exact ⟨cs, rfl, by simpa [vcells, Value.cells] using r⟩

end Go.Abs

