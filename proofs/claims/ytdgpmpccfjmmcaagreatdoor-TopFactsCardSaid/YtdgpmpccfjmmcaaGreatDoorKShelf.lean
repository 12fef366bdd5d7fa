/-
  DERIVED:THE SHELF's CONTRACTS AT THIS DUMP,IN PLAIN WORDS (tools/lay-plain.mjs out of 'TryzShelf.lean',which tools/lay-shelf.mjs wrote):THE SAME DECLARATIONS UNDER THE SAME NAMES: 'import','namespace','open','def','theorem' AND NOTHING ELSE:no command of the shelf's:FOR A HAND-IN. Each laying:the table of numbers ('.._ren') and one theorem,a field a fact of the dump's own or the kernel's comparison;each contract:ONE APPLICATION.
-/
import Derived.Shelf.Strings.Builder1
import Derived.Shelf.Strings.Builder2
import Derived.Shelf.Small.Utf8
import Derived.Shelf.Small.Strs
import Derived.Shelf.Strings.BuilderF
import Derived.Shelf.Strings.BuilderK
import Derived.Shelf.Strings.Builder2Cap
import Derived.Shelf.Strconv.Atoi
import Derived.Shelf.Strconv.Itoa0
import Derived.Shelf.Strconv.Itoa1
import Derived.Shelf.LaysM
import Derived.Shelf.Strconv.Itoa2
import Derived.Shelf.Strconv.Itoa3
import Derived.Shelf.Strconv.AtoiErrFast
import Derived.Shelf.Strconv.ParseIntEmpty
import Derived.Shelf.Strconv.AtoiFail
import Derived.Shelf.Strconv.Clone
import Derived.Shelf.Strconv.SyntaxError
import Derived.Shelf.LaysC
import Derived.Shelf.Strconv.ToError
import Derived.Shelf.Strconv.Lower
import Derived.Shelf.Strconv.ParseUint10
import Derived.Shelf.Strconv.ParseUint10Empty
import Derived.Shelf.Strconv.ParseUint10Any
import Derived.Shelf.Strconv.ParseInt10
import Derived.Shelf.Strconv.AtoiLong
import Derived.Shelf.Strconv.AtoiInnerAll
import Derived.Shelf.Strconv.RangeError
import Derived.Shelf.Strconv.ToErrorRange
import Derived.Shelf.Strconv.AtoiAll
import Derived.Shelf.Strings.Search1
import Derived.Shelf.Strings.Search2
import Derived.Shelf.Strings.Search3
import Derived.Shelf.Strings.Shaped
import Derived.Shelf.Strings.Prefix
import Derived.Shelf.Strings.Runes
import Derived.Shelf.Strings.AsciiSet
import Derived.Shelf.Bits.Mul64
import Derived.Shelf.Unicode.DecodeSlow
import Derived.Shelf.Strings.BuilderCap
import Derived.Test.YtdgpmpccfjmmcaaGreatDoorProg
set_option linter.unusedVariables false
set_option linter.unusedSimpArgs false
namespace Go.Proofs
open Go.Shelf
def Tryz.lays169_ren:Go.Shelf.Ren:=⟨fun | 169 => 99 | n => n,fun | 70 => 183 | 9 => 9 | 0 => 0 | 72 => 186 | 37 => 184 | 127 => 235 | 3 => 3 | 5 => 5 | n => n,fun | n => n⟩
theorem Tryz.lays169:Go.Proofs.Lays.n169 Tryz.prog Tryz.lays169_ren:={
 mixed:=by kernel_rfl
 f169:=Tryz.func99.trans (congrArg some (by kernel_rfl))
 t0:=Tryz.underlying0
 a0:=Tryz.isAgg0
 z0:=Tryz.sizeOf0
 v0:=Tryz.zeroValue0
 t3:=Tryz.underlying3
 a3:=Tryz.isAgg3
 z3:=Tryz.sizeOf3
 v3:=Tryz.zeroValue3
 t9:=Tryz.underlying9
 a9:=Tryz.isAgg9
 z9:=Tryz.sizeOf9
 v9:=Tryz.zeroValue9
 t37:=Tryz.underlying184
 a37:=Tryz.isAgg184
 z37:=Tryz.sizeOf184
 v37:=Tryz.zeroValue184
 t70:=Tryz.underlying183
 a70:=Tryz.isAgg183
 z70:=Tryz.sizeOf183
 v70:=Tryz.zeroValue183
 t72:=Tryz.underlying186
 a72:=Tryz.isAgg186
 z72:=Tryz.sizeOf186
 v72:=Tryz.zeroValue186
 t127:=Tryz.underlying235
 a127:=Tryz.isAgg235
 z127:=Tryz.sizeOf235
 v127:=Tryz.zeroValue235}
theorem Tryz.Builder_Extra_169:Builder.Extra Tryz.prog Tryz.lays169_ren:={
 sizeBuilder:=by kernel_rfl
 liesBuilder:=by kernel_rfl
 t5:=Tryz.underlying5
 a5:=Tryz.isAgg5
 z5:=Tryz.sizeOf5
 v5:=Tryz.zeroValue5
 infoByte:=by kernel_rfl
 cellsByte:=by kernel_rfl
 sizeByte:=by kernel_rfl
 neB5:=by decide}
open Go.RowKit in
theorem Tryz.Builder_String_any (B b:Nat) (l:List UInt8) (w:World) (h:Lib.IsBuilder 186 5 B b (Lib.byteCells l) w) (hBw:B≤w.heap.size) :
 Calls Tryz.prog 99 #[.pointer (some ⟨b,0,none⟩)] w fun e w' => e=.returned (.string ⟨l.toArray⟩)∧Below B w w':=Any.Builder_String_any Tryz.lays169 Tryz.Builder_Extra_169 B b l w h hBw
def Tryz.lays137_ren:Go.Shelf.Ren:=⟨fun | 137 => 106 | 217 => 154 | 266 => 225 | n => n,fun | 9 => 9 | 5 => 5 | 3 => 3 | n => n,fun | n => n⟩
theorem Tryz.lays137:Go.Proofs.Lays.n137 Tryz.prog Tryz.lays137_ren:={
 mixed:=by kernel_rfl
 f137:=Tryz.func106.trans (congrArg some (by kernel_rfl))
 f217:=Tryz.func154.trans (congrArg some (by kernel_rfl))
 f266:=Tryz.func225.trans (congrArg some (by kernel_rfl))
 t3:=Tryz.underlying3
 a3:=Tryz.isAgg3
 z3:=Tryz.sizeOf3
 v3:=Tryz.zeroValue3
 t5:=Tryz.underlying5
 a5:=Tryz.isAgg5
 z5:=Tryz.sizeOf5
 v5:=Tryz.zeroValue5
 t9:=Tryz.underlying9
 a9:=Tryz.isAgg9
 z9:=Tryz.sizeOf9
 v9:=Tryz.zeroValue9}
open Go.RowKit in
theorem Tryz.strings_IndexByte (s:ByteArray) (c:Int) (w:World) :
 Calls Tryz.prog 106 #[.string s,.int .u8 c] w fun e w' => e=.returned (.int .i64 (Lib.indexByte s.data.toList c.toNat.toUInt8))∧w'=w:=Any.strings_IndexByte Tryz.lays137 s c w
def Tryz.laysM171_ren:Go.Shelf.Ren:=⟨fun | 171 => 41 | 243 => 75 | 246 => 115 | 283 => 166 | 284 => 167 | 285 => 168 | 286 => 169 | 129 => 237 | 317 => 236 | 318 => 238 | 319 => 239 | 320 => 240 | 337 => 303 | 338 => 304 | n => n,fun | 3 => 3 | 9 => 9 | 2 => 2 | 4 => 4 | 171 => 248 | 0 => 0 | 53 => 42 | 37 => 184 | 5 => 5 | 173 => 251 | 212 => 313 | 51 => 314 | 20 => 20 | 213 => 315 | 46 => 300 | 232 => 434 | 233 => 435 | n => n,fun | 17 => 3 | 18 => 4 | 19 => 5 | n => n⟩
theorem Tryz.laysM171:Go.Proofs.LaysM.n171 Tryz.prog Tryz.laysM171_ren:={
 mixed:=by kernel_rfl
 f129:=Tryz.func237.trans (congrArg some (by kernel_rfl))
 f171:=Tryz.func41.trans (congrArg some (by kernel_rfl))
 f243:=Tryz.func75.trans (congrArg some (by kernel_rfl))
 f246:=Tryz.func115.trans (congrArg some (by kernel_rfl))
 f283:=Tryz.func166.trans (congrArg some (by kernel_rfl))
 f284:=Tryz.func167.trans (congrArg some (by kernel_rfl))
 f285:=Tryz.func168.trans (congrArg some (by kernel_rfl))
 f286:=Tryz.func169.trans (congrArg some (by kernel_rfl))
 f317:=Tryz.func236.trans (congrArg some (by kernel_rfl))
 f318:=Tryz.func238.trans (congrArg some (by kernel_rfl))
 f319:=Tryz.func239.trans (congrArg some (by kernel_rfl))
 f320:=Tryz.func240.trans (congrArg some (by kernel_rfl))
 f337:=Tryz.func303.trans (congrArg some (by kernel_rfl))
 f338:=Tryz.func304.trans (congrArg some (by kernel_rfl))
 t0:=Tryz.underlying0
 a0:=Tryz.isAgg0
 z0:=Tryz.sizeOf0
 v0:=Tryz.zeroValue0
 t2:=Tryz.underlying2
 a2:=Tryz.isAgg2
 z2:=Tryz.sizeOf2
 v2:=Tryz.zeroValue2
 t3:=Tryz.underlying3
 a3:=Tryz.isAgg3
 z3:=Tryz.sizeOf3
 v3:=Tryz.zeroValue3
 t4:=Tryz.underlying4
 a4:=Tryz.isAgg4
 z4:=Tryz.sizeOf4
 v4:=Tryz.zeroValue4
 t5:=Tryz.underlying5
 a5:=Tryz.isAgg5
 z5:=Tryz.sizeOf5
 v5:=Tryz.zeroValue5
 t9:=Tryz.underlying9
 a9:=Tryz.isAgg9
 z9:=Tryz.sizeOf9
 v9:=Tryz.zeroValue9
 t20:=Tryz.underlying20
 a20:=Tryz.isAgg20
 z20:=Tryz.sizeOf20
 v20:=Tryz.zeroValue20
 t37:=Tryz.underlying184
 a37:=Tryz.isAgg184
 z37:=Tryz.sizeOf184
 v37:=Tryz.zeroValue184
 t46:=Tryz.underlying300
 a46:=Tryz.isAgg300
 z46:=Tryz.sizeOf300
 v46:=Tryz.zeroValue300
 t51:=Tryz.underlying314
 a51:=Tryz.isAgg314
 z51:=Tryz.sizeOf314
 v51:=Tryz.zeroValue314
 t53:=Tryz.underlying42
 a53:=Tryz.isAgg42
 z53:=Tryz.sizeOf42
 v53:=Tryz.zeroValue42
 t171:=Tryz.underlying248
 a171:=Tryz.isAgg248
 z171:=Tryz.sizeOf248
 v171:=Tryz.zeroValue248
 t173:=Tryz.underlying251
 a173:=Tryz.isAgg251
 z173:=Tryz.sizeOf251
 v173:=Tryz.zeroValue251
 t212:=Tryz.underlying313
 a212:=Tryz.isAgg313
 z212:=Tryz.sizeOf313
 v212:=Tryz.zeroValue313
 t213:=Tryz.underlying315
 a213:=Tryz.isAgg315
 z213:=Tryz.sizeOf315
 t232:=Tryz.underlying434
 a232:=Tryz.isAgg434
 z232:=Tryz.sizeOf434
 v232:=Tryz.zeroValue434
 t233:=Tryz.underlying435
 a233:=Tryz.isAgg435
 z233:=Tryz.sizeOf435
 v233:=Tryz.zeroValue435
 g17:=by kernel_rfl
 g18:=by kernel_rfl
 g19:=by kernel_rfl
 i0:=by kernel_rfl
 i2:=by kernel_rfl
 i3:=by kernel_rfl
 i4:=by kernel_rfl
 i5:=by kernel_rfl
 i9:=by kernel_rfl
 i20:=by kernel_rfl
 i37:=by kernel_rfl
 i46:=by kernel_rfl
 i51:=by kernel_rfl
 i53:=by kernel_rfl
 i171:=by kernel_rfl
 i173:=by kernel_rfl
 i212:=by kernel_rfl
 i232:=by kernel_rfl
 i233:=by kernel_rfl
 m17:=by kernel_rfl
 m18:=by kernel_rfl
 m19:=by kernel_rfl}
open Go.RowKit Go.Sort Go.Lib in
theorem Tryz.strconv_Itoa (n:Int) (h0: -9223372036854775808≤n) (h1:n≤9223372036854775807) (w:World) (htab:Lib.TabIs Tryz.prog w "internal/strconv.uint64pow10" .u64 Lib.pow10Tab) :
 Calls Tryz.prog 41 #[.int .i64 n] w fun e w' => e=.returned (.string ⟨(Lib.itoa n).toArray⟩)∧∃ k os,w'=grow (w.drewN k) os:=Any.strconv_Itoa Tryz.laysM171 n h0 h1 w htab
def Tryz.laysC172_ren:Go.Shelf.Ren:=⟨fun | 172 => 301 | 244 => 349 | 245 => 350 | 247 => 379 | 279 => 380 | 280 => 381 | 281 => 382 | 282 => 383 | 287 => 394 | 316 => 395 | 171 => 41 | 205 => 396 | 321 => 408 | 322 => 409 | 243 => 75 | 246 => 115 | 283 => 166 | 284 => 167 | 285 => 168 | 286 => 169 | 129 => 237 | 317 => 236 | 318 => 238 | 319 => 239 | 320 => 240 | 337 => 303 | 338 => 304 | n => n,fun | 9 => 9 | 3 => 3 | 75 => 188 | 76 => 189 | 4 => 4 | 5 => 5 | 167 => 461 | 37 => 184 | 0 => 0 | 85 => 462 | 2 => 2 | 168 => 464 | 53 => 42 | 175 => 479 | 46 => 300 | 210 => 482 | 127 => 235 | 145 => 488 | 143 => 486 | 21 => 21 | 171 => 248 | 173 => 251 | 212 => 313 | 51 => 314 | 20 => 20 | 213 => 315 | 232 => 434 | 233 => 435 | 80 => 191 | n => n,fun | 15 => 8 | 16 => 9 | 17 => 3 | 18 => 4 | 19 => 5 | n => n⟩
theorem Tryz.laysC172:Go.Proofs.LaysC.n172 Tryz.prog Tryz.laysC172_ren:={
 mixed:=by kernel_rfl
 f129:=Tryz.func237.trans (congrArg some (by kernel_rfl))
 f171:=Tryz.func41.trans (congrArg some (by kernel_rfl))
 f172:=Tryz.func301.trans (congrArg some (by kernel_rfl))
 f205:=Tryz.func396.trans (congrArg some (by kernel_rfl))
 f243:=Tryz.func75.trans (congrArg some (by kernel_rfl))
 f244:=Tryz.func349.trans (congrArg some (by kernel_rfl))
 f245:=Tryz.func350.trans (congrArg some (by kernel_rfl))
 f246:=Tryz.func115.trans (congrArg some (by kernel_rfl))
 f247:=Tryz.func379.trans (congrArg some (by kernel_rfl))
 f279:=Tryz.func380.trans (congrArg some (by kernel_rfl))
 f280:=Tryz.func381.trans (congrArg some (by kernel_rfl))
 f281:=Tryz.func382.trans (congrArg some (by kernel_rfl))
 f282:=Tryz.func383.trans (congrArg some (by kernel_rfl))
 f283:=Tryz.func166.trans (congrArg some (by kernel_rfl))
 f284:=Tryz.func167.trans (congrArg some (by kernel_rfl))
 f285:=Tryz.func168.trans (congrArg some (by kernel_rfl))
 f286:=Tryz.func169.trans (congrArg some (by kernel_rfl))
 f287:=Tryz.func394.trans (congrArg some (by kernel_rfl))
 f316:=Tryz.func395.trans (congrArg some (by kernel_rfl))
 f317:=Tryz.func236.trans (congrArg some (by kernel_rfl))
 f318:=Tryz.func238.trans (congrArg some (by kernel_rfl))
 f319:=Tryz.func239.trans (congrArg some (by kernel_rfl))
 f320:=Tryz.func240.trans (congrArg some (by kernel_rfl))
 f321:=Tryz.func408.trans (congrArg some (by kernel_rfl))
 f322:=Tryz.func409.trans (congrArg some (by kernel_rfl))
 f337:=Tryz.func303.trans (congrArg some (by kernel_rfl))
 f338:=Tryz.func304.trans (congrArg some (by kernel_rfl))
 t0:=Tryz.underlying0
 a0:=Tryz.isAgg0
 z0:=Tryz.sizeOf0
 v0:=Tryz.zeroValue0
 t2:=Tryz.underlying2
 a2:=Tryz.isAgg2
 z2:=Tryz.sizeOf2
 v2:=Tryz.zeroValue2
 t3:=Tryz.underlying3
 a3:=Tryz.isAgg3
 z3:=Tryz.sizeOf3
 v3:=Tryz.zeroValue3
 t4:=Tryz.underlying4
 a4:=Tryz.isAgg4
 z4:=Tryz.sizeOf4
 v4:=Tryz.zeroValue4
 t5:=Tryz.underlying5
 a5:=Tryz.isAgg5
 z5:=Tryz.sizeOf5
 v5:=Tryz.zeroValue5
 t9:=Tryz.underlying9
 a9:=Tryz.isAgg9
 z9:=Tryz.sizeOf9
 v9:=Tryz.zeroValue9
 t20:=Tryz.underlying20
 a20:=Tryz.isAgg20
 z20:=Tryz.sizeOf20
 v20:=Tryz.zeroValue20
 t21:=Tryz.underlying21
 a21:=Tryz.isAgg21
 z21:=Tryz.sizeOf21
 v21:=Tryz.zeroValue21
 t37:=Tryz.underlying184
 a37:=Tryz.isAgg184
 z37:=Tryz.sizeOf184
 v37:=Tryz.zeroValue184
 t46:=Tryz.underlying300
 a46:=Tryz.isAgg300
 z46:=Tryz.sizeOf300
 v46:=Tryz.zeroValue300
 t51:=Tryz.underlying314
 a51:=Tryz.isAgg314
 z51:=Tryz.sizeOf314
 v51:=Tryz.zeroValue314
 t53:=Tryz.underlying42
 a53:=Tryz.isAgg42
 z53:=Tryz.sizeOf42
 v53:=Tryz.zeroValue42
 t75:=Tryz.underlying188
 a75:=Tryz.isAgg188
 z75:=Tryz.sizeOf188
 v75:=Tryz.zeroValue188
 t76:=Tryz.underlying189
 a76:=Tryz.isAgg189
 z76:=Tryz.sizeOf189
 v76:=Tryz.zeroValue189
 t85:=Tryz.underlying462
 a85:=Tryz.isAgg462
 z85:=Tryz.sizeOf462
 v85:=Tryz.zeroValue462
 t127:=Tryz.underlying235
 a127:=Tryz.isAgg235
 z127:=Tryz.sizeOf235
 v127:=Tryz.zeroValue235
 t143:=Tryz.underlying486
 a143:=Tryz.isAgg486
 z143:=Tryz.sizeOf486
 v143:=Tryz.zeroValue486
 t145:=Tryz.underlying488
 a145:=Tryz.isAgg488
 z145:=Tryz.sizeOf488
 v145:=Tryz.zeroValue488
 t167:=Tryz.underlying461
 a167:=Tryz.isAgg461
 z167:=Tryz.sizeOf461
 v167:=Tryz.zeroValue461
 t168:=Tryz.underlying464
 a168:=Tryz.isAgg464
 z168:=Tryz.sizeOf464
 v168:=Tryz.zeroValue464
 t171:=Tryz.underlying248
 a171:=Tryz.isAgg248
 z171:=Tryz.sizeOf248
 v171:=Tryz.zeroValue248
 t173:=Tryz.underlying251
 a173:=Tryz.isAgg251
 z173:=Tryz.sizeOf251
 v173:=Tryz.zeroValue251
 t175:=Tryz.underlying479
 a175:=Tryz.isAgg479
 z175:=Tryz.sizeOf479
 v175:=Tryz.zeroValue479
 t210:=Tryz.underlying482
 a210:=Tryz.isAgg482
 z210:=Tryz.sizeOf482
 v210:=Tryz.zeroValue482
 t212:=Tryz.underlying313
 a212:=Tryz.isAgg313
 z212:=Tryz.sizeOf313
 v212:=Tryz.zeroValue313
 t213:=Tryz.underlying315
 a213:=Tryz.isAgg315
 z213:=Tryz.sizeOf315
 t232:=Tryz.underlying434
 a232:=Tryz.isAgg434
 z232:=Tryz.sizeOf434
 v232:=Tryz.zeroValue434
 t233:=Tryz.underlying435
 a233:=Tryz.isAgg435
 z233:=Tryz.sizeOf435
 v233:=Tryz.zeroValue435
 g15:=by kernel_rfl
 g16:=by kernel_rfl
 g17:=by kernel_rfl
 g18:=by kernel_rfl
 g19:=by kernel_rfl
 t80:=Tryz.underlying191
 a80:=Tryz.isAgg191
 z80:=Tryz.sizeOf191
 v80:=Tryz.zeroValue191
 i0:=by kernel_rfl
 i2:=by kernel_rfl
 i3:=by kernel_rfl
 i4:=by kernel_rfl
 i5:=by kernel_rfl
 i9:=by kernel_rfl
 i20:=by kernel_rfl
 i21:=by kernel_rfl
 i37:=by kernel_rfl
 i46:=by kernel_rfl
 i51:=by kernel_rfl
 i53:=by kernel_rfl
 i75:=by kernel_rfl
 i76:=by kernel_rfl
 i80:=by kernel_rfl
 i85:=by kernel_rfl
 i127:=by kernel_rfl
 i143:=by kernel_rfl
 i145:=by kernel_rfl
 i167:=by kernel_rfl
 i168:=by kernel_rfl
 i171:=by kernel_rfl
 i173:=by kernel_rfl
 i175:=by kernel_rfl
 i210:=by kernel_rfl
 i212:=by kernel_rfl
 i232:=by kernel_rfl
 i233:=by kernel_rfl
 m15:=by kernel_rfl
 m16:=by kernel_rfl
 m17:=by kernel_rfl
 m18:=by kernel_rfl
 m19:=by kernel_rfl
 c0:=by kernel_rfl
 c2:=by kernel_rfl
 c3:=by kernel_rfl
 c4:=by kernel_rfl
 c5:=by kernel_rfl
 c9:=by kernel_rfl
 c20:=by kernel_rfl
 c21:=by kernel_rfl
 c37:=by kernel_rfl
 c46:=by kernel_rfl
 c51:=by kernel_rfl
 c53:=by kernel_rfl
 c75:=by kernel_rfl
 c76:=by kernel_rfl
 c80:=by kernel_rfl
 c85:=by kernel_rfl
 c127:=by kernel_rfl
 c143:=by kernel_rfl
 c145:=by kernel_rfl
 c167:=by kernel_rfl
 c168:=by kernel_rfl
 c171:=by kernel_rfl
 c173:=by kernel_rfl
 c175:=by kernel_rfl
 c210:=by kernel_rfl
 c212:=by kernel_rfl
 c213:=by kernel_rfl
 c232:=by kernel_rfl
 c233:=by kernel_rfl}
open Go.RowKit in
theorem Tryz.strconv_Atoi_ok (s:ByteArray) (hmax:s.size≤9223372036854775806) (v:Int) (h:Lib.atoiAll s.data.toList=.ok v) (w:World) :
 Calls Tryz.prog 301 #[.string s] w fun e w' => e=.returned (.tuple #[.int .i64 v,.nilIface])∧(w'=w∨∃ t,w'=Lib.bytesWorld w 5 t):=Any.strconv_Atoi_ok Tryz.laysC172 s hmax v h w
open Go.RowKit in
theorem Tryz.strconv_Atoi_syntax (s:ByteArray) (hlim:s.size≤281474976710656) (h:Lib.atoiAll s.data.toList=.syntax) (ev:Value) (w:World) (hv:w.cell? ⟨8,0,none⟩=some ev) (hev:ev=.nilIface∨∃ te pe,ev=.iface te pe) :
 Calls Tryz.prog 301 #[.string s] w fun e w' => ∃ N,e=.returned (.tuple #[.int .i64 (0),.iface 464 (.pointer (some ⟨N,0,none⟩))])∧w.heap.size≤N∧w'.heap[N]? =some (.cells #[.string ⟨#[65,116,111,105]⟩,.string s,ev] 482 (0,0))∧Below w.heap.size w w':=Any.strconv_Atoi_syntax Tryz.laysC172 s hlim h ev w hv hev
open Go.RowKit in
theorem Tryz.strconv_Atoi_range (s:ByteArray) (hlim:s.size≤281474976710656) (h:Lib.atoiAll s.data.toList=.range) (ev:Value) (w:World) (hv:w.cell? ⟨9,0,none⟩=some ev) (hev:ev=.nilIface∨∃ te pe,ev=.iface te pe) :
 Calls Tryz.prog 301 #[.string s] w fun e w' => ∃ N,e=.returned (.tuple #[.int .i64 (Lib.atoiSat s.data.toList),.iface 464 (.pointer (some ⟨N,0,none⟩))])∧w.heap.size≤N∧w'.heap[N]? =some (.cells #[.string ⟨#[65,116,111,105]⟩,.string s,ev] 482 (0,0))∧Below w.heap.size w w':=Any.strconv_Atoi_range Tryz.laysC172 s hlim h ev w hv hev
def Tryz.lays143_ren:Go.Shelf.Ren:=⟨fun | 143 => 108 | 219 => 156 | 217 => 154 | 225 => 226 | 224 => 227 | 267 => 228 | 266 => 225 | 314 => 296 | n => n,fun | 9 => 9 | 3 => 3 | 4 => 4 | 5 => 5 | 46 => 300 | 146 => 375 | 51 => 314 | n => n,fun | 1 => 2 | n => n⟩
theorem Tryz.lays143:Go.Proofs.Lays.n143 Tryz.prog Tryz.lays143_ren:={
 mixed:=by kernel_rfl
 f143:=Tryz.func108.trans (congrArg some (by kernel_rfl))
 f217:=Tryz.func154.trans (congrArg some (by kernel_rfl))
 f219:=Tryz.func156.trans (congrArg some (by kernel_rfl))
 f224:=Tryz.func227.trans (congrArg some (by kernel_rfl))
 f225:=Tryz.func226.trans (congrArg some (by kernel_rfl))
 f266:=Tryz.func225.trans (congrArg some (by kernel_rfl))
 f267:=Tryz.func228.trans (congrArg some (by kernel_rfl))
 f314:=Tryz.func296.trans (congrArg some (by kernel_rfl))
 t3:=Tryz.underlying3
 a3:=Tryz.isAgg3
 z3:=Tryz.sizeOf3
 v3:=Tryz.zeroValue3
 t4:=Tryz.underlying4
 a4:=Tryz.isAgg4
 z4:=Tryz.sizeOf4
 v4:=Tryz.zeroValue4
 t5:=Tryz.underlying5
 a5:=Tryz.isAgg5
 z5:=Tryz.sizeOf5
 v5:=Tryz.zeroValue5
 t9:=Tryz.underlying9
 a9:=Tryz.isAgg9
 z9:=Tryz.sizeOf9
 v9:=Tryz.zeroValue9
 t46:=Tryz.underlying300
 a46:=Tryz.isAgg300
 z46:=Tryz.sizeOf300
 v46:=Tryz.zeroValue300
 t51:=Tryz.underlying314
 a51:=Tryz.isAgg314
 z51:=Tryz.sizeOf314
 v51:=Tryz.zeroValue314
 t146:=Tryz.underlying375
 a146:=Tryz.isAgg375
 z146:=Tryz.sizeOf375
 v146:=Tryz.zeroValue375
 g1:=by kernel_rfl}
open Go.RowKit Go.Lib in
theorem Tryz.strings_Index (s sub:ByteArray) (m:Int) (w:World) (hs:s.size < 4294967281) (hm:w.cell? ⟨2,0,none⟩=some (.int .i64 m)) :
 Calls Tryz.prog 108 #[.string s,.string sub] w fun e w' => e=.returned (.int .i64 (Lib.index s.data.toList sub.data.toList))∧w'=w:=Any.strings_Index Tryz.lays143 s sub m w hs hm
def Tryz.lays144_ren:Go.Shelf.Ren:=⟨fun | 144 => 74 | 143 => 108 | 219 => 156 | 217 => 154 | 225 => 226 | 224 => 227 | 267 => 228 | 266 => 225 | 314 => 296 | n => n,fun | 9 => 9 | 4 => 4 | 3 => 3 | 5 => 5 | 46 => 300 | 146 => 375 | 51 => 314 | n => n,fun | 1 => 2 | n => n⟩
theorem Tryz.lays144:Go.Proofs.Lays.n144 Tryz.prog Tryz.lays144_ren:={
 mixed:=by kernel_rfl
 f143:=Tryz.func108.trans (congrArg some (by kernel_rfl))
 f144:=Tryz.func74.trans (congrArg some (by kernel_rfl))
 f217:=Tryz.func154.trans (congrArg some (by kernel_rfl))
 f219:=Tryz.func156.trans (congrArg some (by kernel_rfl))
 f224:=Tryz.func227.trans (congrArg some (by kernel_rfl))
 f225:=Tryz.func226.trans (congrArg some (by kernel_rfl))
 f266:=Tryz.func225.trans (congrArg some (by kernel_rfl))
 f267:=Tryz.func228.trans (congrArg some (by kernel_rfl))
 f314:=Tryz.func296.trans (congrArg some (by kernel_rfl))
 t3:=Tryz.underlying3
 a3:=Tryz.isAgg3
 z3:=Tryz.sizeOf3
 v3:=Tryz.zeroValue3
 t4:=Tryz.underlying4
 a4:=Tryz.isAgg4
 z4:=Tryz.sizeOf4
 v4:=Tryz.zeroValue4
 t5:=Tryz.underlying5
 a5:=Tryz.isAgg5
 z5:=Tryz.sizeOf5
 v5:=Tryz.zeroValue5
 t9:=Tryz.underlying9
 a9:=Tryz.isAgg9
 z9:=Tryz.sizeOf9
 v9:=Tryz.zeroValue9
 t46:=Tryz.underlying300
 a46:=Tryz.isAgg300
 z46:=Tryz.sizeOf300
 v46:=Tryz.zeroValue300
 t51:=Tryz.underlying314
 a51:=Tryz.isAgg314
 z51:=Tryz.sizeOf314
 v51:=Tryz.zeroValue314
 t146:=Tryz.underlying375
 a146:=Tryz.isAgg375
 z146:=Tryz.sizeOf375
 v146:=Tryz.zeroValue375
 g1:=by kernel_rfl}
open Go.RowKit Go.Lib in
theorem Tryz.strings_Contains_one (s:ByteArray) (c:UInt8) (w:World) :
 Calls Tryz.prog 74 #[.string s,.string ⟨#[c]⟩] w fun e w' => e=.returned (.bool (decide (0≤Lib.indexByte s.data.toList c)))∧w'=w:=Any.strings_Contains_one Tryz.lays144 s c w
open Go.RowKit Go.Lib in
theorem Tryz.strings_Contains (s sub:ByteArray) (m:Int) (w:World) (hs:s.size < 4294967281) (hm:w.cell? ⟨2,0,none⟩=some (.int .i64 m)) :
 Calls Tryz.prog 74 #[.string s,.string sub] w fun e w' => e=.returned (.bool (Lib.contains s.data.toList sub.data.toList))∧w'=w:=Any.strings_Contains Tryz.lays144 s sub m w hs hm
def Tryz.lays99_ren:Go.Shelf.Ren:=⟨fun | 99 => 107 | 206 => 155 | n => n,fun | 9 => 9 | 4 => 4 | 3 => 3 | n => n,fun | n => n⟩
theorem Tryz.lays99:Go.Proofs.Lays.n99 Tryz.prog Tryz.lays99_ren:={
 mixed:=by kernel_rfl
 f99:=Tryz.func107.trans (congrArg some (by kernel_rfl))
 f206:=Tryz.func155.trans (congrArg some (by kernel_rfl))
 t3:=Tryz.underlying3
 a3:=Tryz.isAgg3
 z3:=Tryz.sizeOf3
 v3:=Tryz.zeroValue3
 t4:=Tryz.underlying4
 a4:=Tryz.isAgg4
 z4:=Tryz.sizeOf4
 v4:=Tryz.zeroValue4
 t9:=Tryz.underlying9
 a9:=Tryz.isAgg9
 z9:=Tryz.sizeOf9
 v9:=Tryz.zeroValue9}
open Go.RowKit Go.Lib in
theorem Tryz.strings_HasPrefix (s p:ByteArray) (w:World) :
 Calls Tryz.prog 107 #[.string s,.string p] w fun e w' => e=.returned (.bool (Lib.hasPrefix s.data.toList p.data.toList))∧w'=w:=Any.strings_HasPrefix Tryz.lays99 s p w
end Go.Proofs
