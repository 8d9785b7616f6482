/- Shelf, LBlank, LQuo, LRes, LTrim, joined. -/
import Derived.Shelf.Small.Strs
import Derived.Shelf.Strings.Search1
import Derived.Shelf.Strings.Search2
import Derived.Shelf.Strings.Search3
import Derived.Shelf.LaysM
import Derived.Shelf.Strings.Shaped
import Derived.Shelf.GgClosure.StringsIndexFunc
import Derived.Shelf.GgClosure.StringsTrimFunc
import Derived.Shelf.GgClosure.StringsRunes
import Derived.Shelf.Strings.Prefix
import Derived.Shelf.Strings.Fields
import Derived.Shelf.Strings.SplitShaped
import Derived.Shelf.Unicode.Latin
import Derived.Shelf.Unicode.Is16White
import Derived.Shelf.Unicode.IsSpaceAny
import Derived.Shelf.Unicode.Is16WhiteD
import Derived.Shelf.Unicode.IsSpaceAnyD
import Derived.Shelf.Strings.FieldsAny
import Derived.Shelf.Strings.FieldsFuncAny
import Derived.Shelf.Unicode.Is16Any
import Derived.Shelf.Unicode.Is32Any
import Derived.Shelf.Unicode.ExclAny
import Derived.Shelf.Strings.FuncGrows
import Derived.Shelf.Strings.FieldsFuncGrows
import Derived.Shelf.Slices.Turned
import Derived.Shelf.Slices.Equal
import Derived.Shelf.Slices.Empties2
import Derived.Test.YtpoghableadkcaaGreatDoorProg
import Derived.Test.YtpoghableadkcaaGreatDoorM02
import Derived.Lib.IndexMore
import Derived.Deep.RegionHeld3
import Derived.Lib.IndexAny
import Derived.Lib.TrimUEq
section
/-
 DERIVED: THE SHELF's CONTRACTS AT THIS DUMP, IN PLAIN WORDS (tools/lay-plain.mjs out of 'TryzShelf.lean', which tools/lay-shelf.mjs wrote): THE SAME DECLARATIONS UNDER THE SAME NAMES: 'import', 'namespace','open','def','theorem' AND NOTHING ELSE: no command of the shelf's: FOR A HAND-IN. Each laying: the table of numbers ('.._ren') and one theorem,a field a fact of the dump's own or the kernel's comparison;each contract: ONE APPLICATION.
-/
namespace Go.Proofs
open Go.Shelf
def Tryz.lays137_ren:Go.Shelf.Ren:=⟨fun | 137=>156 | 217=>166 | 266=>180 | n=>n,fun | 9=>9 | 5=>5 | 3=>3 | n=>n,fun | n=>n⟩
theorem Tryz.lays137:Go.Proofs.Lays.n137 Tryz.prog Tryz.lays137_ren:={
 mixed:=by kernel_rfl
 f137:=Tryz.func156.trans (congrArg some (by kernel_rfl))
 f217:=Tryz.func166.trans (congrArg some (by kernel_rfl))
 f266:=Tryz.func180.trans (congrArg some (by kernel_rfl))
 t3:=Tryz.underlying3
 a3:=Tryz.isAgg3
 z3:=Tryz.sizeOf3
 v3:=Tryz.zeroValue3
 t5:=Tryz.underlying5
 a5:=Tryz.isAgg5
 z5:=Tryz.sizeOf5
 v5:=Tryz.zeroValue5
 t9:=Tryz.underlying9
 a9:=Tryz.isAgg9
 z9:=Tryz.sizeOf9
 v9:=Tryz.zeroValue9 }
open Go.RowKit in
theorem Tryz.strings_IndexByte (s:ByteArray) (c:Int) (w:World):
  Calls Tryz.prog 156 #[.string s,.int .u8 c] w fun e w'=>e=.returned (.int .i64 (Lib.indexByte s.data.toList c.toNat.toUInt8))∧w'=w:=Any.strings_IndexByte Tryz.lays137 s c w
def Tryz.lays143_ren:Go.Shelf.Ren:=⟨fun | 143=>129 | 219=>153 | 217=>166 | 225=>167 | 224=>168 | 267=>169 | 266=>180 | 314=>181 | n=>n,fun | 9=>9 | 3=>3 | 4=>4 | 5=>5 | 46=>174 | 146=>185 | 51=>178 | n=>n,fun | 1=>1 | n=>n⟩
theorem Tryz.lays143:Go.Proofs.Lays.n143 Tryz.prog Tryz.lays143_ren:={
 mixed:=by kernel_rfl
 f143:=Tryz.func129.trans (congrArg some (by kernel_rfl))
 f217:=Tryz.func166.trans (congrArg some (by kernel_rfl))
 f219:=Tryz.func153.trans (congrArg some (by kernel_rfl))
 f224:=Tryz.func168.trans (congrArg some (by kernel_rfl))
 f225:=Tryz.func167.trans (congrArg some (by kernel_rfl))
 f266:=Tryz.func180.trans (congrArg some (by kernel_rfl))
 f267:=Tryz.func169.trans (congrArg some (by kernel_rfl))
 f314:=Tryz.func181.trans (congrArg some (by kernel_rfl))
 t3:=Tryz.underlying3
 a3:=Tryz.isAgg3
 z3:=Tryz.sizeOf3
 v3:=Tryz.zeroValue3
 t4:=Tryz.underlying4
 a4:=Tryz.isAgg4
 z4:=Tryz.sizeOf4
 v4:=Tryz.zeroValue4
 t5:=Tryz.underlying5
 a5:=Tryz.isAgg5
 z5:=Tryz.sizeOf5
 v5:=Tryz.zeroValue5
 t9:=Tryz.underlying9
 a9:=Tryz.isAgg9
 z9:=Tryz.sizeOf9
 v9:=Tryz.zeroValue9
 t46:=Tryz.underlying174
 a46:=Tryz.isAgg174
 z46:=Tryz.sizeOf174
 v46:=Tryz.zeroValue174
 t51:=Tryz.underlying178
 a51:=Tryz.isAgg178
 z51:=Tryz.sizeOf178
 v51:=Tryz.zeroValue178
 t146:=Tryz.underlying185
 a146:=Tryz.isAgg185
 z146:=Tryz.sizeOf185
 v146:=Tryz.zeroValue185
 g1:=by kernel_rfl }
open Go.RowKit Go.Lib in
theorem Tryz.strings_Index (s sub:ByteArray) (m:Int) (w:World) (hs:s.size < 4294967281) (hm:w.cell? ⟨1,0,none⟩=some (.int .i64 m)):
  Calls Tryz.prog 129 #[.string s,.string sub] w fun e w'=>e=.returned (.int .i64 (Lib.index s.data.toList sub.data.toList))∧w'=w:=Any.strings_Index Tryz.lays143 s sub m w hs hm
def Tryz.lays144_ren:Go.Shelf.Ren:=⟨fun | 144=>155 | 143=>129 | 219=>153 | 217=>166 | 225=>167 | 224=>168 | 267=>169 | 266=>180 | 314=>181 | n=>n,fun | 9=>9 | 4=>4 | 3=>3 | 5=>5 | 46=>174 | 146=>185 | 51=>178 | n=>n,fun | 1=>1 | n=>n⟩
theorem Tryz.lays144:Go.Proofs.Lays.n144 Tryz.prog Tryz.lays144_ren:={
 mixed:=by kernel_rfl
 f143:=Tryz.func129.trans (congrArg some (by kernel_rfl))
 f144:=Tryz.func155.trans (congrArg some (by kernel_rfl))
 f217:=Tryz.func166.trans (congrArg some (by kernel_rfl))
 f219:=Tryz.func153.trans (congrArg some (by kernel_rfl))
 f224:=Tryz.func168.trans (congrArg some (by kernel_rfl))
 f225:=Tryz.func167.trans (congrArg some (by kernel_rfl))
 f266:=Tryz.func180.trans (congrArg some (by kernel_rfl))
 f267:=Tryz.func169.trans (congrArg some (by kernel_rfl))
 f314:=Tryz.func181.trans (congrArg some (by kernel_rfl))
 t3:=Tryz.underlying3
 a3:=Tryz.isAgg3
 z3:=Tryz.sizeOf3
 v3:=Tryz.zeroValue3
 t4:=Tryz.underlying4
 a4:=Tryz.isAgg4
 z4:=Tryz.sizeOf4
 v4:=Tryz.zeroValue4
 t5:=Tryz.underlying5
 a5:=Tryz.isAgg5
 z5:=Tryz.sizeOf5
 v5:=Tryz.zeroValue5
 t9:=Tryz.underlying9
 a9:=Tryz.isAgg9
 z9:=Tryz.sizeOf9
 v9:=Tryz.zeroValue9
 t46:=Tryz.underlying174
 a46:=Tryz.isAgg174
 z46:=Tryz.sizeOf174
 v46:=Tryz.zeroValue174
 t51:=Tryz.underlying178
 a51:=Tryz.isAgg178
 z51:=Tryz.sizeOf178
 v51:=Tryz.zeroValue178
 t146:=Tryz.underlying185
 a146:=Tryz.isAgg185
 z146:=Tryz.sizeOf185
 v146:=Tryz.zeroValue185
 g1:=by kernel_rfl }
open Go.RowKit Go.Lib in
theorem Tryz.strings_Contains_one (s:ByteArray) (c:UInt8) (w:World):
  Calls Tryz.prog 155 #[.string s,.string ⟨#[c]⟩] w fun e w'=>e=.returned (.bool (decide (0 ≤ Lib.indexByte s.data.toList c)))∧w'=w:=Any.strings_Contains_one Tryz.lays144 s c w
open Go.RowKit Go.Lib in
theorem Tryz.strings_Contains (s sub:ByteArray) (m:Int) (w:World) (hs:s.size < 4294967281) (hm:w.cell? ⟨1,0,none⟩=some (.int .i64 m)):
  Calls Tryz.prog 155 #[.string s,.string sub] w fun e w'=>e=.returned (.bool (Lib.contains s.data.toList sub.data.toList))∧w'=w:=Any.strings_Contains Tryz.lays144 s sub m w hs hm
def Tryz.laysM143_ren:Go.Shelf.Ren:=⟨fun | 143=>129 | 219=>153 | 217=>166 | 225=>167 | 224=>168 | 267=>169 | 266=>180 | 314=>181 | n=>n,fun | 9=>9 | 3=>3 | 4=>4 | 5=>5 | 46=>174 | 146=>185 | 51=>178 | n=>n,fun | 1=>1 | n=>n⟩
theorem Tryz.laysM143:Go.Proofs.LaysM.n143 Tryz.prog Tryz.laysM143_ren:={
 mixed:=by kernel_rfl
 f143:=Tryz.func129.trans (congrArg some (by kernel_rfl))
 f217:=Tryz.func166.trans (congrArg some (by kernel_rfl))
 f219:=Tryz.func153.trans (congrArg some (by kernel_rfl))
 f224:=Tryz.func168.trans (congrArg some (by kernel_rfl))
 f225:=Tryz.func167.trans (congrArg some (by kernel_rfl))
 f266:=Tryz.func180.trans (congrArg some (by kernel_rfl))
 f267:=Tryz.func169.trans (congrArg some (by kernel_rfl))
 f314:=Tryz.func181.trans (congrArg some (by kernel_rfl))
 t3:=Tryz.underlying3
 a3:=Tryz.isAgg3
 z3:=Tryz.sizeOf3
 v3:=Tryz.zeroValue3
 t4:=Tryz.underlying4
 a4:=Tryz.isAgg4
 z4:=Tryz.sizeOf4
 v4:=Tryz.zeroValue4
 t5:=Tryz.underlying5
 a5:=Tryz.isAgg5
 z5:=Tryz.sizeOf5
 v5:=Tryz.zeroValue5
 t9:=Tryz.underlying9
 a9:=Tryz.isAgg9
 z9:=Tryz.sizeOf9
 v9:=Tryz.zeroValue9
 t46:=Tryz.underlying174
 a46:=Tryz.isAgg174
 z46:=Tryz.sizeOf174
 v46:=Tryz.zeroValue174
 t51:=Tryz.underlying178
 a51:=Tryz.isAgg178
 z51:=Tryz.sizeOf178
 v51:=Tryz.zeroValue178
 t146:=Tryz.underlying185
 a146:=Tryz.isAgg185
 z146:=Tryz.sizeOf185
 v146:=Tryz.zeroValue185
 g1:=by kernel_rfl
 i3:=by kernel_rfl
 i4:=by kernel_rfl
 i5:=by kernel_rfl
 i9:=by kernel_rfl
 i46:=by kernel_rfl
 i51:=by kernel_rfl
 i146:=by kernel_rfl
 m1:=by kernel_rfl
 s1_3:=fun w h=>Go.Proofs.cell_of_shapedOpen_int (zero:=#[.int .i64 0]) (t:=3) h (of_decide_eq_true (by kernel_rfl)) (by kernel_rfl) rfl (by kernel_rfl) (by kernel_rfl) Tryz.underlying3 }
def Tryz.lays272_ren:Go.Shelf.Ren:=⟨fun | 272=>132 | 315=>154 | n=>n,fun | 9=>9 | 40=>159 | 4=>4 | 3=>3 | 0=>0 | 21=>21 | n=>n,fun | n=>n⟩
theorem Tryz.lays272:Go.Proofs.Lays.n272 Tryz.prog Tryz.lays272_ren:={
 mixed:=by kernel_rfl
 f272:=Tryz.func132.trans (congrArg some (by kernel_rfl))
 f315:=Tryz.func154.trans (congrArg some (by kernel_rfl))
 t0:=Tryz.underlying0
 a0:=Tryz.isAgg0
 z0:=Tryz.sizeOf0
 v0:=Tryz.zeroValue0
 t3:=Tryz.underlying3
 a3:=Tryz.isAgg3
 z3:=Tryz.sizeOf3
 v3:=Tryz.zeroValue3
 t4:=Tryz.underlying4
 a4:=Tryz.isAgg4
 z4:=Tryz.sizeOf4
 v4:=Tryz.zeroValue4
 t9:=Tryz.underlying9
 a9:=Tryz.isAgg9
 z9:=Tryz.sizeOf9
 v9:=Tryz.zeroValue9
 t21:=Tryz.underlying21
 a21:=Tryz.isAgg21
 z21:=Tryz.sizeOf21
 v21:=Tryz.zeroValue21
 t40:=Tryz.underlying159
 a40:=Tryz.isAgg159
 z40:=Tryz.sizeOf159
 v40:=Tryz.zeroValue159 }
def Tryz.lays99_ren:Go.Shelf.Ren:=⟨fun | 99=>128 | 206=>152 | n=>n,fun | 9=>9 | 4=>4 | 3=>3 | n=>n,fun | n=>n⟩
theorem Tryz.lays99:Go.Proofs.Lays.n99 Tryz.prog Tryz.lays99_ren:={
 mixed:=by kernel_rfl
 f99:=Tryz.func128.trans (congrArg some (by kernel_rfl))
 f206:=Tryz.func152.trans (congrArg some (by kernel_rfl))
 t3:=Tryz.underlying3
 a3:=Tryz.isAgg3
 z3:=Tryz.sizeOf3
 v3:=Tryz.zeroValue3
 t4:=Tryz.underlying4
 a4:=Tryz.isAgg4
 z4:=Tryz.sizeOf4
 v4:=Tryz.zeroValue4
 t9:=Tryz.underlying9
 a9:=Tryz.isAgg9
 z9:=Tryz.sizeOf9
 v9:=Tryz.zeroValue9 }
open Go.RowKit Go.Lib in
theorem Tryz.strings_HasPrefix (s p:ByteArray) (w:World):
  Calls Tryz.prog 128 #[.string s,.string p] w fun e w'=>e=.returned (.bool (Lib.hasPrefix s.data.toList p.data.toList))∧w'=w:=Any.strings_HasPrefix Tryz.lays99 s p w
def Tryz.lays157_ren:Go.Shelf.Ren:=⟨fun | 157=>137 | 229=>157 | 199=>158 | 261=>170 | 311=>182 | 312=>183 | n=>n,fun | 9=>9 | 31=>34 | 3=>3 | 5=>5 | 4=>4 | 119=>170 | 0=>0 | 40=>159 | 152=>175 | 21=>21 | 154=>177 | 51=>178 | 141=>180 | 196=>190 | 193=>187 | 198=>193 | 49=>191 | 194=>188 | 201=>196 | 226=>199 | 46=>174 | 227=>200 | n=>n,fun | 0=>0 | 6=>2 | n=>n⟩
theorem Tryz.lays157:Go.Proofs.Lays.n157 Tryz.prog Tryz.lays157_ren:={
 mixed:=by kernel_rfl
 f157:=Tryz.func137.trans (congrArg some (by kernel_rfl))
 f199:=Tryz.func158.trans (congrArg some (by kernel_rfl))
 f229:=Tryz.func157.trans (congrArg some (by kernel_rfl))
 f261:=Tryz.func170.trans (congrArg some (by kernel_rfl))
 f311:=Tryz.func182.trans (congrArg some (by kernel_rfl))
 f312:=Tryz.func183.trans (congrArg some (by kernel_rfl))
 t0:=Tryz.underlying0
 a0:=Tryz.isAgg0
 z0:=Tryz.sizeOf0
 v0:=Tryz.zeroValue0
 t3:=Tryz.underlying3
 a3:=Tryz.isAgg3
 z3:=Tryz.sizeOf3
 v3:=Tryz.zeroValue3
 t4:=Tryz.underlying4
 a4:=Tryz.isAgg4
 z4:=Tryz.sizeOf4
 v4:=Tryz.zeroValue4
 t5:=Tryz.underlying5
 a5:=Tryz.isAgg5
 z5:=Tryz.sizeOf5
 v5:=Tryz.zeroValue5
 t9:=Tryz.underlying9
 a9:=Tryz.isAgg9
 z9:=Tryz.sizeOf9
 v9:=Tryz.zeroValue9
 t21:=Tryz.underlying21
 a21:=Tryz.isAgg21
 z21:=Tryz.sizeOf21
 v21:=Tryz.zeroValue21
 t31:=Tryz.underlying34
 a31:=Tryz.isAgg34
 z31:=Tryz.sizeOf34
 v31:=Tryz.zeroValue34
 t40:=Tryz.underlying159
 a40:=Tryz.isAgg159
 z40:=Tryz.sizeOf159
 v40:=Tryz.zeroValue159
 t46:=Tryz.underlying174
 a46:=Tryz.isAgg174
 z46:=Tryz.sizeOf174
 v46:=Tryz.zeroValue174
 t49:=Tryz.underlying191
 a49:=Tryz.isAgg191
 z49:=Tryz.sizeOf191
 v49:=Tryz.zeroValue191
 t51:=Tryz.underlying178
 a51:=Tryz.isAgg178
 z51:=Tryz.sizeOf178
 v51:=Tryz.zeroValue178
 t119:=Tryz.underlying170
 a119:=Tryz.isAgg170
 z119:=Tryz.sizeOf170
 t141:=Tryz.underlying180
 a141:=Tryz.isAgg180
 z141:=Tryz.sizeOf180
 v141:=Tryz.zeroValue180
 t152:=Tryz.underlying175
 a152:=Tryz.isAgg175
 z152:=Tryz.sizeOf175
 v152:=Tryz.zeroValue175
 t154:=Tryz.underlying177
 a154:=Tryz.isAgg177
 z154:=Tryz.sizeOf177
 v154:=Tryz.zeroValue177
 t193:=Tryz.underlying187
 a193:=Tryz.isAgg187
 z193:=Tryz.sizeOf187
 v193:=Tryz.zeroValue187
 t194:=Tryz.underlying188
 a194:=Tryz.isAgg188
 z194:=Tryz.sizeOf188
 v194:=Tryz.zeroValue188
 t196:=Tryz.underlying190
 a196:=Tryz.isAgg190
 z196:=Tryz.sizeOf190
 v196:=Tryz.zeroValue190
 t198:=Tryz.underlying193
 a198:=Tryz.isAgg193
 z198:=Tryz.sizeOf193
 v198:=Tryz.zeroValue193
 t201:=Tryz.underlying196
 a201:=Tryz.isAgg196
 z201:=Tryz.sizeOf196
 v201:=Tryz.zeroValue196
 t226:=Tryz.underlying199
 a226:=Tryz.isAgg199
 z226:=Tryz.sizeOf199
 v226:=Tryz.zeroValue199
 t227:=Tryz.underlying200
 a227:=Tryz.isAgg200
 z227:=Tryz.sizeOf200
 v227:=Tryz.zeroValue200
 g0:=by kernel_rfl
 g6:=by kernel_rfl }
open Go.RowKit Go.Lib in
theorem Tryz.strings_Fields (s:ByteArray) (w:World) (hs:s.size < 4294967281) (hascii:∀ (j:Nat) b,s.data.toList[j]?=some b→b.toNat < 128) (htab:Lib.TabIs Tryz.prog w "strings.asciiSpace" .u8 Lib.asciiSpaceTab):
  Calls Tryz.prog 137 #[.string s] w fun e w'=>
   e=.returned (.slice (some ⟨w.heap.size,0,none⟩) (Lib.fields s.data.toList).length (Lib.fields s.data.toList).length)∧w'=w.alloc (.cells ((Lib.fields s.data.toList).map fun l=>Value.string ⟨l.toArray⟩).toArray 9):=Any.strings_Fields Tryz.lays157 (by kernel_rfl) (by kernel_rfl) s w hs hascii htab
open Go.RowKit Go.Lib in
theorem Tryz.strings_TrimLeftFunc_grows (g:Nat) (lb:Array Value) (eg:∀ args w,(callFunc g args).run Tryz.prog w=.ok (.enter g args) w) (p:Nat→Bool) (s:ByteArray) (w:World) (hp:PredGrows Tryz.prog g lb p w):
  Calls Tryz.prog 132 #[.string s,.func (.func g) #[] lb] w fun e w'=>e=.returned (.string (Lib.trimLeftF p s))∧Below w.heap.size w w':=Any.strings_TrimLeftFunc_grows Tryz.lays272 g lb eg p s w hp
def Tryz.lays109_ren:Go.Shelf.Ren:=⟨fun | 109=>138 | n=>n,fun | 31=>34 | 9=>9 | 3=>3 | 0=>0 | 4=>4 | n=>n,fun | n=>n⟩
theorem Tryz.lays109:Go.Proofs.Lays.n109 Tryz.prog Tryz.lays109_ren:={
 mixed:=by kernel_rfl
 f109:=Tryz.func138.trans (congrArg some (by kernel_rfl))
 t0:=Tryz.underlying0
 a0:=Tryz.isAgg0
 z0:=Tryz.sizeOf0
 v0:=Tryz.zeroValue0
 t3:=Tryz.underlying3
 a3:=Tryz.isAgg3
 z3:=Tryz.sizeOf3
 v3:=Tryz.zeroValue3
 t4:=Tryz.underlying4
 a4:=Tryz.isAgg4
 z4:=Tryz.sizeOf4
 v4:=Tryz.zeroValue4
 t9:=Tryz.underlying9
 a9:=Tryz.isAgg9
 z9:=Tryz.sizeOf9
 v9:=Tryz.zeroValue9
 t31:=Tryz.underlying34
 a31:=Tryz.isAgg34
 z31:=Tryz.sizeOf34
 v31:=Tryz.zeroValue34 }
open Go.Lib in
theorem Tryz.slices_Index_string (b off n c:Nat) (zs:List ByteArray) (x:ByteArray) (w:World) (hz:n ≤ zs.length) (hbig:n ≤ 9223372036854775807) (hc:∀ j,j < zs.length→w.cell? ⟨b,off + j,none⟩=some (.string (zs.getD j ByteArray.empty))):
  Calls Tryz.prog 138 #[.slice (some ⟨b,off,none⟩) n c,.string x] w fun e w'=>e=.returned (.int .i64 (Lib.idxOfS (zs.take n) x))∧w'=w:=Any.slices_Index_string Tryz.lays109 b off n c zs x w hz hbig hc
def Tryz.lays110_ren:Go.Shelf.Ren:=⟨fun | 110=>102 | 109=>138 | n=>n,fun | 31=>34 | 9=>9 | 4=>4 | 3=>3 | 0=>0 | n=>n,fun | n=>n⟩
theorem Tryz.lays110:Go.Proofs.Lays.n110 Tryz.prog Tryz.lays110_ren:={
 mixed:=by kernel_rfl
 f109:=Tryz.func138.trans (congrArg some (by kernel_rfl))
 f110:=Tryz.func102.trans (congrArg some (by kernel_rfl))
 t0:=Tryz.underlying0
 a0:=Tryz.isAgg0
 z0:=Tryz.sizeOf0
 v0:=Tryz.zeroValue0
 t3:=Tryz.underlying3
 a3:=Tryz.isAgg3
 z3:=Tryz.sizeOf3
 v3:=Tryz.zeroValue3
 t4:=Tryz.underlying4
 a4:=Tryz.isAgg4
 z4:=Tryz.sizeOf4
 v4:=Tryz.zeroValue4
 t9:=Tryz.underlying9
 a9:=Tryz.isAgg9
 z9:=Tryz.sizeOf9
 v9:=Tryz.zeroValue9
 t31:=Tryz.underlying34
 a31:=Tryz.isAgg34
 z31:=Tryz.sizeOf34
 v31:=Tryz.zeroValue34 }
open Go.Lib in
theorem Tryz.slices_Contains_string (b off n c:Nat) (zs:List ByteArray) (x:ByteArray) (w:World) (hz:n ≤ zs.length) (hbig:n ≤ 9223372036854775807) (hc:∀ j,j < zs.length→w.cell? ⟨b,off + j,none⟩=some (.string (zs.getD j ByteArray.empty))):
  Calls Tryz.prog 102 #[.slice (some ⟨b,off,none⟩) n c,.string x] w fun e w'=>e=.returned (.bool (Lib.containsS (zs.take n) x))∧w'=w:=Any.slices_Contains_string Tryz.lays110 b off n c zs x w hz hbig hc
end Go.Proofs
end
section
/- The walk of (*lex.scanner).blanks. -/
namespace Go.Proofs.YtpoghableadkcaaGreatDoor
open Go.RowKit

/-- Within a remark: to its end,as strings.Index tells it. -/
theorem blank_index:∀ (l:Bs) (i:Nat),blank true i l=if Lib.index l [42,47] < 0 then .bad 21 (i + l.length) else blank false (i + (Lib.index l [42,47]).toNat + 2) (l.drop ((Lib.index l [42,47]).toNat + 2))
 | [],i=>by simp [blank,Lib.index]
 | [c],i=>by
  have h:Lib.index [c] [42,47]=-1:=by simp [Lib.index,List.isPrefixOf]
  rw [h];simp [blank]
 | c :: d :: r,i=>by
  rw [blank,if_pos rfl,Lib.index]
  by_cases h:(c == 42 && d == 47)=true
  ·have hp:List.isPrefixOf [42,47] (c :: d :: r)=true:=by simp at h;simp [List.isPrefixOf,h]
   rw [if_pos h,if_pos hp]
   simp
  ·have hp:¬ List.isPrefixOf [42,47] (c :: d :: r)=true:=by
    simp at h;simp [List.isPrefixOf];intro a b;exact h a.symm b.symm
   rw [if_neg h,if_neg hp,blank_index (d :: r) (i + 1)]
   have hg:=Lib.index_ge (d :: r) [42,47]
   by_cases hn:Lib.index (d :: r) [42,47]=-1
   ·rw [hn];simp;omega
   ·have hf:(Lib.index (d :: r) [42,47] == -1)=false:=by simpa using hn
    rw [if_neg (show ¬ Lib.index (d :: r) [42,47] < 0 by omega),hf]
    simp only [Bool.false_eq_true,if_false]
    rw [if_neg (show ¬ Lib.index (d :: r) [42,47] + 1 < 0 by omega)]
    have e:(Lib.index (d :: r) [42,47] + 1).toNat=(Lib.index (d :: r) [42,47]).toNat + 1:=by omega
    rw [e]
    congr 1
    omega

def BlanksPost (X:Nat) (s:ByteArray) (R:Res Nat) (w:World) (e:Ending) (w':World):Prop:=
 Fr (fun k=>k=X) w w'∧match R with
 | .ok k=>e=.returned (mish 0 0)∧Holds w' X 134 [.string s,.int .i64 k]
 | .bad c a=>e=.returned (mish c a)

theorem quiet_same {P:Program} {f:FuncId} {args:Array Value} {w:World} {n:Nat} {v:Value} (h:Calls P f args (w.drewN n) fun e w'=>e=.returned v∧w'=w.drewN n):Calls P f args (w.drewN n) fun e w''=>e=.returned v∧∃ n,w''=w.drewN n:=
 h.mono fun _ _ ⟨he,hm⟩=>⟨he,n,hm⟩
theorem quiet_sum {P:Program} {f:FuncId} {args:Array Value} {w:World} {K n:Nat} {v:Value} (h:Calls P f args (w.drewN (K + n)) fun e w'=>e=.returned v∧w'=w.drewN (K + n)):Calls P f args (w.drewN (K + n)) fun e w''=>e=.returned v∧∃ n,w''=w.drewN (K + n):=
 h.mono fun _ _ ⟨he,hm⟩=>⟨he,n,hm⟩
theorem Holds.drewN {w:World} {g:Nat} {t:TypeId} {cs:List Value} (h:Holds w g t cs) (n:Nat):Holds (w.drewN n) g t cs:=h
theorem Holds.to {w:World} {g:Nat} {t:TypeId} {cs cs':List Value} (h:Holds w g t cs) (e:cs=cs'):Holds w g t cs':=e ▸ h
theorem Holds.same {w w':World} {k:Nat} (e:w'.heap[k]?=w.heap[k]?) (o:Nat):w'.cell? ⟨k,o,none⟩=w.cell? ⟨k,o,none⟩:=by simp [World.cell?,e]

theorem out15 {w:World} {tmps:Array Value} {g:Nat} {a b:Value} (hH:Holds w g 26 [a,b]) (h2:tmps[2]?.getD undef=.pointer (some ⟨g,0,none⟩)):
  (results Tryz.f100 tmps).run Tryz.prog w=.ok (.agg #[a,b]) w:=by
 have c0:=hH.cell 0
 have c1:=hH.cell 1
 simp at c0 c1
 simp [results,Tryz.results100,h2,go_sem,c0,c1]

theorem blanks_next {s:ByteArray} {X g:Nat} {R:Res Nat} {w wr W:World} {j:Nat} (j':Nat) (hS:Holds wr X 134 [.string s,.int .i64 j]) (h:j < j') (h':j' ≤ s.size)
  (hR:Hid (R=blank false j' (rest s j'))) (hH:Holds W g 26 [.int .i64 0,.int .i64 0]) (hS':Holds W X 134 [.string s,.int .i64 j']) (hF:Fr (fun k=>k=X) w W):
  (∃ k:Nat,k ≤ s.size∧Hid (R=blank false k (rest s k))∧Holds W g 26 [.int .i64 0,.int .i64 0]∧Holds W X 134 [.string s,.int .i64 k]∧Fr (fun k=>k=X) w W) ∧
   ((s.size:Int) + 10 - intOf ((W.cell? ⟨X,1,none⟩).getD undef)).toNat < ((s.size:Int) + 10 - intOf ((wr.cell? ⟨X,1,none⟩).getD undef)).toNat:=by
 refine ⟨⟨j',h',hR,hH,hS',hF⟩,?_⟩
 rw [hS'.cell 1,hS.cell 1]
 simp [intOf]
 omega

theorem rest_bytes (s:ByteArray) (i:Nat):(s.extract i s.size).data.toList=rest s i:=by
 rw [piece]
 show (rest s i).take (s.size - i)=rest s i
 rw [List.take_of_length_le (by rw [rest_len];exact Nat.le_refl _)]

theorem pre_two {s:ByteArray} {i:Nat} (hi:i < s.size) (a b:UInt8):Lib.hasPrefix (s.extract i s.size).data.toList [a,b]=(if h:i + 1 < s.size then (s[i] == a && s[i + 1] == b) else false):=by
 rw [rest_bytes,rest_cons hi]
 unfold Lib.hasPrefix
 by_cases h:i + 1 < s.size
 ·rw [rest_cons h,dif_pos h];simp [List.isPrefixOf,BEq.comm]
 ·rw [rest_end (i:=i + 1) (by omega),dif_neg h];simp [List.isPrefixOf]

set_option maxHeartbeats 4000000 in
set_option maxRecDepth 100000 in
theorem lexBlanks (s:ByteArray) (i X:Nat) (m:Int) (hi:i ≤ s.size) (hs:s.size ≤ 65536) (w:World) (hX:1 < X) (hS:Holds w X 134 [.string s,.int .i64 i]) (hm:w.cell? ⟨1,0,none⟩=some (.int .i64 m)) (h1:1 < w.heap.size):
  Calls Tryz.prog 100 #[.pointer (some ⟨X,0,none⟩)] w (BlanksPost X s (blank false i (rest s i)) w):=by
 obtain ⟨R,hR⟩:∃ R,R=blank false i (rest s i):=⟨_,rfl⟩
 rw [← hR]
 have HR:=Lib.hid hR
 clear hR
 have hXl:=hS.lt
 go_enter Tryz.func100,Tryz.ntmps100
 go_wp2
 go_loopw [3] (fun _ wr=>∃ j:Nat,j ≤ s.size∧Hid (R=blank false j (rest s j))∧Holds wr w.heap.size 26 [.int .i64 0,.int .i64 0]∧Holds wr X 134 [.string s,.int .i64 j]∧Fr (fun k=>k=X) w wr) (fun _ wr=>(s.size + 10 - intOf ((wr.cell? ⟨X,1,none⟩).getD undef)).toNat)
 case atStart=>exact ⟨i,hi,HR,Holds.new w _ _,hS.alloc _,(Fr.refl _ _).alloc _⟩
 case round=>
  obtain ⟨j,hj,HJ,hH,hS',hF⟩:=hrel
  have c0:=hH.cell 0
  have c1:=hH.cell 1
  have f0:=hH.free 0
  have f1:=hH.free 1
  have x0:=hS'.cell 0
  have x1:=hS'.cell 1
  have y1:=hS'.free 1
  simp at c0 c1 x0 x1
  have hX1:¬ (1:Nat)=X:=by omega
  have z1:wr.cell? ⟨1,0,none⟩=some (.int .i64 m):=(Holds.same (hF.block 1 h1 hX1) 0).trans hm
  by_cases hl:j < s.size
  ·go_wp2
   go_quiet (fail)
   go_wp2
   go_quiet (fail)
   go_wp2
   go_quiet ((go_at_call 128;exact quiet_sum (Tryz.strings_HasPrefix _ _ _)))
   rw [pre_two hl]
   by_cases ho:∃ h:j + 1 < s.size,s[j]=47∧s[j + 1]=42
   ·obtain ⟨h1',h2,h3⟩:=ho
    rw [dif_pos h1',h2,h3]
    go_wp2
    go_quiet ((go_at_call 129;exact quiet_sum (Tryz.strings_Index _ _ m _ (by rw [ByteArray.size_extract];omega) z1)))
    rw [rest_bytes]
    have hb:=HJ.out
    rw [blank_open h1' (by simp [h2]) (by simp [h3]),blank_index] at hb
    have hg:=Lib.index_ge (rest s (j + 2)) [42,47]
    have hq:=Lib.index_room (rest s (j + 2)) [42,47]
    change _→_ + 2 ≤ ((rest s (j + 2)).length:Int) at hq
    rw [rest_len] at hq hb
    generalize hN:Lib.index (rest s (j + 2)) [42,47]=N at hb hg hq ⊢
    by_cases hn:N < 0
    ·rw [if_pos hn,show j + 2 + (s.size - (j + 2))=s.size by omega] at hb
     have hb':=Lib.hid hb
     clear hb
     go_wp2
     refine bodyPost_ret (out15 (((hH.drewN _).put 0 _).put 1 _) rfl) rfl ⟨?_,?_⟩
     ·exact ((hF.drewN _).setCell (fun h=>absurd h (by show ¬ w.heap.size < _;omega)) _).setCell (fun h=>absurd h (by show ¬ w.heap.size < _;omega)) _
     ·rw [hb'.out];rfl
    ·rw [if_neg hn,rest_drop] at hb
     obtain ⟨k,rfl⟩:∃ k:Nat,N=(k:Int):=⟨N.toNat,by omega⟩
     have hb':=Lib.hid hb
     clear hb
     have hq':=hq (by omega)
     go_wp2
     exact blanks_next (j + (k + 4)) hS' (by omega) (by omega) (show _=_ by rw [hb'.out,show j + 2 + ((k:Int).toNat + 2)=j + (k + 4) by omega,show j + 2 + (k:Int).toNat + 2=j + (k + 4) by omega])
      ((hH.drewN _).far (by show ¬ w.heap.size=X;omega) _) (((hS'.drewN _).put 1 _).to (by simp)) ((hF.drewN _).setCell (fun _=>rfl) _)
   ·have hp:(if h:j + 1 < s.size then (s[j] == 47 && s[j + 1] == 42) else false)=false:=by
     split
     ·rename_i hh
      cases h4:(s[j] == 47 && s[j + 1] == 42)
      ·rfl
      ·rw [Bool.and_eq_true] at h4
       exact absurd ⟨hh,eq_of_beq h4.1,eq_of_beq h4.2⟩ ho
     ·rfl
    rw [hp]
    have hO:=Lib.hid ho
    by_cases hb:isBl s[j]=true
    ·have HS:=Lib.hid (blank_bl hl hb)
     have hb':=hb
     clear hb ho hp
     unfold isBl at hb'
     rw [← u8i _ 32,← u8i _ 9,← u8i _ 10,← u8i _ 13] at hb'
     go_wp2
     all_goals first
      | exact blanks_next (j + 1) hS' (by omega) (by omega) (show _=_ by rw [HJ.out];exact HS.out) ((hH.drewN _).far (by show ¬ w.heap.size=X;omega) _) (((hS'.drewN _).put 1 _).to (by simp)) ((hF.drewN _).setCell (fun _=>rfl) _)
      | (simp_all;done)
    ·have hb':=eq_false_of_ne_true hb
     have HS:=Lib.hid (blank_stop hl hb' ho)
     unfold isBl at hb'
     rw [← u8i _ 32,← u8i _ 9,← u8i _ 10,← u8i _ 13] at hb'
     simp only [Bool.or_eq_false_iff] at hb'
     obtain ⟨⟨⟨g1,g2⟩,g3⟩,g4⟩:=hb'
     change ((s[j].toNat:Int) == 32)=false at g1
     change ((s[j].toNat:Int) == 9)=false at g2
     change ((s[j].toNat:Int) == 10)=false at g3
     change ((s[j].toNat:Int) == 13)=false at g4
     clear hb ho hp
     go_wp2
     refine bodyPost_ret (out15 (((hH.drewN _).put 0 _).put 1 _) rfl) rfl ⟨?_,?_⟩
     ·exact ((hF.drewN _).setCell (fun h=>absurd h (by show ¬ w.heap.size < _;omega)) _).setCell (fun h=>absurd h (by show ¬ w.heap.size < _;omega)) _
     ·rw [HJ.out,HS.out];exact ⟨rfl,((hS'.drewN _).far (by show ¬ X=w.heap.size;omega) _).far (by show ¬ X=w.heap.size;omega) _⟩
  ·have hl':decide ((j:Int) < (s.size:Int))=false:=by simp;omega
   go_wp2
   go_quiet (fail)
   go_wp2
   refine bodyPost_ret (out15 (((hH.drewN _).put 0 _).put 1 _) rfl) rfl ⟨?_,?_⟩
   ·exact ((hF.drewN _).setCell (fun h=>absurd h (by show ¬ w.heap.size < _;omega)) _).setCell (fun h=>absurd h (by show ¬ w.heap.size < _;omega)) _
   ·rw [HJ.out,blank_end (by omega)];exact ⟨rfl,((hS'.drewN _).far (by show ¬ X=w.heap.size;omega) _).far (by show ¬ X=w.heap.size;omega) _⟩
end Go.Proofs.YtpoghableadkcaaGreatDoor
end
section
/- The walk of (*lex.scanner).quoted. (Printed by mklquo.py.) -/
namespace Go.Proofs.YtpoghableadkcaaGreatDoor
open Go.RowKit

/-- What the scanner's word answers,the word being read from the rest of the text from place i on. -/
def LTokPost (i:Nat) (R:Res (Tk × Nat)) (w:World) (e:Ending) (w':World):Prop:=
 Below w.heap.size w w'∧match R with
 | .ok (t,k)=>e=.returned (.tuple #[tok t.kind ⟨t.text.toArray⟩ t.num 0,.int .i64 k,mish 0 0])
 | .bad c a=>e=.returned (.tuple #[tok 0 ⟨#[]⟩ 0 0,.int .i64 0,mish c (i + a)])

theorem Below.drew {B:Nat} {w w':World} (h:Below B w w'):Below B w w'.drew:=⟨h.os,h.tape,h.output,h.size,h.block⟩

theorem wrap_small {n:Int} (h:0 ≤ n) (h':n < 1000000):IntKind.i64.wrap n=n:=by
 simp [IntKind.wrap,IntKind.signed,IntKind.bits]
 omega
theorem mish_add (c i a:Nat):Value.agg #[.int .i64 (c:Int),.int .i64 ((i:Int) + (a:Int))]=mish c (i + a):=by simp [mish]

theorem Holds.drew {w:World} {g:Nat} {t:TypeId} {cs:List Value} (h:Holds w g t cs):Holds w.drew g t cs:=h

theorem out31 {w:World} {tmps:Array Value} {g h:Nat} {a b c d x y:Value} (hH:Holds w g 93 [a,b,c,d]) (hK:Holds w h 26 [x,y])
  (h4:tmps[4]?.getD undef=.pointer (some ⟨g,0,none⟩)) (h6:tmps[6]?.getD undef=.pointer (some ⟨h,0,none⟩)):
  (results Tryz.f136 tmps).run Tryz.prog w=.ok (.tuple #[.agg #[a,b,c,d],tmps.getD 5 undef,.agg #[x,y]]) w:=by
 have c0:=hH.cell 0
 have c1:=hH.cell 1
 have c2:=hH.cell 2
 have c3:=hH.cell 3
 have d0:=hK.cell 0
 have d1:=hK.cell 1
 simp at c0 c1 c2 c3 d0 d1
 simp [results,Tryz.results136,h4,h6,go_sem,c0,c1,c2,c3,d0,d1]

theorem esc_at {c:UInt8}:Lib.indexByte [110,116,92,34] c=if c == 110 then 0 else if c == 116 then 1 else if c == 92 then 2 else if c == 34 then 3 else -1:=by
 simp only [Lib.indexByte]
 by_cases h0:c=110
 ·subst h0;decide
 by_cases h1:c=116
 ·subst h1;decide
 by_cases h2:c=92
 ·subst h2;decide
 by_cases h3:c=34
 ·subst h3;decide
 simp [h0,h1,h2,h3,Ne.symm h0,Ne.symm h1,Ne.symm h2,Ne.symm h3]

set_option maxHeartbeats 4000000 in
set_option maxRecDepth 100000 in
theorem lexQuoted (r s:ByteArray) (i X:Nat) (hr:i + r.size=s.size) (h0:0 < r.size) (hs:s.size ≤ 65536) (w:World) (hS:Holds w X 134 [.string s,.int .i64 i]):
  Calls Tryz.prog 136 #[.pointer (some ⟨X,0,none⟩),.string r] w (LTokPost i (quoRes 0 (quo 1 [] (rest r 1))) w):=by
 obtain ⟨R,hR⟩:∃ R,R=quo 1 [] (rest r 1):=⟨_,rfl⟩
 rw [← hR]
 have HR:=Lib.hid hR
 clear hR
 have hXl:=hS.lt
 go_enter Tryz.func136,Tryz.ntmps136
 go_wp2
 go_loopw [7,8] (fun v n wr=>∃ (k:Nat) (acc:Bs),n=.int .i64 (k:Int)∧k ≤ r.size∧acc.length ≤ k∧Hid (R=quo k acc (rest r k))∧wr.ownsRow w.heap.size 5 1 v acc.length (bcells acc)∧Holds wr w.heap.size 93 [.int .i64 0,.string ⟨#[]⟩,.int .i64 0,.int .i64 0]∧Holds wr (w.heap.size + 1) 26 [.int .i64 0,.int .i64 0]∧Below w.heap.size w wr) (fun _ n _=>(r.size + 10 - intOf n).toNat)
 case atStart=>
  exact ⟨1,[],rfl,by omega,by simp,HR,⟨rfl,.inl ⟨rfl,rfl⟩⟩,(Holds.new w _ _).alloc _,by have:=Holds.new (w.alloc (.cells #[.int .i64 0,.string ⟨#[]⟩,.int .i64 0,.int .i64 0] 93)) 26 #[.int .i64 0,.int .i64 0];simpa using this,((Below.refl _ _).alloc (Nat.le_refl _) _).alloc (by simp) _⟩
 case round=>
  obtain ⟨k,acc,rfl,hk,hak,HK,hown,hT,hM,hB⟩:=hrel
  have hSr:=hS.below hB hXl
  have x0:=hSr.cell 0
  have x1:=hSr.cell 1
  simp at x0 x1
  have n0:¬ X=w.heap.size:=by omega
  have n1:¬ X=w.heap.size + 1:=by omega
  have n2:¬ w.heap.size=X:=by omega
  have n3:¬ w.heap.size + 1=X:=by omega
  by_cases hl:k < r.size
  ·by_cases hq:(r[k] == 34)=true
   ·have hq':=(u8i r[k] 34).trans hq
    change ((r[k].toNat:Int) == 34)=true at hq'
    have HQ:=Lib.hid (quo_close acc hl hq)
    clear hq
    have c0:=hT.cell 0
    have c1:=hT.cell 1
    have c2:=hT.cell 2
    have c3:=hT.cell 3
    have d0:=hM.cell 0
    have d1:=hM.cell 1
    have f0:=hT.free 0
    have f1:=hT.free 1
    have f2:=hT.free 2
    have f3:=hT.free 3
    have g0:=hM.free 0
    have g1:=hM.free 1
    simp at c0 c1 c2 c3 d0 d1
    have hcv:=conv_own hown
    go_wp2_with (simp only [hcv])
    obtain ⟨h1,h2,h3⟩:=six hT hM hB (.int .i64 3) (.string ⟨acc.toArray⟩) (.int .i64 0) (.int .i64 0) (.int .i64 0) (.int .i64 0)
    exact bodyPost_ret (out31 h1 h2 rfl rfl) rfl ⟨h3,by rw [HK.out,HQ.out];rfl⟩
   ·have hq1:=eq_false_of_ne_true hq
    have hq':=(u8i r[k] 34).trans hq1
    change ((r[k].toNat:Int) == 34)=false at hq'
    clear hq
    by_cases hv:r[k].toNat < 32∨126 < r[k].toNat
    ·have HQ:=Lib.hid (quo_bad acc hl hq1 hv)
     have hv':(decide ((r[k].toNat:Int) < 32) || decide (126 < (r[k].toNat:Int)))=true:=by simp;omega
     clear hv hq1
     by_cases hv1:(r[k].toNat:Int) < 32
     ·skip
      have c0:=hT.cell 0
      have c1:=hT.cell 1
      have c2:=hT.cell 2
      have c3:=hT.cell 3
      have d0:=hM.cell 0
      have d1:=hM.cell 1
      have f0:=hT.free 0
      have f1:=hT.free 1
      have f2:=hT.free 2
      have f3:=hT.free 3
      have g0:=hM.free 0
      have g1:=hM.free 1
      simp at c0 c1 c2 c3 d0 d1
      have hwr:IntKind.i64.wrap ((i:Int) + (k:Int))=(i:Int) + (k:Int):=wrap_small (by omega) (by omega)
      go_wp2
      go_region_held3 (fun w2=>w2.cell? ⟨X,1,none⟩=some (.int .i64 (i:Int))) (go_keep) (fail)
      go_wp2
      obtain ⟨h1,h2,h3⟩:=six hT hM hB (.int .i64 0) (.string ⟨#[]⟩) (.int .i64 0) (.int .i64 0) (.int .i64 22) (.int .i64 ((i:Int) + (k:Nat)))
      exact bodyPost_ret (out31 h1.drew h2.drew rfl rfl) rfl ⟨h3.drew,by rw [HK.out,HQ.out];simp only [quoRes];rw [← mish_add];rfl⟩
     ·have hv2:(126:Int) < (r[k].toNat:Int):=by simpa [hv1] using hv'
      have hv3:decide ((r[k].toNat:Int) < 32)=false:=by simp;omega
      have c0:=hT.cell 0
      have c1:=hT.cell 1
      have c2:=hT.cell 2
      have c3:=hT.cell 3
      have d0:=hM.cell 0
      have d1:=hM.cell 1
      have f0:=hT.free 0
      have f1:=hT.free 1
      have f2:=hT.free 2
      have f3:=hT.free 3
      have g0:=hM.free 0
      have g1:=hM.free 1
      simp at c0 c1 c2 c3 d0 d1
      have hwr:IntKind.i64.wrap ((i:Int) + (k:Int))=(i:Int) + (k:Int):=wrap_small (by omega) (by omega)
      go_wp2
      go_region_held3 (fun w2=>w2.cell? ⟨X,1,none⟩=some (.int .i64 (i:Int))) (go_keep) (fail)
      go_wp2
      obtain ⟨h1,h2,h3⟩:=six hT hM hB (.int .i64 0) (.string ⟨#[]⟩) (.int .i64 0) (.int .i64 0) (.int .i64 22) (.int .i64 ((i:Int) + (k:Nat)))
      exact bodyPost_ret (out31 h1.drew h2.drew rfl rfl) rfl ⟨h3.drew,by rw [HK.out,HQ.out];simp only [quoRes];rw [← mish_add];rfl⟩
    ·have hv1:decide ((r[k].toNat:Int) < 32)=false:=by simp;omega
     have hv2:decide ((126:Int) < (r[k].toNat:Int))=false:=by simp;omega
     have HV:=Lib.hid hv
     have HQ1:=Lib.hid hq1
     clear hv hq1
     by_cases h92:(r[k] == 92)=true
     ·have h92':=(u8i r[k] 92).trans h92
      change ((r[k].toNat:Int) == 92)=true at h92'
      have H92:=Lib.hid h92
      clear h92
      by_cases hm:k + 1 < r.size
      ·cases he:esc r[k + 1] with
       | some x=>
        have HS:=Lib.hid (quo_esc acc x hm H92.out he)
        rcases esc_some he with ⟨hc,rfl⟩ | ⟨hc,rfl⟩ | ⟨hc,rfl⟩ | ⟨hc,rfl⟩
        ·have hx:Lib.indexByte (ByteArray.mk #[110,116,92,34]).data.toList ((r[k + 1].toNat:Int)).toNat.toUInt8=0:=by rw [hc];decide
         clear hc he
         obtain ⟨i0,hi0,hz0,hz1,hz2⟩:=info_parts Tryz.info5
         go_wp2_with (fail)
         refine (Tryz.strings_IndexByte _ _ _).mono ?_
         rintro e wr ⟨rfl,rfl⟩
         rw [hx]
         go_wp2_with (at_builtin;refine wpList_append_own_at _ rfl (.tmp 71) (.tmp 74) _ rfl w.heap.size 5 i0 _ 1 1 Tryz.underlying145 hi0 hz0 hz1 hz2 rfl (by omega) u7 acc.length (bcells acc) rfl (hown.alloc _) ⟨wr.heap.size,0,none⟩ 1 1 [.int .u8 10] rfl rfl ?c1 ?c2 ?c3 ?c4 ?c5 ?_)
         case c1=>exact cell_one_new _ _ _
         case c2=>simp [Value.oneCell']
         case c3=>unfold maxLen;omega
         case c4=>omega
         case c5=>have:=hB.size;simp at this ⊢;omega
         intro v' w2 hown2 hgrow _ _
         have hTa:=own_kept (hown.alloc (.cells #[.int .u8 10] 5)) hgrow (hT.alloc _) (by decide)
         have hMa:=own_kept (hown.alloc (.cells #[.int .u8 10] 5)) hgrow (hM.alloc _) (by decide)
         have hBa:=below_own (hB.alloc hB.size (.cells #[.int .u8 10] 5)) (hown.alloc _) hgrow
         go_wp2
         exact ⟨⟨k + 2,acc ++ [10],rfl,by omega,by simp;omega,(by rw [HK.out];exact HS.out),own_push 10 hown2,hTa,hMa,hBa⟩,by simp [intOf];omega⟩
        ·have hx:Lib.indexByte (ByteArray.mk #[110,116,92,34]).data.toList ((r[k + 1].toNat:Int)).toNat.toUInt8=1:=by rw [hc];decide
         clear hc he
         obtain ⟨i0,hi0,hz0,hz1,hz2⟩:=info_parts Tryz.info5
         go_wp2_with (fail)
         refine (Tryz.strings_IndexByte _ _ _).mono ?_
         rintro e wr ⟨rfl,rfl⟩
         rw [hx]
         go_wp2_with (at_builtin;refine wpList_append_own_at _ rfl (.tmp 71) (.tmp 74) _ rfl w.heap.size 5 i0 _ 1 1 Tryz.underlying145 hi0 hz0 hz1 hz2 rfl (by omega) u7 acc.length (bcells acc) rfl (hown.alloc _) ⟨wr.heap.size,0,none⟩ 1 1 [.int .u8 9] rfl rfl ?c1 ?c2 ?c3 ?c4 ?c5 ?_)
         case c1=>exact cell_one_new _ _ _
         case c2=>simp [Value.oneCell']
         case c3=>unfold maxLen;omega
         case c4=>omega
         case c5=>have:=hB.size;simp at this ⊢;omega
         intro v' w2 hown2 hgrow _ _
         have hTa:=own_kept (hown.alloc (.cells #[.int .u8 9] 5)) hgrow (hT.alloc _) (by decide)
         have hMa:=own_kept (hown.alloc (.cells #[.int .u8 9] 5)) hgrow (hM.alloc _) (by decide)
         have hBa:=below_own (hB.alloc hB.size (.cells #[.int .u8 9] 5)) (hown.alloc _) hgrow
         go_wp2
         exact ⟨⟨k + 2,acc ++ [9],rfl,by omega,by simp;omega,(by rw [HK.out];exact HS.out),own_push 9 hown2,hTa,hMa,hBa⟩,by simp [intOf];omega⟩
        ·have hx:Lib.indexByte (ByteArray.mk #[110,116,92,34]).data.toList ((r[k + 1].toNat:Int)).toNat.toUInt8=2:=by rw [hc];decide
         clear hc he
         obtain ⟨i0,hi0,hz0,hz1,hz2⟩:=info_parts Tryz.info5
         go_wp2_with (fail)
         refine (Tryz.strings_IndexByte _ _ _).mono ?_
         rintro e wr ⟨rfl,rfl⟩
         rw [hx]
         go_wp2_with (at_builtin;refine wpList_append_own_at _ rfl (.tmp 71) (.tmp 74) _ rfl w.heap.size 5 i0 _ 1 1 Tryz.underlying145 hi0 hz0 hz1 hz2 rfl (by omega) u7 acc.length (bcells acc) rfl (hown.alloc _) ⟨wr.heap.size,0,none⟩ 1 1 [.int .u8 92] rfl rfl ?c1 ?c2 ?c3 ?c4 ?c5 ?_)
         case c1=>exact cell_one_new _ _ _
         case c2=>simp [Value.oneCell']
         case c3=>unfold maxLen;omega
         case c4=>omega
         case c5=>have:=hB.size;simp at this ⊢;omega
         intro v' w2 hown2 hgrow _ _
         have hTa:=own_kept (hown.alloc (.cells #[.int .u8 92] 5)) hgrow (hT.alloc _) (by decide)
         have hMa:=own_kept (hown.alloc (.cells #[.int .u8 92] 5)) hgrow (hM.alloc _) (by decide)
         have hBa:=below_own (hB.alloc hB.size (.cells #[.int .u8 92] 5)) (hown.alloc _) hgrow
         go_wp2
         exact ⟨⟨k + 2,acc ++ [92],rfl,by omega,by simp;omega,(by rw [HK.out];exact HS.out),own_push 92 hown2,hTa,hMa,hBa⟩,by simp [intOf];omega⟩
        ·have hx:Lib.indexByte (ByteArray.mk #[110,116,92,34]).data.toList ((r[k + 1].toNat:Int)).toNat.toUInt8=3:=by rw [hc];decide
         clear hc he
         obtain ⟨i0,hi0,hz0,hz1,hz2⟩:=info_parts Tryz.info5
         go_wp2_with (fail)
         refine (Tryz.strings_IndexByte _ _ _).mono ?_
         rintro e wr ⟨rfl,rfl⟩
         rw [hx]
         go_wp2_with (at_builtin;refine wpList_append_own_at _ rfl (.tmp 71) (.tmp 74) _ rfl w.heap.size 5 i0 _ 1 1 Tryz.underlying145 hi0 hz0 hz1 hz2 rfl (by omega) u7 acc.length (bcells acc) rfl (hown.alloc _) ⟨wr.heap.size,0,none⟩ 1 1 [.int .u8 34] rfl rfl ?c1 ?c2 ?c3 ?c4 ?c5 ?_)
         case c1=>exact cell_one_new _ _ _
         case c2=>simp [Value.oneCell']
         case c3=>unfold maxLen;omega
         case c4=>omega
         case c5=>have:=hB.size;simp at this ⊢;omega
         intro v' w2 hown2 hgrow _ _
         have hTa:=own_kept (hown.alloc (.cells #[.int .u8 34] 5)) hgrow (hT.alloc _) (by decide)
         have hMa:=own_kept (hown.alloc (.cells #[.int .u8 34] 5)) hgrow (hM.alloc _) (by decide)
         have hBa:=below_own (hB.alloc hB.size (.cells #[.int .u8 34] 5)) (hown.alloc _) hgrow
         go_wp2
         exact ⟨⟨k + 2,acc ++ [34],rfl,by omega,by simp;omega,(by rw [HK.out];exact HS.out),own_push 34 hown2,hTa,hMa,hBa⟩,by simp [intOf];omega⟩
       | none=>
        have HS:=Lib.hid (quo_esc_bad acc hl H92.out (fun _=>he))
        have hx:Lib.indexByte (ByteArray.mk #[110,116,92,34]).data.toList ((r[k + 1].toNat:Int)).toNat.toUInt8=-1:=by
         have hb:((r[k + 1].toNat:Int)).toNat.toUInt8=r[k + 1]:=by simp
         rw [hb]
         change Lib.indexByte [110,116,92,34] _=_
         obtain ⟨a,b,c,d⟩:=esc_none he
         rw [esc_at,a,b,c,d];rfl
        clear he
        have c0:=hT.cell 0
        have c1:=hT.cell 1
        have c2:=hT.cell 2
        have c3:=hT.cell 3
        have d0:=hM.cell 0
        have d1:=hM.cell 1
        have f0:=hT.free 0
        have f1:=hT.free 1
        have f2:=hT.free 2
        have f3:=hT.free 3
        have g0:=hM.free 0
        have g1:=hM.free 1
        simp at c0 c1 c2 c3 d0 d1
        go_wp2_with (fail)
        refine (Tryz.strings_IndexByte _ _ _).mono ?_
        rintro e wr ⟨rfl,rfl⟩
        rw [hx]
        have hwr:IntKind.i64.wrap ((i:Int) + (k:Int))=(i:Int) + (k:Int):=wrap_small (by omega) (by omega)
        go_wp2
        go_region_held3 (fun w2=>w2.cell? ⟨X,1,none⟩=some (.int .i64 (i:Int))) (go_keep) (fail)
        go_wp2
        obtain ⟨h1,h2,h3⟩:=six hT hM hB (.int .i64 0) (.string ⟨#[]⟩) (.int .i64 0) (.int .i64 0) (.int .i64 22) (.int .i64 ((i:Int) + (k:Nat)))
        exact bodyPost_ret (out31 h1.drew h2.drew rfl rfl) rfl ⟨h3.drew,by rw [HK.out,HS.out];simp only [quoRes];rw [← mish_add];rfl⟩
      ·have hm':decide ((k:Int) + 1 < (r.size:Int))=false:=by simp;omega
       have HS:=Lib.hid (quo_esc_bad acc hl H92.out (fun h=>absurd h hm))
       have c0:=hT.cell 0
       have c1:=hT.cell 1
       have c2:=hT.cell 2
       have c3:=hT.cell 3
       have d0:=hM.cell 0
       have d1:=hM.cell 1
       have f0:=hT.free 0
       have f1:=hT.free 1
       have f2:=hT.free 2
       have f3:=hT.free 3
       have g0:=hM.free 0
       have g1:=hM.free 1
       simp at c0 c1 c2 c3 d0 d1
       have hwr:IntKind.i64.wrap ((i:Int) + (k:Int))=(i:Int) + (k:Int):=wrap_small (by omega) (by omega)
       go_wp2
       go_region_held3 (fun w2=>w2.cell? ⟨X,1,none⟩=some (.int .i64 (i:Int))) (go_keep) (fail)
       go_wp2
       obtain ⟨h1,h2,h3⟩:=six hT hM hB (.int .i64 0) (.string ⟨#[]⟩) (.int .i64 0) (.int .i64 0) (.int .i64 22) (.int .i64 ((i:Int) + (k:Nat)))
       exact bodyPost_ret (out31 h1.drew h2.drew rfl rfl) rfl ⟨h3.drew,by rw [HK.out,HS.out];simp only [quoRes];rw [← mish_add];rfl⟩
     ·have h92b:=eq_false_of_ne_true h92
      have h92':=(u8i r[k] 92).trans h92b
      change ((r[k].toNat:Int) == 92)=false at h92'
      have HS:=Lib.hid (quo_step acc hl HQ1.out HV.out h92b)
      clear h92 h92b
      obtain ⟨i0,hi0,hz0,hz1,hz2⟩:=info_parts Tryz.info5
      go_wp2_with (at_builtin;refine wpList_append_own_at _ rfl (.tmp 20) (.tmp 22) _ rfl w.heap.size 5 i0 _ 1 1 Tryz.underlying145 hi0 hz0 hz1 hz2 rfl (by omega) u7 acc.length (bcells acc) rfl (hown.alloc _) ⟨wr.heap.size,0,none⟩ 1 1 [.int .u8 (r[k].toNat:Int)] rfl rfl ?c1 ?c2 ?c3 ?c4 ?c5 ?_)
      case c1=>exact cell_one_new _ _ _
      case c2=>simp [Value.oneCell']
      case c3=>unfold maxLen;omega
      case c4=>omega
      case c5=>have:=hB.size;simp at this ⊢;omega
      intro v' w2 hown2 hgrow _ _
      have hTa:=own_kept (hown.alloc (.cells #[.int .u8 (r[k].toNat:Int)] 5)) hgrow (hT.alloc _) (by decide)
      have hMa:=own_kept (hown.alloc (.cells #[.int .u8 (r[k].toNat:Int)] 5)) hgrow (hM.alloc _) (by decide)
      have hBa:=below_own (hB.alloc hB.size (.cells #[.int .u8 (r[k].toNat:Int)] 5)) (hown.alloc _) hgrow
      go_wp2
      exact ⟨⟨k + 1,acc ++ [r[k]],rfl,by omega,by simp;omega,(by rw [HK.out];exact HS.out),own_push r[k] hown2,hTa,hMa,hBa⟩,by simp [intOf];omega⟩
  ·have hl':decide ((k:Int) < (r.size:Int))=false:=by simp;omega
   have HS:=Lib.hid (quo_end (s:=r) (i:=k) acc (by omega))
   have c0:=hT.cell 0
   have c1:=hT.cell 1
   have c2:=hT.cell 2
   have c3:=hT.cell 3
   have d0:=hM.cell 0
   have d1:=hM.cell 1
   have f0:=hT.free 0
   have f1:=hT.free 1
   have f2:=hT.free 2
   have f3:=hT.free 3
   have g0:=hM.free 0
   have g1:=hM.free 1
   simp at c0 c1 c2 c3 d0 d1
   go_wp2
   go_region_held3 (fun w2=>w2.cell? ⟨X,0,none⟩=some (.string s)) (go_keep) (fail)
   go_wp2
   obtain ⟨h1,h2,h3⟩:=six hT hM hB (.int .i64 0) (.string ⟨#[]⟩) (.int .i64 0) (.int .i64 0) (.int .i64 21) (.int .i64 (s.size:Nat))
   exact bodyPost_ret (out31 h1.drew h2.drew rfl rfl) rfl ⟨h3.drew,by rw [HK.out,HS.out];simp only [quoRes];rw [hr];rfl⟩
end Go.Proofs.YtpoghableadkcaaGreatDoor
end
section
/- The walk of lex.Reserved, and what it tells, in plain words. -/
namespace Go.Proofs.YtpoghableadkcaaGreatDoor
open Go.RowKit

/-- Words,each with a blank ahead,and a blank at the end. -/
def spaced:List Bs→Bs
 | []=>[32]
 | w :: r=>32 :: (w ++ spaced r)

theorem spaced_head:∀ ws:List Bs,∃ r,spaced ws=32 :: r
 | []=>⟨[],rfl⟩
 | w :: r=>⟨w ++ spaced r,rfl⟩

theorem prefix_eq:∀ (l w r t:Bs),¬ 32 ∈ l→¬ 32 ∈ w→t=32 :: r→List.isPrefixOf (l ++ [32]) (w ++ t)=(l == w)
 | [],[],r,_,_,_,rfl=>by simp [List.isPrefixOf]
 | [],b :: w,r,_,_,h,rfl=>by
  simp at h
  simp [List.isPrefixOf,h.1]
 | a :: l,[],r,_,h,_,rfl=>by
  simp at h
  simp [List.isPrefixOf,Ne.symm h.1]
 | a :: l,b :: w,r,t,h,h',ht=>by
  simp at h h'
  have:=prefix_eq l w r t h.2 h'.2 ht
  simp [List.isPrefixOf,this]

theorem contains_cons (b:UInt8) (l p:Bs):Lib.contains (b :: l) p=(List.isPrefixOf p (b :: l) || Lib.contains l p):=by
 unfold Lib.contains
 rw [Lib.index]
 have hg:=Lib.index_ge l p
 by_cases h:List.isPrefixOf p (b :: l)=true
 ·rw [if_pos h,h];simp
 ·rw [if_neg h,eq_false_of_ne_true h]
  by_cases h1:Lib.index l p=-1
  ·rw [h1];simp
  ·have h2:(Lib.index l p == -1)=false:=by simpa using h1
   rw [h2]
   simp
   omega

theorem contains_skip (p:Bs):∀ (w t:Bs),¬ 32 ∈ w→Lib.contains (w ++ t) (32 :: p)=Lib.contains t (32 :: p)
 | [],_,_=>rfl
 | b :: w,t,h=>by
  simp at h
  rw [List.cons_append,contains_cons,contains_skip p w t h.2]
  have:List.isPrefixOf (32 :: p) (b :: (w ++ t))=false:=by simp [List.isPrefixOf,h.1]
  rw [this];rfl

theorem contains_spaced (l:Bs) (hl:¬ 32 ∈ l) (h0:l ≠ []):∀ ws:List Bs,(∀ w ∈ ws,¬ 32 ∈ w)→Lib.contains (spaced ws) (32 :: (l ++ [32]))=ws.contains l
 | [],_=>by
  cases l with
  | nil=>exact absurd rfl h0
  | cons a l=>simp [spaced,Lib.contains,Lib.index,List.isPrefixOf]
 | w :: r,h=>by
  obtain ⟨q,hq⟩:=spaced_head r
  have hw:=h w (List.mem_cons_self ..)
  rw [spaced,contains_cons,contains_skip _ _ _ hw,contains_spaced l hl h0 r fun w hw=>h w (List.mem_cons_of_mem _ hw)]
  have:=prefix_eq l w q (spaced r) hl hw hq
  rw [List.contains_cons,List.isPrefixOf,this]
  rfl

/-- The signs,in the code's order. -/
def signs:List Bs:=twos ++ [[123],[125],[40],[41],[91],[93],[59],[44],[58],[46],[33],[63],[61],[60],[62],[43],[45],[42],[47],[37],[38],[124],[94],[126],[64]]

/-- What is reserved. -/
def isRes (l:Bs):Bool:=names.contains l || signs.contains l

theorem spaced_names:spaced names=[32,97,99,116,105,118,101,32,97,115,115,101,114,116,32,97,116,111,109,105,99,32,98,105,116,32,98,111,111,108,32,98,114,101,97,107,32,98,121,116,101,32,99,104,97,110,32,100,95,115,116,101,112,32,100,111,32,101,108,115,101,32,101,109,112,116,121,32,101,118,97,108,32,102,97,108,115,101,32,102,105,32,102,117,108,108,32,103,111,116,111,32,105,102,32,105,110,105,116,32,105,110,108,105,110,101,32,105,110,116,32,108,101,110,32,108,116,108,32,109,116,121,112,101,32,110,101,109,112,116,121,32,110,101,118,101,114,32,110,102,117,108,108,32,110,112,95,32,111,100,32,111,102,32,112,105,100,32,112,114,105,110,116,102,32,112,114,111,99,116,121,112,101,32,114,117,110,32,115,104,111,114,116,32,115,107,105,112,32,116,105,109,101,111,117,116,32,116,114,117,101,32,116,121,112,101,100,101,102,32,117,110,108,101,115,115,32,95,32,95,112,105,100,32,95,110,114,95,112,114,32]:=by decide +kernel
theorem spaced_signs:spaced signs=[32,58,58,32,33,33,32,63,63,32,61,61,32,33,61,32,60,61,32,62,61,32,60,60,32,62,62,32,38,38,32,124,124,32,43,43,32,45,45,32,45,62,32,123,32,125,32,40,32,41,32,91,32,93,32,59,32,44,32,58,32,46,32,33,32,63,32,61,32,60,32,62,32,43,32,45,32,42,32,47,32,37,32,38,32,124,32,94,32,126,32,64,32]:=by decide +kernel
theorem names_clean:∀ w ∈ names,¬ 32 ∈ w:=by decide +kernel
theorem signs_clean:∀ w ∈ signs,¬ 32 ∈ w:=by decide +kernel

theorem isRes_blank {l:Bs} (h:32 ∈ l):isRes l=false:=by
 unfold isRes
 rw [Bool.or_eq_false_iff]
 constructor
 ·cases hc:names.contains l with
  | false=>rfl
  | true=>exact absurd h (names_clean l (List.elem_iff.1 hc))
 ·cases hc:signs.contains l with
  | false=>rfl
  | true=>exact absurd h (signs_clean l (List.elem_iff.1 hc))
theorem isRes_nil:isRes []=false:=by decide +kernel

theorem blank_byte {l:Bs}:decide (0 ≤ Lib.indexByte l 32)=l.contains 32:=(Lib.contains_iff_indexByte l 32).symm

set_option maxRecDepth 100000 in
theorem lexReserved (s:ByteArray) (m:Int) (hs:s.size < 4294967000) (w:World) (hm:w.cell? ⟨1,0,none⟩=some (.int .i64 m)):
  Calls Tryz.prog 135 #[.string s] w fun e w'=>e=.returned (.bool (isRes s.data.toList))∧w'=w:=by
 have hl:s.toList=s.data.toList:=ByteArray.toList_eq s
 have HL:=Lib.hid hl
 clear hl
 go_enter Tryz.func135,Tryz.ntmps135
 by_cases h0:s.toList=[]
 ·go_wp2
  go_ret
  rw [← HL.out,h0,isRes_nil]
  exact ⟨rfl,rfl⟩
 ·have h2:s.data.toList ≠ []:=by rw [← HL.out];exact h0
  go_wp2_with (fail)
  refine (Tryz.strings_Contains_one _ _ _).mono ?_
  rintro e w ⟨rfl,rfl⟩
  rw [blank_byte]
  by_cases hb:s.data.toList.contains 32=true
  ·have hr:=isRes_blank (List.elem_iff.1 hb)
   rw [hb]
   go_wp2
   go_ret
   rw [hr]
   exact ⟨rfl,rfl⟩
  ·have hb':=eq_false_of_ne_true hb
   have hn:¬ 32 ∈ s.data.toList:=fun h=>hb (List.elem_iff.2 h)
   have e1:=contains_spaced _ hn h2 names names_clean
   have e2:=contains_spaced _ hn h2 signs signs_clean
   have E1:=Lib.hid e1
   have E2:=Lib.hid e2
   clear hb hn e1 e2
   rw [hb']
   go_wp2_with (fail)
   refine (Tryz.strings_Contains _ _ m _ (by decide) hm).mono ?_
   rintro e w ⟨rfl,rfl⟩
   have hsub:((⟨#[32]⟩:ByteArray) ++ s ++ ⟨#[32]⟩).data.toList=32 :: (s.data.toList ++ [32]):=by simp
   rw [hsub]
   have e1:=E1.out
   rw [show spaced names=_ from spaced_names] at e1
   rw [e1]
   have hsub':=Lib.hid hsub
   clear hsub e1
   by_cases hn:names.contains s.data.toList=true
   ·rw [hn]
    go_wp2
    go_ret
    refine ⟨congrArg (fun b=>Ending.returned (Value.bool b)) (?_:(!s.toList.isEmpty)=isRes s.data.toList),rfl⟩
    unfold isRes
    rw [hn]
    simp [h0]
   ·have hn':=eq_false_of_ne_true hn
    rw [hn']
    have HN:=Lib.hid hn'
    clear hn hn'
    go_wp2_with (fail)
    refine (Tryz.strings_Contains _ _ m _ (by decide) hm).mono ?_
    rintro e w ⟨rfl,rfl⟩
    have e2:=E2.out
    rw [show spaced signs=_ from spaced_signs] at e2
    rw [hsub'.out,e2]
    clear e2
    go_wp2
    go_ret
    refine ⟨congrArg (fun b=>Ending.returned (Value.bool b)) (?_:(!s.toList.isEmpty && decide (s.data.toList ∈ signs))=isRes s.data.toList),rfl⟩
    unfold isRes
    rw [HN.out]
    simp [h0]
end Go.Proofs.YtpoghableadkcaaGreatDoor
end
section
/- How far a name goes, as strings.TrimLeftFunc tells it. -/
namespace Go.Proofs.YtpoghableadkcaaGreatDoor
open Go.RowKit

/-- The runes of a name. -/
def runeIn (x:Nat):Bool:=decide (x < 128) && (ltr x || dig x)

set_option maxRecDepth 100000 in
theorem wordRune (x:Nat) (hx:x ≤ 1114111) (w:World):Calls Tryz.prog 133 #[.int .i32 (x:Int)] w fun e w'=>e=.returned (.bool (runeIn x))∧w'=w:=by
 by_cases h:x < 128
 ·have hx:decide ((x:Int) < 128)=true:=by simp;omega
  have hw:((x:Int) % 256)=(x:Int):=by omega
  go_enter Tryz.func133,Tryz.ntmps133
  go_wp2_with (fail)
  refine (lexLetter x (by omega) _).mono ?_
  rintro e w ⟨rfl,rfl⟩
  by_cases hl:ltr x=true
  ·rw [hl]
   go_wp2
   go_ret
   refine ⟨congrArg (fun b=>Ending.returned (Value.bool b)) (?_:true=runeIn x),rfl⟩
   simp [runeIn,h,hl]
  ·have hl':=eq_false_of_ne_true hl
   rw [hl']
   clear hl
   go_wp2_with (fail)
   refine (lexDigit x _).mono ?_
   rintro e w ⟨rfl,rfl⟩
   go_wp2
   go_ret
   refine ⟨congrArg (fun b=>Ending.returned (Value.bool b)) (?_:dig x=runeIn x),rfl⟩
   simp [runeIn,h,hl']
 ·have hx:decide ((x:Int) < 128)=false:=by simp;omega
  go_enter Tryz.func133,Tryz.ntmps133
  go_wp2
  go_ret
  refine ⟨congrArg (fun b=>Ending.returned (Value.bool b)) (?_:false=runeIn x),rfl⟩
  simp [runeIn,h]

theorem get_at {s:ByteArray} {i:Nat} (h:i < s.size):s.get! i=s[i]:=by
 have h':i < s.data.size:=h
 simp only [ByteArray.get!]
 rw [getElem!_pos s.data i h']
 rfl
theorem decode_low {s:ByteArray} {i:Nat} (h:i < s.size) (h1:s[i].toNat < 128):Utf8.decode s i=(s[i].toNat,1):=by
 rw [Lib.decode_at,get_at h,Lib.decodeN_ascii _ _ _ _ _ h1]

theorem decodeN_high (n b0 b1 b2 b3:Nat) (h:128 ≤ b0):128 ≤ (Lib.decodeN n b0 b1 b2 b3).1:=by
 unfold Lib.decodeN
 rw [if_neg (by omega)]
 repeat' split
 all_goals simp
 all_goals omega
theorem decode_high {s:ByteArray} {i:Nat} (h:i < s.size) (h1:¬ s[i].toNat < 128):128 ≤ (Utf8.decode s i).1:=by
 rw [Lib.decode_at,get_at h]
 exact decodeN_high _ _ _ _ _ (by omega)

theorem lod_low (c:UInt8) (h:lod c=true):c.toNat < 128:=by
 have:∀ n:Fin 256,(ltr n.val || dig n.val)=true→n.val < 128:=by decide +kernel
 exact this ⟨c.toNat,c.toNat_lt⟩ h
theorem runeIn_low (c:UInt8) (h:c.toNat < 128):runeIn c.toNat=lod c:=by simp [runeIn,lod,h]

theorem idx_names (s:ByteArray):∀ f pos:Nat,pos ≤ s.size→s.size ≤ pos + f →
  Lib.idxFuncFrom runeIn false s f pos=if pos + ((rest s pos).takeWhile lod).length=s.size then -1 else ((pos + ((rest s pos).takeWhile lod).length:Nat):Int)
 | 0,pos,h,h'=>by
  rw [Lib.idxFuncFrom,rest_end (by omega),if_pos (by simp;omega)]
 | f + 1,pos,h,h'=>by
  rw [Lib.idxFuncFrom]
  by_cases hl:pos < s.size
  ·rw [if_pos hl,rest_cons hl]
   by_cases hc:lod s[pos]=true
   ·have h1:=lod_low _ hc
    rw [decode_low hl h1,List.takeWhile_cons,if_pos hc]
    simp only
    rw [runeIn_low _ h1,hc,if_neg (by decide),idx_names s f (pos + 1) hl (by omega)]
    simp only [List.length_cons]
    rw [show pos + 1 + ((rest s (pos + 1)).takeWhile lod).length=pos + (((rest s (pos + 1)).takeWhile lod).length + 1) by omega]
   ·have h2:runeIn (Utf8.decode s pos).1=false:=by
     by_cases h1:s[pos].toNat < 128
     ·rw [decode_low hl h1]
      exact (runeIn_low _ h1).trans (eq_false_of_ne_true hc)
     ·have:=decode_high hl h1
      simp [runeIn]
      intro h3;omega
    rw [if_pos h2,List.takeWhile_cons,if_neg hc]
    simp
    omega
  ·rw [if_neg hl,rest_end (by omega),if_pos (by simp;omega)]

theorem trim_size (s:ByteArray):(Lib.trimLeftF runeIn s).size=s.size - ((rest s 0).takeWhile lod).length:=by
 have h:=idx_names s s.size 0 (Nat.zero_le _) (by omega)
 have h1:=takeWhile_len lod (rest s 0)
 rw [rest_len] at h1
 unfold Lib.trimLeftF Lib.idxFunc
 rw [h]
 by_cases h2:0 + ((rest s 0).takeWhile lod).length=s.size
 ·rw [if_pos h2,if_pos rfl]
  show 0=_
  omega
 ·rw [if_neg h2,if_neg (by omega),ByteArray.size_extract]
  omega
end Go.Proofs.YtpoghableadkcaaGreatDoor
end
