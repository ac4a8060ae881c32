/-
  Joined texts: Sh: DERIVED: THE SHELF's CONTRACTS AT THIS DUMP, IN PLAIN WORDS (tools/lay-plain.mjs out of 'TrydShelf.lean', which tools/lay-shelf.mjs wrote): THE SAME DECLARATIONS UNDER THE SAME NAMES: 'import', 'namespace', 'open', 'def', 'theorem' AND NOTHING ELSE: no command of the shelf's: FOR A HAND-IN. Each laying: the table of numbers ('.._ren') and one theorem, a field a fact of the dump's own or the kernel's comparison; each contract: ONE APPLICATION.
  IG: Image: bytes of hexadecimal digits.
  IH: Image: small functions of the reference and of the law.
  II: Image: ranges.
  IJ: Image: Made of the reference.
  IK: Image: Edited of the reference.
  IL: Image: pick and ranges of the law.
  Bh: A slice that is read compared with nil; a copy into a part of a row of one's own.
  IM: Image: Spread.
  IN: Image: the builder's own check.
  Bi: A builder's own check: it stores its own address.
  Bj: The text of a builder, at the end of a function: all memory is given up.
  IO: Image: numbers in texts; the builder's contracts together.
  ISp: Image: lines and texts, plain.
-/
import Derived.Shelf.Strings.Builder1
import Derived.Shelf.Small.Strs
import Derived.Shelf.Small.Wraps
import Derived.Shelf.Strconv.Atoi
import Derived.Shelf.Strconv.Itoa0
import Derived.Shelf.Strconv.Itoa1
import Derived.Shelf.LaysM
import Derived.Shelf.Strconv.Itoa2
import Derived.Shelf.Strconv.Itoa3
import Derived.Shelf.Strconv.AtoiErrFast
import Derived.Shelf.Strconv.ParseIntEmpty
import Derived.Shelf.Strconv.AtoiFail
import Derived.Shelf.Strconv.Clone
import Derived.Shelf.Strconv.SyntaxError
import Derived.Shelf.LaysC
import Derived.Shelf.Strconv.ToError
import Derived.Shelf.Strconv.Lower
import Derived.Shelf.Strconv.ParseUint10
import Derived.Shelf.Strconv.ParseUint10Empty
import Derived.Shelf.Strconv.ParseUint10Any
import Derived.Shelf.Strconv.ParseInt10
import Derived.Shelf.Strconv.AtoiLong
import Derived.Shelf.Strconv.AtoiInnerAll
import Derived.Shelf.Strconv.RangeError
import Derived.Shelf.Strconv.ToErrorRange
import Derived.Shelf.Strconv.AtoiAll
import Derived.Shelf.Strconv.ErrVarAll
import Derived.Shelf.Strings.Search1
import Derived.Shelf.Strings.Search2
import Derived.Shelf.Strings.Search3
import Derived.Shelf.Strings.Cut
import Derived.Shelf.Strings.Count
import Derived.Shelf.Strings.Shaped
import Derived.Shelf.Strings.Prefix
import Derived.Shelf.Strings.Split
import Derived.Shelf.Unicode.DecodeSlow
import Derived.Shelf.Unicode.DecodeAny
import Derived.Ground.SlbCloneProg
import Derived.Shelf.Bytes.SlClone
import Derived.Test.YtmmpflifajjbjaaDoorProg
import Derived.Test.YtmmpflifajjbjaaDoorQC
import Derived.Lib.ItoaLen
import Derived.Lib.AppendIntMem
section
namespace Go.Proofs
open Go.Shelf
def Tryd.lays169_ren : Go.Shelf.Ren := ⟨fun | 169 => 35 | n => n, fun | 70 => 69 | 9 => 9 | 0 => 0 | 72 => 71 | 37 => 43 | 127 => 91 | 3 => 3 | 5 => 5 | n => n, fun | n => n⟩
theorem Tryd.lays169 : Go.Proofs.Lays.n169 Tryd.prog Tryd.lays169_ren := {
  mixed := by kernel_rfl
  f169 := Tryd.func35.trans (congrArg some (by kernel_rfl))
  t0 := Tryd.underlying0
  a0 := Tryd.isAgg0
  z0 := Tryd.sizeOf0
  v0 := Tryd.zeroValue0
  t3 := Tryd.underlying3
  a3 := Tryd.isAgg3
  z3 := Tryd.sizeOf3
  v3 := Tryd.zeroValue3
  t9 := Tryd.underlying9
  a9 := Tryd.isAgg9
  z9 := Tryd.sizeOf9
  v9 := Tryd.zeroValue9
  t37 := Tryd.underlying43
  a37 := Tryd.isAgg43
  z37 := Tryd.sizeOf43
  v37 := Tryd.zeroValue43
  t70 := Tryd.underlying69
  a70 := Tryd.isAgg69
  z70 := Tryd.sizeOf69
  v70 := Tryd.zeroValue69
  t72 := Tryd.underlying71
  a72 := Tryd.isAgg71
  z72 := Tryd.sizeOf71
  v72 := Tryd.zeroValue71
  t127 := Tryd.underlying91
  a127 := Tryd.isAgg91
  z127 := Tryd.sizeOf91
  v127 := Tryd.zeroValue91 }
theorem Tryd.Builder_Extra_169 : Builder.Extra Tryd.prog Tryd.lays169_ren := {
  sizeBuilder := by kernel_rfl
  liesBuilder := by kernel_rfl
  t5 := Tryd.underlying5
  a5 := Tryd.isAgg5
  z5 := Tryd.sizeOf5
  v5 := Tryd.zeroValue5
  infoByte := by kernel_rfl
  cellsByte := by kernel_rfl
  sizeByte := by kernel_rfl
  neB5 := by decide }
open Go.RowKit in
/-- (*strings.Builder).String: "String returns the accumulated string.": OF A BUILDER THAT HOLDS AT LEAST ONE BYTE. ✋ THE MODEL FREEZES THOSE BYTES IN THE BUFFER (unsafe.String): a later write INTO them ends the model's run without an answer; a later append BEHIND them goes on. The statement's order of evaluation is drawn: one draw. (LAID: no walk: one application.) -/
theorem Tryd.Builder_String (B b : Nat) (l : List UInt8) (w : World) (h : Lib.IsBuilder 71 5 B b (Lib.byteCells l) w) (h0 : l ≠ []) :
    Calls Tryd.prog 35 #[.pointer (some ⟨b, 0, none⟩)] w fun e w' => e = .returned (.string ⟨l.toArray⟩) ∧ Below B w w' := Any.Builder_String Tryd.lays169 Tryd.Builder_Extra_169 B b l w h h0
open Go.RowKit in
/-- (*strings.Builder).String OF A BUILDER THAT HOLDS NO BYTE: the empty string. (Its buffer is nil, or a row of which it has taken nothing yet; where that row has NO capacity the model lays one new block for unsafe.SliceData's 'some address'.) One draw. (LAID: no walk: one application.) -/
theorem Tryd.Builder_String_empty (B b : Nat) (w : World) (h : Lib.IsBuilder 71 5 B b [] w) (hBw : B ≤ w.heap.size) :
    Calls Tryd.prog 35 #[.pointer (some ⟨b, 0, none⟩)] w fun e w' => e = .returned (.string ⟨#[]⟩) ∧ Below B w w' := Any.Builder_String_empty Tryd.lays169 Tryd.Builder_Extra_169 B b w h hBw
open Go.RowKit in
/-- (*strings.Builder).String: "String returns the accumulated string.": WHATEVER THE BUILDER HOLDS. (LAID: no walk: one application.) -/
theorem Tryd.Builder_String_any (B b : Nat) (l : List UInt8) (w : World) (h : Lib.IsBuilder 71 5 B b (Lib.byteCells l) w) (hBw : B ≤ w.heap.size) :
    Calls Tryd.prog 35 #[.pointer (some ⟨b, 0, none⟩)] w fun e w' => e = .returned (.string ⟨l.toArray⟩) ∧ Below B w w' := Any.Builder_String_any Tryd.lays169 Tryd.Builder_Extra_169 B b l w h hBw
def Tryd.lays137_ren : Go.Shelf.Ren := ⟨fun | 137 => 42 | 217 => 51 | 266 => 58 | n => n, fun | 9 => 9 | 5 => 5 | 3 => 3 | n => n, fun | n => n⟩
theorem Tryd.lays137 : Go.Proofs.Lays.n137 Tryd.prog Tryd.lays137_ren := {
  mixed := by kernel_rfl
  f137 := Tryd.func42.trans (congrArg some (by kernel_rfl))
  f217 := Tryd.func51.trans (congrArg some (by kernel_rfl))
  f266 := Tryd.func58.trans (congrArg some (by kernel_rfl))
  t3 := Tryd.underlying3
  a3 := Tryd.isAgg3
  z3 := Tryd.sizeOf3
  v3 := Tryd.zeroValue3
  t5 := Tryd.underlying5
  a5 := Tryd.isAgg5
  z5 := Tryd.sizeOf5
  v5 := Tryd.zeroValue5
  t9 := Tryd.underlying9
  a9 := Tryd.isAgg9
  z9 := Tryd.sizeOf9
  v9 := Tryd.zeroValue9 }
open Go.RowKit in
/-- strings.IndexByte: "IndexByte returns the index of the first instance of c in s, or -1 if c is not present in s.": IT RETURNS 'Lib.indexByte s c'; the world is as it was. (LAID: no walk: one application.) -/
theorem Tryd.strings_IndexByte (s : ByteArray) (c : Int) (w : World) :
    Calls Tryd.prog 42 #[.string s, .int .u8 c] w fun e w' => e = .returned (.int .i64 (Lib.indexByte s.data.toList c.toNat.toUInt8)) ∧ w' = w := Any.strings_IndexByte Tryd.lays137 s c w
def Tryd.lays211_ren : Go.Shelf.Ren := ⟨fun | 211 => 55 | 207 => 66 | n => n, fun | 9 => 9 | 4 => 4 | 3 => 3 | n => n, fun | n => n⟩
theorem Tryd.lays211 : Go.Proofs.Lays.n211 Tryd.prog Tryd.lays211_ren := {
  mixed := by kernel_rfl
  f207 := Tryd.func66.trans (congrArg some (by kernel_rfl))
  f211 := Tryd.func55.trans (congrArg some (by kernel_rfl))
  t3 := Tryd.underlying3
  a3 := Tryd.isAgg3
  z3 := Tryd.sizeOf3
  v3 := Tryd.zeroValue3
  t4 := Tryd.underlying4
  a4 := Tryd.isAgg4
  z4 := Tryd.sizeOf4
  v4 := Tryd.zeroValue4
  t9 := Tryd.underlying9
  a9 := Tryd.isAgg9
  z9 := Tryd.sizeOf9
  v9 := Tryd.zeroValue9 }
open Go.RowKit in
/-- internal/stringslite.CutSuffix (what strings.CutSuffix calls). (LAID: no walk: one application.) -/
theorem Tryd.stringslite_CutSuffix (s p : ByteArray) (w : World) (hs : s.size ≤ 9223372036854775807) :
    Calls Tryd.prog 55 #[.string s, .string p] w fun e w' => e = .returned (.tuple #[.string ⟨(Lib.trimSuffix s.data.toList p.data.toList).toArray⟩, .bool (Lib.hasSuffix s.data.toList p.data.toList)]) ∧ w' = w := Any.stringslite_CutSuffix Tryd.lays211 s p w hs
def Tryd.lays104_ren : Go.Shelf.Ren := ⟨fun | 104 => 47 | 211 => 55 | 207 => 66 | n => n, fun | 9 => 9 | 4 => 4 | 24 => 92 | 3 => 3 | n => n, fun | n => n⟩
theorem Tryd.lays104 : Go.Proofs.Lays.n104 Tryd.prog Tryd.lays104_ren := {
  mixed := by kernel_rfl
  f104 := Tryd.func47.trans (congrArg some (by kernel_rfl))
  f207 := Tryd.func66.trans (congrArg some (by kernel_rfl))
  f211 := Tryd.func55.trans (congrArg some (by kernel_rfl))
  t3 := Tryd.underlying3
  a3 := Tryd.isAgg3
  z3 := Tryd.sizeOf3
  v3 := Tryd.zeroValue3
  t4 := Tryd.underlying4
  a4 := Tryd.isAgg4
  z4 := Tryd.sizeOf4
  v4 := Tryd.zeroValue4
  t9 := Tryd.underlying9
  a9 := Tryd.isAgg9
  z9 := Tryd.sizeOf9
  v9 := Tryd.zeroValue9
  t24 := Tryd.underlying92
  a24 := Tryd.isAgg92
  z24 := Tryd.sizeOf92
  v24 := Tryd.zeroValue92 }
open Go.RowKit in
/-- strings.CutSuffix: "CutSuffix returns s without the provided ending suffix string and reports whether it found the suffix. If s doesn't end with suffix, CutSuffix returns s, false. If suffix is the empty string, CutSuffix returns s, true.": IT RETURNS '(Lib.trimSuffix s p, Lib.hasSuffix s p)'; the world is as it was. (LAID: no walk: one application.) -/
theorem Tryd.strings_CutSuffix (s p : ByteArray) (w : World) (hs : s.size ≤ 9223372036854775807) :
    Calls Tryd.prog 47 #[.string s, .string p] w fun e w' => e = .returned (.tuple #[.string ⟨(Lib.trimSuffix s.data.toList p.data.toList).toArray⟩, .bool (Lib.hasSuffix s.data.toList p.data.toList)]) ∧ w' = w := Any.strings_CutSuffix Tryd.lays104 s p w hs
def Tryd.lays244_ren : Go.Shelf.Ren := ⟨fun | 244 => 70 | 247 => 81 | 287 => 89 | 321 => 92 | 322 => 93 | n => n, fun | 9 => 9 | 3 => 3 | 75 => 73 | 4 => 4 | 5 => 5 | 167 => 124 | 37 => 43 | 0 => 0 | 85 => 125 | 2 => 2 | 53 => 104 | 175 => 131 | 46 => 88 | 21 => 21 | 80 => 78 | n => n, fun | n => n⟩
theorem Tryd.lays244 : Go.Proofs.Lays.n244 Tryd.prog Tryd.lays244_ren := {
  mixed := by kernel_rfl
  f244 := Tryd.func70.trans (congrArg some (by kernel_rfl))
  f247 := Tryd.func81.trans (congrArg some (by kernel_rfl))
  f287 := Tryd.func89.trans (congrArg some (by kernel_rfl))
  f321 := Tryd.func92.trans (congrArg some (by kernel_rfl))
  f322 := Tryd.func93.trans (congrArg some (by kernel_rfl))
  t0 := Tryd.underlying0
  a0 := Tryd.isAgg0
  z0 := Tryd.sizeOf0
  v0 := Tryd.zeroValue0
  t2 := Tryd.underlying2
  a2 := Tryd.isAgg2
  z2 := Tryd.sizeOf2
  v2 := Tryd.zeroValue2
  t3 := Tryd.underlying3
  a3 := Tryd.isAgg3
  z3 := Tryd.sizeOf3
  v3 := Tryd.zeroValue3
  t4 := Tryd.underlying4
  a4 := Tryd.isAgg4
  z4 := Tryd.sizeOf4
  v4 := Tryd.zeroValue4
  t5 := Tryd.underlying5
  a5 := Tryd.isAgg5
  z5 := Tryd.sizeOf5
  v5 := Tryd.zeroValue5
  t9 := Tryd.underlying9
  a9 := Tryd.isAgg9
  z9 := Tryd.sizeOf9
  v9 := Tryd.zeroValue9
  t21 := Tryd.underlying21
  a21 := Tryd.isAgg21
  z21 := Tryd.sizeOf21
  v21 := Tryd.zeroValue21
  t37 := Tryd.underlying43
  a37 := Tryd.isAgg43
  z37 := Tryd.sizeOf43
  v37 := Tryd.zeroValue43
  t46 := Tryd.underlying88
  a46 := Tryd.isAgg88
  z46 := Tryd.sizeOf88
  v46 := Tryd.zeroValue88
  t53 := Tryd.underlying104
  a53 := Tryd.isAgg104
  z53 := Tryd.sizeOf104
  v53 := Tryd.zeroValue104
  t75 := Tryd.underlying73
  a75 := Tryd.isAgg73
  z75 := Tryd.sizeOf73
  v75 := Tryd.zeroValue73
  t85 := Tryd.underlying125
  a85 := Tryd.isAgg125
  z85 := Tryd.sizeOf125
  v85 := Tryd.zeroValue125
  t167 := Tryd.underlying124
  a167 := Tryd.isAgg124
  z167 := Tryd.sizeOf124
  v167 := Tryd.zeroValue124
  t175 := Tryd.underlying131
  a175 := Tryd.isAgg131
  z175 := Tryd.sizeOf131
  v175 := Tryd.zeroValue131 }
open Go.RowKit in
/-- internal/strconv.Atoi, at a decimal numeral of at most 18 bytes: ITS VALUE, AND NO ERROR. The world behind the call: the one new row that '[]byte(s)' lays. (LAID: no walk: one application.) -/
theorem Tryd.internal_strconv_Atoi (s : ByteArray) (n : Int) (hl : s.size ≤ 18) (h : Lib.atoi s.data.toList = some n) (w : World) :
    Calls Tryd.prog 70 #[.string s] w fun e w' => e = .returned (.tuple #[.int .i64 n, .nilIface]) ∧ ∃ t, w' = Lib.bytesWorld w 5 t := Any.internal_strconv_Atoi Tryd.lays244 s n hl h w
def Tryd.lays172_ren : Go.Shelf.Ren := ⟨fun | 172 => 57 | 244 => 70 | 245 => 71 | 247 => 81 | 279 => 82 | 280 => 83 | 281 => 84 | 282 => 85 | 287 => 89 | 316 => 90 | 171 => 33 | 205 => 91 | 321 => 92 | 322 => 93 | 243 => 45 | 246 => 53 | 283 => 59 | 284 => 60 | 285 => 61 | 286 => 62 | 129 => 73 | 317 => 72 | 318 => 74 | 319 => 75 | 320 => 76 | 337 => 86 | 338 => 87 | n => n, fun | 9 => 9 | 3 => 3 | 75 => 73 | 76 => 74 | 4 => 4 | 5 => 5 | 167 => 124 | 37 => 43 | 0 => 0 | 85 => 125 | 2 => 2 | 168 => 127 | 53 => 104 | 175 => 131 | 46 => 88 | 210 => 135 | 127 => 91 | 145 => 146 | 143 => 144 | 21 => 21 | 171 => 103 | 173 => 107 | 212 => 114 | 51 => 115 | 20 => 20 | 213 => 116 | 232 => 137 | 233 => 138 | 80 => 78 | n => n, fun | 15 => 2 | 16 => 3 | 17 => 1 | 18 => 4 | 19 => 5 | n => n⟩
theorem Tryd.lays172 : Go.Proofs.Lays.n172 Tryd.prog Tryd.lays172_ren := {
  mixed := by kernel_rfl
  f129 := Tryd.func73.trans (congrArg some (by kernel_rfl))
  f171 := Tryd.func33.trans (congrArg some (by kernel_rfl))
  f172 := Tryd.func57.trans (congrArg some (by kernel_rfl))
  f205 := Tryd.func91.trans (congrArg some (by kernel_rfl))
  f243 := Tryd.func45.trans (congrArg some (by kernel_rfl))
  f244 := Tryd.func70.trans (congrArg some (by kernel_rfl))
  f245 := Tryd.func71.trans (congrArg some (by kernel_rfl))
  f246 := Tryd.func53.trans (congrArg some (by kernel_rfl))
  f247 := Tryd.func81.trans (congrArg some (by kernel_rfl))
  f279 := Tryd.func82.trans (congrArg some (by kernel_rfl))
  f280 := Tryd.func83.trans (congrArg some (by kernel_rfl))
  f281 := Tryd.func84.trans (congrArg some (by kernel_rfl))
  f282 := Tryd.func85.trans (congrArg some (by kernel_rfl))
  f283 := Tryd.func59.trans (congrArg some (by kernel_rfl))
  f284 := Tryd.func60.trans (congrArg some (by kernel_rfl))
  f285 := Tryd.func61.trans (congrArg some (by kernel_rfl))
  f286 := Tryd.func62.trans (congrArg some (by kernel_rfl))
  f287 := Tryd.func89.trans (congrArg some (by kernel_rfl))
  f316 := Tryd.func90.trans (congrArg some (by kernel_rfl))
  f317 := Tryd.func72.trans (congrArg some (by kernel_rfl))
  f318 := Tryd.func74.trans (congrArg some (by kernel_rfl))
  f319 := Tryd.func75.trans (congrArg some (by kernel_rfl))
  f320 := Tryd.func76.trans (congrArg some (by kernel_rfl))
  f321 := Tryd.func92.trans (congrArg some (by kernel_rfl))
  f322 := Tryd.func93.trans (congrArg some (by kernel_rfl))
  f337 := Tryd.func86.trans (congrArg some (by kernel_rfl))
  f338 := Tryd.func87.trans (congrArg some (by kernel_rfl))
  t0 := Tryd.underlying0
  a0 := Tryd.isAgg0
  z0 := Tryd.sizeOf0
  v0 := Tryd.zeroValue0
  t2 := Tryd.underlying2
  a2 := Tryd.isAgg2
  z2 := Tryd.sizeOf2
  v2 := Tryd.zeroValue2
  t3 := Tryd.underlying3
  a3 := Tryd.isAgg3
  z3 := Tryd.sizeOf3
  v3 := Tryd.zeroValue3
  t4 := Tryd.underlying4
  a4 := Tryd.isAgg4
  z4 := Tryd.sizeOf4
  v4 := Tryd.zeroValue4
  t5 := Tryd.underlying5
  a5 := Tryd.isAgg5
  z5 := Tryd.sizeOf5
  v5 := Tryd.zeroValue5
  t9 := Tryd.underlying9
  a9 := Tryd.isAgg9
  z9 := Tryd.sizeOf9
  v9 := Tryd.zeroValue9
  t20 := Tryd.underlying20
  a20 := Tryd.isAgg20
  z20 := Tryd.sizeOf20
  v20 := Tryd.zeroValue20
  t21 := Tryd.underlying21
  a21 := Tryd.isAgg21
  z21 := Tryd.sizeOf21
  v21 := Tryd.zeroValue21
  t37 := Tryd.underlying43
  a37 := Tryd.isAgg43
  z37 := Tryd.sizeOf43
  v37 := Tryd.zeroValue43
  t46 := Tryd.underlying88
  a46 := Tryd.isAgg88
  z46 := Tryd.sizeOf88
  v46 := Tryd.zeroValue88
  t51 := Tryd.underlying115
  a51 := Tryd.isAgg115
  z51 := Tryd.sizeOf115
  v51 := Tryd.zeroValue115
  t53 := Tryd.underlying104
  a53 := Tryd.isAgg104
  z53 := Tryd.sizeOf104
  v53 := Tryd.zeroValue104
  t75 := Tryd.underlying73
  a75 := Tryd.isAgg73
  z75 := Tryd.sizeOf73
  v75 := Tryd.zeroValue73
  t76 := Tryd.underlying74
  a76 := Tryd.isAgg74
  z76 := Tryd.sizeOf74
  v76 := Tryd.zeroValue74
  t85 := Tryd.underlying125
  a85 := Tryd.isAgg125
  z85 := Tryd.sizeOf125
  v85 := Tryd.zeroValue125
  t127 := Tryd.underlying91
  a127 := Tryd.isAgg91
  z127 := Tryd.sizeOf91
  v127 := Tryd.zeroValue91
  t143 := Tryd.underlying144
  a143 := Tryd.isAgg144
  z143 := Tryd.sizeOf144
  v143 := Tryd.zeroValue144
  t145 := Tryd.underlying146
  a145 := Tryd.isAgg146
  z145 := Tryd.sizeOf146
  v145 := Tryd.zeroValue146
  t167 := Tryd.underlying124
  a167 := Tryd.isAgg124
  z167 := Tryd.sizeOf124
  v167 := Tryd.zeroValue124
  t168 := Tryd.underlying127
  a168 := Tryd.isAgg127
  z168 := Tryd.sizeOf127
  v168 := Tryd.zeroValue127
  t171 := Tryd.underlying103
  a171 := Tryd.isAgg103
  z171 := Tryd.sizeOf103
  v171 := Tryd.zeroValue103
  t173 := Tryd.underlying107
  a173 := Tryd.isAgg107
  z173 := Tryd.sizeOf107
  v173 := Tryd.zeroValue107
  t175 := Tryd.underlying131
  a175 := Tryd.isAgg131
  z175 := Tryd.sizeOf131
  v175 := Tryd.zeroValue131
  t210 := Tryd.underlying135
  a210 := Tryd.isAgg135
  z210 := Tryd.sizeOf135
  v210 := Tryd.zeroValue135
  t212 := Tryd.underlying114
  a212 := Tryd.isAgg114
  z212 := Tryd.sizeOf114
  v212 := Tryd.zeroValue114
  t213 := Tryd.underlying116
  a213 := Tryd.isAgg116
  z213 := Tryd.sizeOf116
  t232 := Tryd.underlying137
  a232 := Tryd.isAgg137
  z232 := Tryd.sizeOf137
  v232 := Tryd.zeroValue137
  t233 := Tryd.underlying138
  a233 := Tryd.isAgg138
  z233 := Tryd.sizeOf138
  v233 := Tryd.zeroValue138
  g15 := by kernel_rfl
  g16 := by kernel_rfl
  g17 := by kernel_rfl
  g18 := by kernel_rfl
  g19 := by kernel_rfl }
open Go.RowKit in
/-- strconv.Atoi: "Atoi is equivalent to ParseInt(s, 10, 0), converted to type int.": AT A DECIMAL NUMERAL OF AT MOST 18 BYTES: its value, and a nil error. The world behind the call: the one new row that the library's '[]byte(s)' lays. (LAID: no walk: one application.) -/
theorem Tryd.strconv_Atoi (s : ByteArray) (n : Int) (hl : s.size ≤ 18) (h : Lib.atoi s.data.toList = some n) (w : World) :
    Calls Tryd.prog 57 #[.string s] w fun e w' => e = .returned (.tuple #[.int .i64 n, .nilIface]) ∧ ∃ t, w' = Lib.bytesWorld w 5 t := Any.strconv_Atoi Tryd.lays172 s n hl h w
def Tryd.lays129_ren : Go.Shelf.Ren := ⟨fun | 129 => 73 | n => n, fun | 53 => 104 | 3 => 3 | 4 => 4 | 46 => 88 | 5 => 5 | 9 => 9 | n => n, fun | n => n⟩
theorem Tryd.lays129 : Go.Proofs.Lays.n129 Tryd.prog Tryd.lays129_ren := {
  mixed := by kernel_rfl
  f129 := Tryd.func73.trans (congrArg some (by kernel_rfl))
  t3 := Tryd.underlying3
  a3 := Tryd.isAgg3
  z3 := Tryd.sizeOf3
  v3 := Tryd.zeroValue3
  t4 := Tryd.underlying4
  a4 := Tryd.isAgg4
  z4 := Tryd.sizeOf4
  v4 := Tryd.zeroValue4
  t5 := Tryd.underlying5
  a5 := Tryd.isAgg5
  z5 := Tryd.sizeOf5
  v5 := Tryd.zeroValue5
  t9 := Tryd.underlying9
  a9 := Tryd.isAgg9
  z9 := Tryd.sizeOf9
  v9 := Tryd.zeroValue9
  t46 := Tryd.underlying88
  a46 := Tryd.isAgg88
  z46 := Tryd.sizeOf88
  v46 := Tryd.zeroValue88
  t53 := Tryd.underlying104
  a53 := Tryd.isAgg104
  z53 := Tryd.sizeOf104
  v53 := Tryd.zeroValue104 }
/-- bits.Len64: "Len64 returns the minimum number of bits required to represent x; the result is 0 for x == 0.": IT RETURNS 'Lib.bitLen x'; the world is as it was. ('h0', 'h1': x is a uint64.) (LAID: no walk: one application.) -/
theorem Tryd.bits_Len64 (x : Int) (w : World) (h0 : 0 ≤ x) (h1 : x ≤ 18446744073709551615) :
    Calls Tryd.prog 73 #[.int .u64 x] w fun e w' => e = .returned (.int .i64 (Lib.bitLen x.toNat)) ∧ w' = w := Any.bits_Len64 Tryd.lays129 x w h0 h1
def Tryd.lays317_ren : Go.Shelf.Ren := ⟨fun | 317 => 72 | n => n, fun | 3 => 3 | 46 => 88 | n => n, fun | n => n⟩
theorem Tryd.lays317 : Go.Proofs.Lays.n317 Tryd.prog Tryd.lays317_ren := {
  mixed := by kernel_rfl
  f317 := Tryd.func72.trans (congrArg some (by kernel_rfl))
  t3 := Tryd.underlying3
  a3 := Tryd.isAgg3
  z3 := Tryd.sizeOf3
  v3 := Tryd.zeroValue3
  t46 := Tryd.underlying88
  a46 := Tryd.isAgg88
  z46 := Tryd.sizeOf88
  v46 := Tryd.zeroValue88 }
open Go.Lib in
/-- internal/strconv.log10Pow2: "log10Pow2(x) returns ⌊log₁₀ 2**x⌋ = ⌊x * log₁₀ 2⌋.": '(x * 78913) >> 18', at an x up to 64 (a length in bits). The world is as it was. (LAID: no walk: one application.) -/
theorem Tryd.internal_strconv_log10Pow2 (x : Nat) (h : x ≤ 64) (w : World) :
    Calls Tryd.prog 72 #[.int .i64 x] w fun e w' => e = .returned (.int .i64 (Lib.l10 x)) ∧ w' = w := Any.internal_strconv_log10Pow2 Tryd.lays317 x h w
def Tryd.lays318_ren : Go.Shelf.Ren := ⟨fun | 318 => 74 | n => n, fun | 3 => 3 | 4 => 4 | n => n, fun | n => n⟩
theorem Tryd.lays318 : Go.Proofs.Lays.n318 Tryd.prog Tryd.lays318_ren := {
  mixed := by kernel_rfl
  f318 := Tryd.func74.trans (congrArg some (by kernel_rfl))
  t3 := Tryd.underlying3
  a3 := Tryd.isAgg3
  z3 := Tryd.sizeOf3
  v3 := Tryd.zeroValue3
  t4 := Tryd.underlying4
  a4 := Tryd.isAgg4
  z4 := Tryd.sizeOf4
  v4 := Tryd.zeroValue4 }
open Go.Lib in
/-- internal/strconv.bool2: "bool2 converts b to an integer: 1 for true, 0 for false." The world is as it was. (LAID: no walk: one application.) -/
theorem Tryd.internal_strconv_bool2_int (b : Bool) (w : World) :
    Calls Tryd.prog 74 #[.bool b] w fun e w' => e = .returned (.int .i64 (if b then 1 else 0)) ∧ w' = w := Any.internal_strconv_bool2_int Tryd.lays318 b w
def Tryd.lays283_ren : Go.Shelf.Ren := ⟨fun | 283 => 59 | n => n, fun | 3 => 3 | 9 => 9 | 4 => 4 | n => n, fun | n => n⟩
theorem Tryd.lays283 : Go.Proofs.Lays.n283 Tryd.prog Tryd.lays283_ren := {
  mixed := by kernel_rfl
  f283 := Tryd.func59.trans (congrArg some (by kernel_rfl))
  t3 := Tryd.underlying3
  a3 := Tryd.isAgg3
  z3 := Tryd.sizeOf3
  v3 := Tryd.zeroValue3
  t4 := Tryd.underlying4
  a4 := Tryd.isAgg4
  z4 := Tryd.sizeOf4
  v4 := Tryd.zeroValue4
  t9 := Tryd.underlying9
  a9 := Tryd.isAgg9
  z9 := Tryd.sizeOf9
  v9 := Tryd.zeroValue9 }
open Go.Lib in
/-- internal/strconv.small: "small returns the string for an i with 0 <= i < nSmalls.": i's decimal numeral. The world is as it was. (LAID: no walk: one application.) -/
theorem Tryd.internal_strconv_small (i : Nat) (h : i < 100) (w : World) :
    Calls Tryd.prog 59 #[.int .i64 i] w fun e w' => e = .returned (.string ⟨(Lib.decDigits i).toArray⟩) ∧ w' = w := Any.internal_strconv_small Tryd.lays283 i h w
def Tryd.laysM284_ren : Go.Shelf.Ren := ⟨fun | 284 => 60 | 129 => 73 | 317 => 72 | 318 => 74 | n => n, fun | 53 => 104 | 3 => 3 | 212 => 114 | 0 => 0 | 4 => 4 | 46 => 88 | 5 => 5 | 9 => 9 | n => n, fun | 17 => 1 | n => n⟩
theorem Tryd.laysM284 : Go.Proofs.LaysM.n284 Tryd.prog Tryd.laysM284_ren := {
  mixed := by kernel_rfl
  f129 := Tryd.func73.trans (congrArg some (by kernel_rfl))
  f284 := Tryd.func60.trans (congrArg some (by kernel_rfl))
  f317 := Tryd.func72.trans (congrArg some (by kernel_rfl))
  f318 := Tryd.func74.trans (congrArg some (by kernel_rfl))
  t0 := Tryd.underlying0
  a0 := Tryd.isAgg0
  z0 := Tryd.sizeOf0
  v0 := Tryd.zeroValue0
  t3 := Tryd.underlying3
  a3 := Tryd.isAgg3
  z3 := Tryd.sizeOf3
  v3 := Tryd.zeroValue3
  t4 := Tryd.underlying4
  a4 := Tryd.isAgg4
  z4 := Tryd.sizeOf4
  v4 := Tryd.zeroValue4
  t5 := Tryd.underlying5
  a5 := Tryd.isAgg5
  z5 := Tryd.sizeOf5
  v5 := Tryd.zeroValue5
  t9 := Tryd.underlying9
  a9 := Tryd.isAgg9
  z9 := Tryd.sizeOf9
  v9 := Tryd.zeroValue9
  t46 := Tryd.underlying88
  a46 := Tryd.isAgg88
  z46 := Tryd.sizeOf88
  v46 := Tryd.zeroValue88
  t53 := Tryd.underlying104
  a53 := Tryd.isAgg104
  z53 := Tryd.sizeOf104
  v53 := Tryd.zeroValue104
  t212 := Tryd.underlying114
  a212 := Tryd.isAgg114
  z212 := Tryd.sizeOf114
  v212 := Tryd.zeroValue114
  g17 := by kernel_rfl
  i0 := by kernel_rfl
  i3 := by kernel_rfl
  i4 := by kernel_rfl
  i5 := by kernel_rfl
  i9 := by kernel_rfl
  i46 := by kernel_rfl
  i53 := by kernel_rfl
  i212 := by kernel_rfl
  m17 := by kernel_rfl }
open Go.Lib in
/-- internal/strconv.numDigits, at a d that is not 0: THE NUMBER OF d's DECIMAL DIGITS. The world is as it was. (LAID: no walk: one application.) -/
theorem Tryd.internal_strconv_numDigits (u : Nat) (h1 : 1 ≤ u) (h2 : u < 18446744073709551616) (w : World) (htab : Lib.TabIs Tryd.prog w "internal/strconv.uint64pow10" .u64 Lib.pow10Tab) :
    Calls Tryd.prog 60 #[.int .u64 u] w fun e w' => e = .returned (.int .i64 (Lib.nDigits u)) ∧ w' = w := Any.internal_strconv_numDigits Tryd.laysM284 u h1 h2 w htab
def Tryd.lays285_ren : Go.Shelf.Ren := ⟨fun | 285 => 61 | n => n, fun | 37 => 43 | 53 => 104 | 3 => 3 | 4 => 4 | 51 => 115 | 9 => 9 | 5 => 5 | 0 => 0 | n => n, fun | n => n⟩
theorem Tryd.lays285 : Go.Proofs.Lays.n285 Tryd.prog Tryd.lays285_ren := {
  mixed := by kernel_rfl
  f285 := Tryd.func61.trans (congrArg some (by kernel_rfl))
  t0 := Tryd.underlying0
  a0 := Tryd.isAgg0
  z0 := Tryd.sizeOf0
  v0 := Tryd.zeroValue0
  t3 := Tryd.underlying3
  a3 := Tryd.isAgg3
  z3 := Tryd.sizeOf3
  v3 := Tryd.zeroValue3
  t4 := Tryd.underlying4
  a4 := Tryd.isAgg4
  z4 := Tryd.sizeOf4
  v4 := Tryd.zeroValue4
  t5 := Tryd.underlying5
  a5 := Tryd.isAgg5
  z5 := Tryd.sizeOf5
  v5 := Tryd.zeroValue5
  t9 := Tryd.underlying9
  a9 := Tryd.isAgg9
  z9 := Tryd.sizeOf9
  v9 := Tryd.zeroValue9
  t37 := Tryd.underlying43
  a37 := Tryd.isAgg43
  z37 := Tryd.sizeOf43
  v37 := Tryd.zeroValue43
  t51 := Tryd.underlying115
  a51 := Tryd.isAgg115
  z51 := Tryd.sizeOf115
  v51 := Tryd.zeroValue115
  t53 := Tryd.underlying104
  a53 := Tryd.isAgg104
  z53 := Tryd.sizeOf104
  v53 := Tryd.zeroValue104 }
open Go.RowKit Go.Sort Go.Lib in
/-- internal/strconv.formatBase10: "formatBase10 formats the decimal representation of u into a. The caller is responsible for ensuring that a is big enough to hold u. If a is too big, leading zeros will be filled in as needed.": THE ROW HOLDS u's DIGITS ('FmtInv .. 0 ..': every place t holds 'dg u (len - 1 - t)'); all else is as it was but for the count of draws. (LAID: no walk: one application.) -/
theorem Tryd.internal_strconv_formatBase10 (blk off cap : Nat) (u : Nat) (d : Array UInt8) (w : World) (hH : Holds (fun (b : UInt8) => Value.int .u8 (b.toNat : Int)) w blk off d) (hu : u < 10 ^ d.size) (hu64 : u < 18446744073709551616) (hsz : d.size < 4611686018427387904) :
    Calls Tryd.prog 61 #[.slice (some ⟨blk, off, none⟩) d.size cap, .int .u64 u] w fun e w' =>
      e = .returned (.tuple #[]) ∧ ∃ (n v' : Nat) (dk : Array UInt8), w' = (putRow (fun (b : UInt8) => Value.int .u8 (b.toNat : Int)) w blk off dk).drewN n ∧ FmtInv d.size u 0 v' dk := Any.internal_strconv_formatBase10 Tryd.lays285 blk off cap u d w hH hu hu64 hsz
def Tryd.laysM246_ren : Go.Shelf.Ren := ⟨fun | 246 => 53 | 283 => 59 | 284 => 60 | 285 => 61 | 286 => 62 | 129 => 73 | 317 => 72 | 318 => 74 | 319 => 75 | 320 => 76 | 337 => 86 | 338 => 87 | n => n, fun | 2 => 2 | 3 => 3 | 9 => 9 | 4 => 4 | 171 => 103 | 0 => 0 | 53 => 104 | 37 => 43 | 5 => 5 | 173 => 107 | 212 => 114 | 51 => 115 | 20 => 20 | 213 => 116 | 46 => 88 | 232 => 137 | 233 => 138 | n => n, fun | 17 => 1 | 18 => 4 | 19 => 5 | n => n⟩
theorem Tryd.laysM246 : Go.Proofs.LaysM.n246 Tryd.prog Tryd.laysM246_ren := {
  mixed := by kernel_rfl
  f129 := Tryd.func73.trans (congrArg some (by kernel_rfl))
  f246 := Tryd.func53.trans (congrArg some (by kernel_rfl))
  f283 := Tryd.func59.trans (congrArg some (by kernel_rfl))
  f284 := Tryd.func60.trans (congrArg some (by kernel_rfl))
  f285 := Tryd.func61.trans (congrArg some (by kernel_rfl))
  f286 := Tryd.func62.trans (congrArg some (by kernel_rfl))
  f317 := Tryd.func72.trans (congrArg some (by kernel_rfl))
  f318 := Tryd.func74.trans (congrArg some (by kernel_rfl))
  f319 := Tryd.func75.trans (congrArg some (by kernel_rfl))
  f320 := Tryd.func76.trans (congrArg some (by kernel_rfl))
  f337 := Tryd.func86.trans (congrArg some (by kernel_rfl))
  f338 := Tryd.func87.trans (congrArg some (by kernel_rfl))
  t0 := Tryd.underlying0
  a0 := Tryd.isAgg0
  z0 := Tryd.sizeOf0
  v0 := Tryd.zeroValue0
  t2 := Tryd.underlying2
  a2 := Tryd.isAgg2
  z2 := Tryd.sizeOf2
  v2 := Tryd.zeroValue2
  t3 := Tryd.underlying3
  a3 := Tryd.isAgg3
  z3 := Tryd.sizeOf3
  v3 := Tryd.zeroValue3
  t4 := Tryd.underlying4
  a4 := Tryd.isAgg4
  z4 := Tryd.sizeOf4
  v4 := Tryd.zeroValue4
  t5 := Tryd.underlying5
  a5 := Tryd.isAgg5
  z5 := Tryd.sizeOf5
  v5 := Tryd.zeroValue5
  t9 := Tryd.underlying9
  a9 := Tryd.isAgg9
  z9 := Tryd.sizeOf9
  v9 := Tryd.zeroValue9
  t20 := Tryd.underlying20
  a20 := Tryd.isAgg20
  z20 := Tryd.sizeOf20
  v20 := Tryd.zeroValue20
  t37 := Tryd.underlying43
  a37 := Tryd.isAgg43
  z37 := Tryd.sizeOf43
  v37 := Tryd.zeroValue43
  t46 := Tryd.underlying88
  a46 := Tryd.isAgg88
  z46 := Tryd.sizeOf88
  v46 := Tryd.zeroValue88
  t51 := Tryd.underlying115
  a51 := Tryd.isAgg115
  z51 := Tryd.sizeOf115
  v51 := Tryd.zeroValue115
  t53 := Tryd.underlying104
  a53 := Tryd.isAgg104
  z53 := Tryd.sizeOf104
  v53 := Tryd.zeroValue104
  t171 := Tryd.underlying103
  a171 := Tryd.isAgg103
  z171 := Tryd.sizeOf103
  v171 := Tryd.zeroValue103
  t173 := Tryd.underlying107
  a173 := Tryd.isAgg107
  z173 := Tryd.sizeOf107
  v173 := Tryd.zeroValue107
  t212 := Tryd.underlying114
  a212 := Tryd.isAgg114
  z212 := Tryd.sizeOf114
  v212 := Tryd.zeroValue114
  t213 := Tryd.underlying116
  a213 := Tryd.isAgg116
  z213 := Tryd.sizeOf116
  t232 := Tryd.underlying137
  a232 := Tryd.isAgg137
  z232 := Tryd.sizeOf137
  v232 := Tryd.zeroValue137
  t233 := Tryd.underlying138
  a233 := Tryd.isAgg138
  z233 := Tryd.sizeOf138
  v233 := Tryd.zeroValue138
  g17 := by kernel_rfl
  g18 := by kernel_rfl
  g19 := by kernel_rfl
  i0 := by kernel_rfl
  i2 := by kernel_rfl
  i3 := by kernel_rfl
  i4 := by kernel_rfl
  i5 := by kernel_rfl
  i9 := by kernel_rfl
  i20 := by kernel_rfl
  i37 := by kernel_rfl
  i46 := by kernel_rfl
  i51 := by kernel_rfl
  i53 := by kernel_rfl
  i171 := by kernel_rfl
  i173 := by kernel_rfl
  i212 := by kernel_rfl
  i232 := by kernel_rfl
  i233 := by kernel_rfl
  m17 := by kernel_rfl
  m18 := by kernel_rfl
  m19 := by kernel_rfl }
open Go.RowKit Go.Sort Go.Lib in
/-- internal/strconv.FormatInt: "FormatInt returns the string representation of i in the given base": AT BASE 10: i's decimal numeral, for every int64. The world behind the call: the world before it, new blocks behind the heap, draws. (LAID: no walk: one application.) -/
theorem Tryd.internal_strconv_FormatInt_10 (n : Int) (h0 : -9223372036854775808 ≤ n) (h1 : n ≤ 9223372036854775807) (w : World) (htab : Lib.TabIs Tryd.prog w "internal/strconv.uint64pow10" .u64 Lib.pow10Tab) :
    Calls Tryd.prog 53 #[.int .i64 n, .int .i64 10] w fun e w' => e = .returned (.string ⟨(Lib.itoa n).toArray⟩) ∧ ∃ k os, w' = grow (w.drewN k) os := Any.internal_strconv_FormatInt_10 Tryd.laysM246 n h0 h1 w htab
def Tryd.lays246_ren : Go.Shelf.Ren := ⟨fun | 246 => 53 | 283 => 59 | 284 => 60 | 285 => 61 | 286 => 62 | 129 => 73 | 317 => 72 | 318 => 74 | 319 => 75 | 320 => 76 | 337 => 86 | 338 => 87 | n => n, fun | 2 => 2 | 3 => 3 | 9 => 9 | 4 => 4 | 171 => 103 | 0 => 0 | 53 => 104 | 37 => 43 | 5 => 5 | 173 => 107 | 212 => 114 | 51 => 115 | 20 => 20 | 213 => 116 | 46 => 88 | 232 => 137 | 233 => 138 | n => n, fun | 17 => 1 | 18 => 4 | 19 => 5 | n => n⟩
theorem Tryd.lays246 : Go.Proofs.Lays.n246 Tryd.prog Tryd.lays246_ren := {
  mixed := by kernel_rfl
  f129 := Tryd.func73.trans (congrArg some (by kernel_rfl))
  f246 := Tryd.func53.trans (congrArg some (by kernel_rfl))
  f283 := Tryd.func59.trans (congrArg some (by kernel_rfl))
  f284 := Tryd.func60.trans (congrArg some (by kernel_rfl))
  f285 := Tryd.func61.trans (congrArg some (by kernel_rfl))
  f286 := Tryd.func62.trans (congrArg some (by kernel_rfl))
  f317 := Tryd.func72.trans (congrArg some (by kernel_rfl))
  f318 := Tryd.func74.trans (congrArg some (by kernel_rfl))
  f319 := Tryd.func75.trans (congrArg some (by kernel_rfl))
  f320 := Tryd.func76.trans (congrArg some (by kernel_rfl))
  f337 := Tryd.func86.trans (congrArg some (by kernel_rfl))
  f338 := Tryd.func87.trans (congrArg some (by kernel_rfl))
  t0 := Tryd.underlying0
  a0 := Tryd.isAgg0
  z0 := Tryd.sizeOf0
  v0 := Tryd.zeroValue0
  t2 := Tryd.underlying2
  a2 := Tryd.isAgg2
  z2 := Tryd.sizeOf2
  v2 := Tryd.zeroValue2
  t3 := Tryd.underlying3
  a3 := Tryd.isAgg3
  z3 := Tryd.sizeOf3
  v3 := Tryd.zeroValue3
  t4 := Tryd.underlying4
  a4 := Tryd.isAgg4
  z4 := Tryd.sizeOf4
  v4 := Tryd.zeroValue4
  t5 := Tryd.underlying5
  a5 := Tryd.isAgg5
  z5 := Tryd.sizeOf5
  v5 := Tryd.zeroValue5
  t9 := Tryd.underlying9
  a9 := Tryd.isAgg9
  z9 := Tryd.sizeOf9
  v9 := Tryd.zeroValue9
  t20 := Tryd.underlying20
  a20 := Tryd.isAgg20
  z20 := Tryd.sizeOf20
  v20 := Tryd.zeroValue20
  t37 := Tryd.underlying43
  a37 := Tryd.isAgg43
  z37 := Tryd.sizeOf43
  v37 := Tryd.zeroValue43
  t46 := Tryd.underlying88
  a46 := Tryd.isAgg88
  z46 := Tryd.sizeOf88
  v46 := Tryd.zeroValue88
  t51 := Tryd.underlying115
  a51 := Tryd.isAgg115
  z51 := Tryd.sizeOf115
  v51 := Tryd.zeroValue115
  t53 := Tryd.underlying104
  a53 := Tryd.isAgg104
  z53 := Tryd.sizeOf104
  v53 := Tryd.zeroValue104
  t171 := Tryd.underlying103
  a171 := Tryd.isAgg103
  z171 := Tryd.sizeOf103
  v171 := Tryd.zeroValue103
  t173 := Tryd.underlying107
  a173 := Tryd.isAgg107
  z173 := Tryd.sizeOf107
  v173 := Tryd.zeroValue107
  t212 := Tryd.underlying114
  a212 := Tryd.isAgg114
  z212 := Tryd.sizeOf114
  v212 := Tryd.zeroValue114
  t213 := Tryd.underlying116
  a213 := Tryd.isAgg116
  z213 := Tryd.sizeOf116
  t232 := Tryd.underlying137
  a232 := Tryd.isAgg137
  z232 := Tryd.sizeOf137
  v232 := Tryd.zeroValue137
  t233 := Tryd.underlying138
  a233 := Tryd.isAgg138
  z233 := Tryd.sizeOf138
  v233 := Tryd.zeroValue138
  g17 := by kernel_rfl
  g18 := by kernel_rfl
  g19 := by kernel_rfl }
open Go.RowKit Go.Sort Go.Lib in
/-- THE ROAD WITHOUT THE TABLE: 0 <= i < 100: two constants are read, nothing is laid: no premise on the world, and the world is as it was. (LAID: no walk: one application.) -/
theorem Tryd.internal_strconv_FormatInt_10_small (i : Nat) (hi : i < 100) (w : World) :
    Calls Tryd.prog 53 #[.int .i64 i, .int .i64 10] w fun e w' => e = .returned (.string ⟨(Lib.decDigits i).toArray⟩) ∧ w' = w := Any.internal_strconv_FormatInt_10_small Tryd.lays246 i hi w
def Tryd.laysM243_ren : Go.Shelf.Ren := ⟨fun | 243 => 45 | 246 => 53 | 283 => 59 | 284 => 60 | 285 => 61 | 286 => 62 | 129 => 73 | 317 => 72 | 318 => 74 | 319 => 75 | 320 => 76 | 337 => 86 | 338 => 87 | n => n, fun | 3 => 3 | 9 => 9 | 2 => 2 | 4 => 4 | 171 => 103 | 0 => 0 | 53 => 104 | 37 => 43 | 5 => 5 | 173 => 107 | 212 => 114 | 51 => 115 | 20 => 20 | 213 => 116 | 46 => 88 | 232 => 137 | 233 => 138 | n => n, fun | 17 => 1 | 18 => 4 | 19 => 5 | n => n⟩
theorem Tryd.laysM243 : Go.Proofs.LaysM.n243 Tryd.prog Tryd.laysM243_ren := {
  mixed := by kernel_rfl
  f129 := Tryd.func73.trans (congrArg some (by kernel_rfl))
  f243 := Tryd.func45.trans (congrArg some (by kernel_rfl))
  f246 := Tryd.func53.trans (congrArg some (by kernel_rfl))
  f283 := Tryd.func59.trans (congrArg some (by kernel_rfl))
  f284 := Tryd.func60.trans (congrArg some (by kernel_rfl))
  f285 := Tryd.func61.trans (congrArg some (by kernel_rfl))
  f286 := Tryd.func62.trans (congrArg some (by kernel_rfl))
  f317 := Tryd.func72.trans (congrArg some (by kernel_rfl))
  f318 := Tryd.func74.trans (congrArg some (by kernel_rfl))
  f319 := Tryd.func75.trans (congrArg some (by kernel_rfl))
  f320 := Tryd.func76.trans (congrArg some (by kernel_rfl))
  f337 := Tryd.func86.trans (congrArg some (by kernel_rfl))
  f338 := Tryd.func87.trans (congrArg some (by kernel_rfl))
  t0 := Tryd.underlying0
  a0 := Tryd.isAgg0
  z0 := Tryd.sizeOf0
  v0 := Tryd.zeroValue0
  t2 := Tryd.underlying2
  a2 := Tryd.isAgg2
  z2 := Tryd.sizeOf2
  v2 := Tryd.zeroValue2
  t3 := Tryd.underlying3
  a3 := Tryd.isAgg3
  z3 := Tryd.sizeOf3
  v3 := Tryd.zeroValue3
  t4 := Tryd.underlying4
  a4 := Tryd.isAgg4
  z4 := Tryd.sizeOf4
  v4 := Tryd.zeroValue4
  t5 := Tryd.underlying5
  a5 := Tryd.isAgg5
  z5 := Tryd.sizeOf5
  v5 := Tryd.zeroValue5
  t9 := Tryd.underlying9
  a9 := Tryd.isAgg9
  z9 := Tryd.sizeOf9
  v9 := Tryd.zeroValue9
  t20 := Tryd.underlying20
  a20 := Tryd.isAgg20
  z20 := Tryd.sizeOf20
  v20 := Tryd.zeroValue20
  t37 := Tryd.underlying43
  a37 := Tryd.isAgg43
  z37 := Tryd.sizeOf43
  v37 := Tryd.zeroValue43
  t46 := Tryd.underlying88
  a46 := Tryd.isAgg88
  z46 := Tryd.sizeOf88
  v46 := Tryd.zeroValue88
  t51 := Tryd.underlying115
  a51 := Tryd.isAgg115
  z51 := Tryd.sizeOf115
  v51 := Tryd.zeroValue115
  t53 := Tryd.underlying104
  a53 := Tryd.isAgg104
  z53 := Tryd.sizeOf104
  v53 := Tryd.zeroValue104
  t171 := Tryd.underlying103
  a171 := Tryd.isAgg103
  z171 := Tryd.sizeOf103
  v171 := Tryd.zeroValue103
  t173 := Tryd.underlying107
  a173 := Tryd.isAgg107
  z173 := Tryd.sizeOf107
  v173 := Tryd.zeroValue107
  t212 := Tryd.underlying114
  a212 := Tryd.isAgg114
  z212 := Tryd.sizeOf114
  v212 := Tryd.zeroValue114
  t213 := Tryd.underlying116
  a213 := Tryd.isAgg116
  z213 := Tryd.sizeOf116
  t232 := Tryd.underlying137
  a232 := Tryd.isAgg137
  z232 := Tryd.sizeOf137
  v232 := Tryd.zeroValue137
  t233 := Tryd.underlying138
  a233 := Tryd.isAgg138
  z233 := Tryd.sizeOf138
  v233 := Tryd.zeroValue138
  g17 := by kernel_rfl
  g18 := by kernel_rfl
  g19 := by kernel_rfl
  i0 := by kernel_rfl
  i2 := by kernel_rfl
  i3 := by kernel_rfl
  i4 := by kernel_rfl
  i5 := by kernel_rfl
  i9 := by kernel_rfl
  i20 := by kernel_rfl
  i37 := by kernel_rfl
  i46 := by kernel_rfl
  i51 := by kernel_rfl
  i53 := by kernel_rfl
  i171 := by kernel_rfl
  i173 := by kernel_rfl
  i212 := by kernel_rfl
  i232 := by kernel_rfl
  i233 := by kernel_rfl
  m17 := by kernel_rfl
  m18 := by kernel_rfl
  m19 := by kernel_rfl }
open Go.RowKit Go.Sort Go.Lib in
/-- internal/strconv.Itoa: "Itoa is equivalent to FormatInt(int64(i), 10).": i's decimal numeral, for every int. (LAID: no walk: one application.) -/
theorem Tryd.internal_strconv_Itoa (n : Int) (h0 : -9223372036854775808 ≤ n) (h1 : n ≤ 9223372036854775807) (w : World) (htab : Lib.TabIs Tryd.prog w "internal/strconv.uint64pow10" .u64 Lib.pow10Tab) :
    Calls Tryd.prog 45 #[.int .i64 n] w fun e w' => e = .returned (.string ⟨(Lib.itoa n).toArray⟩) ∧ ∃ k os, w' = grow (w.drewN k) os := Any.internal_strconv_Itoa Tryd.laysM243 n h0 h1 w htab
def Tryd.lays243_ren : Go.Shelf.Ren := ⟨fun | 243 => 45 | 246 => 53 | 283 => 59 | 284 => 60 | 285 => 61 | 286 => 62 | 129 => 73 | 317 => 72 | 318 => 74 | 319 => 75 | 320 => 76 | 337 => 86 | 338 => 87 | n => n, fun | 3 => 3 | 9 => 9 | 2 => 2 | 4 => 4 | 171 => 103 | 0 => 0 | 53 => 104 | 37 => 43 | 5 => 5 | 173 => 107 | 212 => 114 | 51 => 115 | 20 => 20 | 213 => 116 | 46 => 88 | 232 => 137 | 233 => 138 | n => n, fun | 17 => 1 | 18 => 4 | 19 => 5 | n => n⟩
theorem Tryd.lays243 : Go.Proofs.Lays.n243 Tryd.prog Tryd.lays243_ren := {
  mixed := by kernel_rfl
  f129 := Tryd.func73.trans (congrArg some (by kernel_rfl))
  f243 := Tryd.func45.trans (congrArg some (by kernel_rfl))
  f246 := Tryd.func53.trans (congrArg some (by kernel_rfl))
  f283 := Tryd.func59.trans (congrArg some (by kernel_rfl))
  f284 := Tryd.func60.trans (congrArg some (by kernel_rfl))
  f285 := Tryd.func61.trans (congrArg some (by kernel_rfl))
  f286 := Tryd.func62.trans (congrArg some (by kernel_rfl))
  f317 := Tryd.func72.trans (congrArg some (by kernel_rfl))
  f318 := Tryd.func74.trans (congrArg some (by kernel_rfl))
  f319 := Tryd.func75.trans (congrArg some (by kernel_rfl))
  f320 := Tryd.func76.trans (congrArg some (by kernel_rfl))
  f337 := Tryd.func86.trans (congrArg some (by kernel_rfl))
  f338 := Tryd.func87.trans (congrArg some (by kernel_rfl))
  t0 := Tryd.underlying0
  a0 := Tryd.isAgg0
  z0 := Tryd.sizeOf0
  v0 := Tryd.zeroValue0
  t2 := Tryd.underlying2
  a2 := Tryd.isAgg2
  z2 := Tryd.sizeOf2
  v2 := Tryd.zeroValue2
  t3 := Tryd.underlying3
  a3 := Tryd.isAgg3
  z3 := Tryd.sizeOf3
  v3 := Tryd.zeroValue3
  t4 := Tryd.underlying4
  a4 := Tryd.isAgg4
  z4 := Tryd.sizeOf4
  v4 := Tryd.zeroValue4
  t5 := Tryd.underlying5
  a5 := Tryd.isAgg5
  z5 := Tryd.sizeOf5
  v5 := Tryd.zeroValue5
  t9 := Tryd.underlying9
  a9 := Tryd.isAgg9
  z9 := Tryd.sizeOf9
  v9 := Tryd.zeroValue9
  t20 := Tryd.underlying20
  a20 := Tryd.isAgg20
  z20 := Tryd.sizeOf20
  v20 := Tryd.zeroValue20
  t37 := Tryd.underlying43
  a37 := Tryd.isAgg43
  z37 := Tryd.sizeOf43
  v37 := Tryd.zeroValue43
  t46 := Tryd.underlying88
  a46 := Tryd.isAgg88
  z46 := Tryd.sizeOf88
  v46 := Tryd.zeroValue88
  t51 := Tryd.underlying115
  a51 := Tryd.isAgg115
  z51 := Tryd.sizeOf115
  v51 := Tryd.zeroValue115
  t53 := Tryd.underlying104
  a53 := Tryd.isAgg104
  z53 := Tryd.sizeOf104
  v53 := Tryd.zeroValue104
  t171 := Tryd.underlying103
  a171 := Tryd.isAgg103
  z171 := Tryd.sizeOf103
  v171 := Tryd.zeroValue103
  t173 := Tryd.underlying107
  a173 := Tryd.isAgg107
  z173 := Tryd.sizeOf107
  v173 := Tryd.zeroValue107
  t212 := Tryd.underlying114
  a212 := Tryd.isAgg114
  z212 := Tryd.sizeOf114
  v212 := Tryd.zeroValue114
  t213 := Tryd.underlying116
  a213 := Tryd.isAgg116
  z213 := Tryd.sizeOf116
  t232 := Tryd.underlying137
  a232 := Tryd.isAgg137
  z232 := Tryd.sizeOf137
  v232 := Tryd.zeroValue137
  t233 := Tryd.underlying138
  a233 := Tryd.isAgg138
  z233 := Tryd.sizeOf138
  v233 := Tryd.zeroValue138
  g17 := by kernel_rfl
  g18 := by kernel_rfl
  g19 := by kernel_rfl }
open Go.RowKit Go.Sort Go.Lib in
/-- THE ROAD WITHOUT THE TABLE: 0 <= i < 100. (LAID: no walk: one application.) -/
theorem Tryd.internal_strconv_Itoa_small (i : Nat) (hi : i < 100) (w : World) :
    Calls Tryd.prog 45 #[.int .i64 i] w fun e w' => e = .returned (.string ⟨(Lib.decDigits i).toArray⟩) ∧ w' = w := Any.internal_strconv_Itoa_small Tryd.lays243 i hi w
def Tryd.laysM171_ren : Go.Shelf.Ren := ⟨fun | 171 => 33 | 243 => 45 | 246 => 53 | 283 => 59 | 284 => 60 | 285 => 61 | 286 => 62 | 129 => 73 | 317 => 72 | 318 => 74 | 319 => 75 | 320 => 76 | 337 => 86 | 338 => 87 | n => n, fun | 3 => 3 | 9 => 9 | 2 => 2 | 4 => 4 | 171 => 103 | 0 => 0 | 53 => 104 | 37 => 43 | 5 => 5 | 173 => 107 | 212 => 114 | 51 => 115 | 20 => 20 | 213 => 116 | 46 => 88 | 232 => 137 | 233 => 138 | n => n, fun | 17 => 1 | 18 => 4 | 19 => 5 | n => n⟩
theorem Tryd.laysM171 : Go.Proofs.LaysM.n171 Tryd.prog Tryd.laysM171_ren := {
  mixed := by kernel_rfl
  f129 := Tryd.func73.trans (congrArg some (by kernel_rfl))
  f171 := Tryd.func33.trans (congrArg some (by kernel_rfl))
  f243 := Tryd.func45.trans (congrArg some (by kernel_rfl))
  f246 := Tryd.func53.trans (congrArg some (by kernel_rfl))
  f283 := Tryd.func59.trans (congrArg some (by kernel_rfl))
  f284 := Tryd.func60.trans (congrArg some (by kernel_rfl))
  f285 := Tryd.func61.trans (congrArg some (by kernel_rfl))
  f286 := Tryd.func62.trans (congrArg some (by kernel_rfl))
  f317 := Tryd.func72.trans (congrArg some (by kernel_rfl))
  f318 := Tryd.func74.trans (congrArg some (by kernel_rfl))
  f319 := Tryd.func75.trans (congrArg some (by kernel_rfl))
  f320 := Tryd.func76.trans (congrArg some (by kernel_rfl))
  f337 := Tryd.func86.trans (congrArg some (by kernel_rfl))
  f338 := Tryd.func87.trans (congrArg some (by kernel_rfl))
  t0 := Tryd.underlying0
  a0 := Tryd.isAgg0
  z0 := Tryd.sizeOf0
  v0 := Tryd.zeroValue0
  t2 := Tryd.underlying2
  a2 := Tryd.isAgg2
  z2 := Tryd.sizeOf2
  v2 := Tryd.zeroValue2
  t3 := Tryd.underlying3
  a3 := Tryd.isAgg3
  z3 := Tryd.sizeOf3
  v3 := Tryd.zeroValue3
  t4 := Tryd.underlying4
  a4 := Tryd.isAgg4
  z4 := Tryd.sizeOf4
  v4 := Tryd.zeroValue4
  t5 := Tryd.underlying5
  a5 := Tryd.isAgg5
  z5 := Tryd.sizeOf5
  v5 := Tryd.zeroValue5
  t9 := Tryd.underlying9
  a9 := Tryd.isAgg9
  z9 := Tryd.sizeOf9
  v9 := Tryd.zeroValue9
  t20 := Tryd.underlying20
  a20 := Tryd.isAgg20
  z20 := Tryd.sizeOf20
  v20 := Tryd.zeroValue20
  t37 := Tryd.underlying43
  a37 := Tryd.isAgg43
  z37 := Tryd.sizeOf43
  v37 := Tryd.zeroValue43
  t46 := Tryd.underlying88
  a46 := Tryd.isAgg88
  z46 := Tryd.sizeOf88
  v46 := Tryd.zeroValue88
  t51 := Tryd.underlying115
  a51 := Tryd.isAgg115
  z51 := Tryd.sizeOf115
  v51 := Tryd.zeroValue115
  t53 := Tryd.underlying104
  a53 := Tryd.isAgg104
  z53 := Tryd.sizeOf104
  v53 := Tryd.zeroValue104
  t171 := Tryd.underlying103
  a171 := Tryd.isAgg103
  z171 := Tryd.sizeOf103
  v171 := Tryd.zeroValue103
  t173 := Tryd.underlying107
  a173 := Tryd.isAgg107
  z173 := Tryd.sizeOf107
  v173 := Tryd.zeroValue107
  t212 := Tryd.underlying114
  a212 := Tryd.isAgg114
  z212 := Tryd.sizeOf114
  v212 := Tryd.zeroValue114
  t213 := Tryd.underlying116
  a213 := Tryd.isAgg116
  z213 := Tryd.sizeOf116
  t232 := Tryd.underlying137
  a232 := Tryd.isAgg137
  z232 := Tryd.sizeOf137
  v232 := Tryd.zeroValue137
  t233 := Tryd.underlying138
  a233 := Tryd.isAgg138
  z233 := Tryd.sizeOf138
  v233 := Tryd.zeroValue138
  g17 := by kernel_rfl
  g18 := by kernel_rfl
  g19 := by kernel_rfl
  i0 := by kernel_rfl
  i2 := by kernel_rfl
  i3 := by kernel_rfl
  i4 := by kernel_rfl
  i5 := by kernel_rfl
  i9 := by kernel_rfl
  i20 := by kernel_rfl
  i37 := by kernel_rfl
  i46 := by kernel_rfl
  i51 := by kernel_rfl
  i53 := by kernel_rfl
  i171 := by kernel_rfl
  i173 := by kernel_rfl
  i212 := by kernel_rfl
  i232 := by kernel_rfl
  i233 := by kernel_rfl
  m17 := by kernel_rfl
  m18 := by kernel_rfl
  m19 := by kernel_rfl }
open Go.RowKit Go.Sort Go.Lib in
/-- strconv.Itoa: "Itoa is equivalent to FormatInt(int64(i), 10).": i's DECIMAL NUMERAL ('Lib.itoa': a '-' where i is negative, then the digits), FOR EVERY int. The world behind the call: the world before it, new blocks behind the heap (the library's 'var a [24]byte'), draws. (LAID: no walk: one application.) -/
theorem Tryd.strconv_Itoa (n : Int) (h0 : -9223372036854775808 ≤ n) (h1 : n ≤ 9223372036854775807) (w : World) (htab : Lib.TabIs Tryd.prog w "internal/strconv.uint64pow10" .u64 Lib.pow10Tab) :
    Calls Tryd.prog 33 #[.int .i64 n] w fun e w' => e = .returned (.string ⟨(Lib.itoa n).toArray⟩) ∧ ∃ k os, w' = grow (w.drewN k) os := Any.strconv_Itoa Tryd.laysM171 n h0 h1 w htab
def Tryd.lays171_ren : Go.Shelf.Ren := ⟨fun | 171 => 33 | 243 => 45 | 246 => 53 | 283 => 59 | 284 => 60 | 285 => 61 | 286 => 62 | 129 => 73 | 317 => 72 | 318 => 74 | 319 => 75 | 320 => 76 | 337 => 86 | 338 => 87 | n => n, fun | 3 => 3 | 9 => 9 | 2 => 2 | 4 => 4 | 171 => 103 | 0 => 0 | 53 => 104 | 37 => 43 | 5 => 5 | 173 => 107 | 212 => 114 | 51 => 115 | 20 => 20 | 213 => 116 | 46 => 88 | 232 => 137 | 233 => 138 | n => n, fun | 17 => 1 | 18 => 4 | 19 => 5 | n => n⟩
theorem Tryd.lays171 : Go.Proofs.Lays.n171 Tryd.prog Tryd.lays171_ren := {
  mixed := by kernel_rfl
  f129 := Tryd.func73.trans (congrArg some (by kernel_rfl))
  f171 := Tryd.func33.trans (congrArg some (by kernel_rfl))
  f243 := Tryd.func45.trans (congrArg some (by kernel_rfl))
  f246 := Tryd.func53.trans (congrArg some (by kernel_rfl))
  f283 := Tryd.func59.trans (congrArg some (by kernel_rfl))
  f284 := Tryd.func60.trans (congrArg some (by kernel_rfl))
  f285 := Tryd.func61.trans (congrArg some (by kernel_rfl))
  f286 := Tryd.func62.trans (congrArg some (by kernel_rfl))
  f317 := Tryd.func72.trans (congrArg some (by kernel_rfl))
  f318 := Tryd.func74.trans (congrArg some (by kernel_rfl))
  f319 := Tryd.func75.trans (congrArg some (by kernel_rfl))
  f320 := Tryd.func76.trans (congrArg some (by kernel_rfl))
  f337 := Tryd.func86.trans (congrArg some (by kernel_rfl))
  f338 := Tryd.func87.trans (congrArg some (by kernel_rfl))
  t0 := Tryd.underlying0
  a0 := Tryd.isAgg0
  z0 := Tryd.sizeOf0
  v0 := Tryd.zeroValue0
  t2 := Tryd.underlying2
  a2 := Tryd.isAgg2
  z2 := Tryd.sizeOf2
  v2 := Tryd.zeroValue2
  t3 := Tryd.underlying3
  a3 := Tryd.isAgg3
  z3 := Tryd.sizeOf3
  v3 := Tryd.zeroValue3
  t4 := Tryd.underlying4
  a4 := Tryd.isAgg4
  z4 := Tryd.sizeOf4
  v4 := Tryd.zeroValue4
  t5 := Tryd.underlying5
  a5 := Tryd.isAgg5
  z5 := Tryd.sizeOf5
  v5 := Tryd.zeroValue5
  t9 := Tryd.underlying9
  a9 := Tryd.isAgg9
  z9 := Tryd.sizeOf9
  v9 := Tryd.zeroValue9
  t20 := Tryd.underlying20
  a20 := Tryd.isAgg20
  z20 := Tryd.sizeOf20
  v20 := Tryd.zeroValue20
  t37 := Tryd.underlying43
  a37 := Tryd.isAgg43
  z37 := Tryd.sizeOf43
  v37 := Tryd.zeroValue43
  t46 := Tryd.underlying88
  a46 := Tryd.isAgg88
  z46 := Tryd.sizeOf88
  v46 := Tryd.zeroValue88
  t51 := Tryd.underlying115
  a51 := Tryd.isAgg115
  z51 := Tryd.sizeOf115
  v51 := Tryd.zeroValue115
  t53 := Tryd.underlying104
  a53 := Tryd.isAgg104
  z53 := Tryd.sizeOf104
  v53 := Tryd.zeroValue104
  t171 := Tryd.underlying103
  a171 := Tryd.isAgg103
  z171 := Tryd.sizeOf103
  v171 := Tryd.zeroValue103
  t173 := Tryd.underlying107
  a173 := Tryd.isAgg107
  z173 := Tryd.sizeOf107
  v173 := Tryd.zeroValue107
  t212 := Tryd.underlying114
  a212 := Tryd.isAgg114
  z212 := Tryd.sizeOf114
  v212 := Tryd.zeroValue114
  t213 := Tryd.underlying116
  a213 := Tryd.isAgg116
  z213 := Tryd.sizeOf116
  t232 := Tryd.underlying137
  a232 := Tryd.isAgg137
  z232 := Tryd.sizeOf137
  v232 := Tryd.zeroValue137
  t233 := Tryd.underlying138
  a233 := Tryd.isAgg138
  z233 := Tryd.sizeOf138
  v233 := Tryd.zeroValue138
  g17 := by kernel_rfl
  g18 := by kernel_rfl
  g19 := by kernel_rfl }
open Go.RowKit Go.Sort Go.Lib in
/-- THE ROAD WITHOUT THE TABLE: 0 <= i < 100: NO PREMISE ON THE WORLD, AND THE WORLD IS AS IT WAS: a row that keeps its argument in that range need list no table ('laid = []'). (LAID: no walk: one application.) -/
theorem Tryd.strconv_Itoa_small (i : Nat) (hi : i < 100) (w : World) :
    Calls Tryd.prog 33 #[.int .i64 i] w fun e w' => e = .returned (.string ⟨(Lib.decDigits i).toArray⟩) ∧ w' = w := Any.strconv_Itoa_small Tryd.lays171 i hi w
open Go.RowKit in
/-- internal/strconv.Atoi, at a string of 1 to 18 bytes THAT IS NO DECIMAL NUMERAL: 0, AND ErrSyntax (the package's own error number 2). The world behind the call: as it was, or with the one new row that '[]byte(s)' lays. (LAID: no walk: one application.) -/
theorem Tryd.internal_strconv_Atoi_err (s : ByteArray) (hl0 : 1 ≤ s.size) (hl : s.size ≤ 18) (h : Lib.atoi s.data.toList = none) (w : World) :
    Calls Tryd.prog 70 #[.string s] w fun e w' => e = .returned (.tuple #[.int .i64 0, (.iface 124 (.int .i64 2))]) ∧ (w' = w ∨ ∃ t, w' = Lib.bytesWorld w 5 t) := Any.internal_strconv_Atoi_err Tryd.lays244 s hl0 hl h w
def Tryd.lays247_ren : Go.Shelf.Ren := ⟨fun | 247 => 81 | 287 => 89 | 321 => 92 | 322 => 93 | n => n, fun | 9 => 9 | 3 => 3 | 2 => 2 | 75 => 73 | 4 => 4 | 167 => 124 | 5 => 5 | 53 => 104 | 175 => 131 | 46 => 88 | 37 => 43 | 0 => 0 | 21 => 21 | 80 => 78 | n => n, fun | n => n⟩
theorem Tryd.lays247 : Go.Proofs.Lays.n247 Tryd.prog Tryd.lays247_ren := {
  mixed := by kernel_rfl
  f247 := Tryd.func81.trans (congrArg some (by kernel_rfl))
  f287 := Tryd.func89.trans (congrArg some (by kernel_rfl))
  f321 := Tryd.func92.trans (congrArg some (by kernel_rfl))
  f322 := Tryd.func93.trans (congrArg some (by kernel_rfl))
  t0 := Tryd.underlying0
  a0 := Tryd.isAgg0
  z0 := Tryd.sizeOf0
  v0 := Tryd.zeroValue0
  t2 := Tryd.underlying2
  a2 := Tryd.isAgg2
  z2 := Tryd.sizeOf2
  v2 := Tryd.zeroValue2
  t3 := Tryd.underlying3
  a3 := Tryd.isAgg3
  z3 := Tryd.sizeOf3
  v3 := Tryd.zeroValue3
  t4 := Tryd.underlying4
  a4 := Tryd.isAgg4
  z4 := Tryd.sizeOf4
  v4 := Tryd.zeroValue4
  t5 := Tryd.underlying5
  a5 := Tryd.isAgg5
  z5 := Tryd.sizeOf5
  v5 := Tryd.zeroValue5
  t9 := Tryd.underlying9
  a9 := Tryd.isAgg9
  z9 := Tryd.sizeOf9
  v9 := Tryd.zeroValue9
  t21 := Tryd.underlying21
  a21 := Tryd.isAgg21
  z21 := Tryd.sizeOf21
  v21 := Tryd.zeroValue21
  t37 := Tryd.underlying43
  a37 := Tryd.isAgg43
  z37 := Tryd.sizeOf43
  v37 := Tryd.zeroValue43
  t46 := Tryd.underlying88
  a46 := Tryd.isAgg88
  z46 := Tryd.sizeOf88
  v46 := Tryd.zeroValue88
  t53 := Tryd.underlying104
  a53 := Tryd.isAgg104
  z53 := Tryd.sizeOf104
  v53 := Tryd.zeroValue104
  t75 := Tryd.underlying73
  a75 := Tryd.isAgg73
  z75 := Tryd.sizeOf73
  v75 := Tryd.zeroValue73
  t167 := Tryd.underlying124
  a167 := Tryd.isAgg124
  z167 := Tryd.sizeOf124
  v167 := Tryd.zeroValue124
  t175 := Tryd.underlying131
  a175 := Tryd.isAgg131
  z175 := Tryd.sizeOf131
  v175 := Tryd.zeroValue131 }
open Go.RowKit in
/-- internal/strconv.ParseInt at "": 'if s == "" { return 0, ErrSyntax }'. The world is as it was. (LAID: no walk: one application.) -/
theorem Tryd.internal_strconv_ParseInt_empty (base bits : Int) (w : World) :
    Calls Tryd.prog 81 #[.string ⟨#[]⟩, .int .i64 base, .int .i64 bits] w fun e w' => e = .returned (.tuple #[.int .i64 0, (.iface 124 (.int .i64 2))]) ∧ w' = w := Any.internal_strconv_ParseInt_empty Tryd.lays247 base bits w
open Go.RowKit in
/-- internal/strconv.Atoi at "". (LAID: no walk: one application.) -/
theorem Tryd.internal_strconv_Atoi_empty (w : World) :
    Calls Tryd.prog 70 #[.string ⟨#[]⟩] w fun e w' => e = .returned (.tuple #[.int .i64 0, (.iface 124 (.int .i64 2))]) ∧ w' = w := Any.internal_strconv_Atoi_empty Tryd.lays244 w
open Go.RowKit in
/-- internal/strconv.Atoi, AT EVERY STRING OF AT MOST 18 BYTES THAT IS NO DECIMAL NUMERAL: 0, and ErrSyntax. (LAID: no walk: one application.) -/
theorem Tryd.internal_strconv_Atoi_fail (s : ByteArray) (hl : s.size ≤ 18) (h : Lib.atoi s.data.toList = none) (w : World) :
    Calls Tryd.prog 70 #[.string s] w fun e w' => e = .returned (.tuple #[.int .i64 0, (.iface 124 (.int .i64 2))]) ∧ (w' = w ∨ ∃ t, w' = Lib.bytesWorld w 5 t) := Any.internal_strconv_Atoi_fail Tryd.lays244 s hl h w
def Tryd.laysM316_ren : Go.Shelf.Ren := ⟨fun | 316 => 90 | n => n, fun | 9 => 9 | 3 => 3 | 4 => 4 | 37 => 43 | 0 => 0 | 127 => 91 | 5 => 5 | n => n, fun | n => n⟩
theorem Tryd.laysM316 : Go.Proofs.LaysM.n316 Tryd.prog Tryd.laysM316_ren := {
  mixed := by kernel_rfl
  f316 := Tryd.func90.trans (congrArg some (by kernel_rfl))
  t0 := Tryd.underlying0
  a0 := Tryd.isAgg0
  z0 := Tryd.sizeOf0
  v0 := Tryd.zeroValue0
  t3 := Tryd.underlying3
  a3 := Tryd.isAgg3
  z3 := Tryd.sizeOf3
  v3 := Tryd.zeroValue3
  t4 := Tryd.underlying4
  a4 := Tryd.isAgg4
  z4 := Tryd.sizeOf4
  v4 := Tryd.zeroValue4
  t9 := Tryd.underlying9
  a9 := Tryd.isAgg9
  z9 := Tryd.sizeOf9
  v9 := Tryd.zeroValue9
  t37 := Tryd.underlying43
  a37 := Tryd.isAgg43
  z37 := Tryd.sizeOf43
  v37 := Tryd.zeroValue43
  t127 := Tryd.underlying91
  a127 := Tryd.isAgg91
  z127 := Tryd.sizeOf91
  v127 := Tryd.zeroValue91
  t5 := Tryd.underlying5
  a5 := Tryd.isAgg5
  z5 := Tryd.sizeOf5
  v5 := Tryd.zeroValue5
  i0 := by kernel_rfl
  i3 := by kernel_rfl
  i4 := by kernel_rfl
  i5 := by kernel_rfl
  i9 := by kernel_rfl
  i37 := by kernel_rfl
  i127 := by kernel_rfl }
open Go.RowKit in
/-- internal/stringslite.Clone (what strings.Clone calls): "Clone returns a fresh copy of s.": THE SAME BYTES. Of what was there nothing has turned (a new row is laid, and frozen, where s is not empty). (LAID: no walk: one application.) -/
theorem Tryd.stringslite_Clone (s : ByteArray) (w : World) (hlim : s.size ≤ 281474976710656) :
    Calls Tryd.prog 90 #[.string s] w fun e w' => e = .returned (.string s) ∧ Below w.heap.size w w' := Any.stringslite_Clone Tryd.laysM316 s w hlim
def Tryd.laysM279_ren : Go.Shelf.Ren := ⟨fun | 279 => 82 | 316 => 90 | n => n, fun | 9 => 9 | 168 => 127 | 75 => 73 | 210 => 135 | 3 => 3 | 4 => 4 | 37 => 43 | 0 => 0 | 127 => 91 | 80 => 78 | 5 => 5 | n => n, fun | 15 => 2 | n => n⟩
theorem Tryd.laysM279 : Go.Proofs.LaysM.n279 Tryd.prog Tryd.laysM279_ren := {
  mixed := by kernel_rfl
  f279 := Tryd.func82.trans (congrArg some (by kernel_rfl))
  f316 := Tryd.func90.trans (congrArg some (by kernel_rfl))
  t0 := Tryd.underlying0
  a0 := Tryd.isAgg0
  z0 := Tryd.sizeOf0
  v0 := Tryd.zeroValue0
  t3 := Tryd.underlying3
  a3 := Tryd.isAgg3
  z3 := Tryd.sizeOf3
  v3 := Tryd.zeroValue3
  t4 := Tryd.underlying4
  a4 := Tryd.isAgg4
  z4 := Tryd.sizeOf4
  v4 := Tryd.zeroValue4
  t9 := Tryd.underlying9
  a9 := Tryd.isAgg9
  z9 := Tryd.sizeOf9
  v9 := Tryd.zeroValue9
  t37 := Tryd.underlying43
  a37 := Tryd.isAgg43
  z37 := Tryd.sizeOf43
  v37 := Tryd.zeroValue43
  t75 := Tryd.underlying73
  a75 := Tryd.isAgg73
  z75 := Tryd.sizeOf73
  v75 := Tryd.zeroValue73
  t127 := Tryd.underlying91
  a127 := Tryd.isAgg91
  z127 := Tryd.sizeOf91
  v127 := Tryd.zeroValue91
  t168 := Tryd.underlying127
  a168 := Tryd.isAgg127
  z168 := Tryd.sizeOf127
  v168 := Tryd.zeroValue127
  t210 := Tryd.underlying135
  a210 := Tryd.isAgg135
  z210 := Tryd.sizeOf135
  v210 := Tryd.zeroValue135
  g15 := by kernel_rfl
  t5 := Tryd.underlying5
  a5 := Tryd.isAgg5
  z5 := Tryd.sizeOf5
  v5 := Tryd.zeroValue5
  t80 := Tryd.underlying78
  a80 := Tryd.isAgg78
  z80 := Tryd.sizeOf78
  v80 := Tryd.zeroValue78
  i0 := by kernel_rfl
  i3 := by kernel_rfl
  i4 := by kernel_rfl
  i5 := by kernel_rfl
  i9 := by kernel_rfl
  i37 := by kernel_rfl
  i75 := by kernel_rfl
  i80 := by kernel_rfl
  i127 := by kernel_rfl
  i168 := by kernel_rfl
  i210 := by kernel_rfl
  m15 := by kernel_rfl }
open Go.RowKit in
/-- strconv.syntaxError: '&NumError{fn, stringslite.Clone(str), ErrSyntax}': A POINTER TO A NEW BLOCK that holds fn, str's bytes, and what the variable ErrSyntax holds. Of what was there nothing has turned. (LAID: no walk: one application.) -/
theorem Tryd.strconv_syntaxError (fn s : ByteArray) (ev : Value) (w : World) (hlim : s.size ≤ 281474976710656) (hv : w.cell? ⟨2, 0, none⟩ = some ev) (hev : ev = .nilIface ∨ ∃ te pe, ev = .iface te pe) :
    Calls Tryd.prog 82 #[.string fn, .string s] w fun e w' => ∃ N, e = .returned (.pointer (some ⟨N, 0, none⟩)) ∧ w.heap.size ≤ N ∧ w'.heap[N]? = some (.cells #[.string fn, .string s, ev] 135 (0, 0)) ∧ Below w.heap.size w w' := Any.strconv_syntaxError Tryd.laysM279 fn s ev w hlim hv hev
def Tryd.laysC245_ren : Go.Shelf.Ren := ⟨fun | 245 => 71 | 279 => 82 | 280 => 83 | 281 => 84 | 282 => 85 | 316 => 90 | 171 => 33 | 205 => 91 | 243 => 45 | 246 => 53 | 283 => 59 | 284 => 60 | 285 => 61 | 286 => 62 | 129 => 73 | 317 => 72 | 318 => 74 | 319 => 75 | 320 => 76 | 337 => 86 | 338 => 87 | n => n, fun | 9 => 9 | 3 => 3 | 75 => 73 | 167 => 124 | 4 => 4 | 168 => 127 | 210 => 135 | 37 => 43 | 0 => 0 | 127 => 91 | 145 => 146 | 143 => 144 | 2 => 2 | 171 => 103 | 53 => 104 | 5 => 5 | 173 => 107 | 212 => 114 | 51 => 115 | 20 => 20 | 213 => 116 | 46 => 88 | 232 => 137 | 233 => 138 | 80 => 78 | n => n, fun | 15 => 2 | 16 => 3 | 17 => 1 | 18 => 4 | 19 => 5 | n => n⟩
theorem Tryd.laysC245 : Go.Proofs.LaysC.n245 Tryd.prog Tryd.laysC245_ren := {
  mixed := by kernel_rfl
  f129 := Tryd.func73.trans (congrArg some (by kernel_rfl))
  f171 := Tryd.func33.trans (congrArg some (by kernel_rfl))
  f205 := Tryd.func91.trans (congrArg some (by kernel_rfl))
  f243 := Tryd.func45.trans (congrArg some (by kernel_rfl))
  f245 := Tryd.func71.trans (congrArg some (by kernel_rfl))
  f246 := Tryd.func53.trans (congrArg some (by kernel_rfl))
  f279 := Tryd.func82.trans (congrArg some (by kernel_rfl))
  f280 := Tryd.func83.trans (congrArg some (by kernel_rfl))
  f281 := Tryd.func84.trans (congrArg some (by kernel_rfl))
  f282 := Tryd.func85.trans (congrArg some (by kernel_rfl))
  f283 := Tryd.func59.trans (congrArg some (by kernel_rfl))
  f284 := Tryd.func60.trans (congrArg some (by kernel_rfl))
  f285 := Tryd.func61.trans (congrArg some (by kernel_rfl))
  f286 := Tryd.func62.trans (congrArg some (by kernel_rfl))
  f316 := Tryd.func90.trans (congrArg some (by kernel_rfl))
  f317 := Tryd.func72.trans (congrArg some (by kernel_rfl))
  f318 := Tryd.func74.trans (congrArg some (by kernel_rfl))
  f319 := Tryd.func75.trans (congrArg some (by kernel_rfl))
  f320 := Tryd.func76.trans (congrArg some (by kernel_rfl))
  f337 := Tryd.func86.trans (congrArg some (by kernel_rfl))
  f338 := Tryd.func87.trans (congrArg some (by kernel_rfl))
  t0 := Tryd.underlying0
  a0 := Tryd.isAgg0
  z0 := Tryd.sizeOf0
  v0 := Tryd.zeroValue0
  t2 := Tryd.underlying2
  a2 := Tryd.isAgg2
  z2 := Tryd.sizeOf2
  v2 := Tryd.zeroValue2
  t3 := Tryd.underlying3
  a3 := Tryd.isAgg3
  z3 := Tryd.sizeOf3
  v3 := Tryd.zeroValue3
  t4 := Tryd.underlying4
  a4 := Tryd.isAgg4
  z4 := Tryd.sizeOf4
  v4 := Tryd.zeroValue4
  t5 := Tryd.underlying5
  a5 := Tryd.isAgg5
  z5 := Tryd.sizeOf5
  v5 := Tryd.zeroValue5
  t9 := Tryd.underlying9
  a9 := Tryd.isAgg9
  z9 := Tryd.sizeOf9
  v9 := Tryd.zeroValue9
  t20 := Tryd.underlying20
  a20 := Tryd.isAgg20
  z20 := Tryd.sizeOf20
  v20 := Tryd.zeroValue20
  t37 := Tryd.underlying43
  a37 := Tryd.isAgg43
  z37 := Tryd.sizeOf43
  v37 := Tryd.zeroValue43
  t46 := Tryd.underlying88
  a46 := Tryd.isAgg88
  z46 := Tryd.sizeOf88
  v46 := Tryd.zeroValue88
  t51 := Tryd.underlying115
  a51 := Tryd.isAgg115
  z51 := Tryd.sizeOf115
  v51 := Tryd.zeroValue115
  t53 := Tryd.underlying104
  a53 := Tryd.isAgg104
  z53 := Tryd.sizeOf104
  v53 := Tryd.zeroValue104
  t75 := Tryd.underlying73
  a75 := Tryd.isAgg73
  z75 := Tryd.sizeOf73
  v75 := Tryd.zeroValue73
  t127 := Tryd.underlying91
  a127 := Tryd.isAgg91
  z127 := Tryd.sizeOf91
  v127 := Tryd.zeroValue91
  t143 := Tryd.underlying144
  a143 := Tryd.isAgg144
  z143 := Tryd.sizeOf144
  v143 := Tryd.zeroValue144
  t145 := Tryd.underlying146
  a145 := Tryd.isAgg146
  z145 := Tryd.sizeOf146
  v145 := Tryd.zeroValue146
  t167 := Tryd.underlying124
  a167 := Tryd.isAgg124
  z167 := Tryd.sizeOf124
  v167 := Tryd.zeroValue124
  t168 := Tryd.underlying127
  a168 := Tryd.isAgg127
  z168 := Tryd.sizeOf127
  v168 := Tryd.zeroValue127
  t171 := Tryd.underlying103
  a171 := Tryd.isAgg103
  z171 := Tryd.sizeOf103
  v171 := Tryd.zeroValue103
  t173 := Tryd.underlying107
  a173 := Tryd.isAgg107
  z173 := Tryd.sizeOf107
  v173 := Tryd.zeroValue107
  t210 := Tryd.underlying135
  a210 := Tryd.isAgg135
  z210 := Tryd.sizeOf135
  v210 := Tryd.zeroValue135
  t212 := Tryd.underlying114
  a212 := Tryd.isAgg114
  z212 := Tryd.sizeOf114
  v212 := Tryd.zeroValue114
  t213 := Tryd.underlying116
  a213 := Tryd.isAgg116
  z213 := Tryd.sizeOf116
  t232 := Tryd.underlying137
  a232 := Tryd.isAgg137
  z232 := Tryd.sizeOf137
  v232 := Tryd.zeroValue137
  t233 := Tryd.underlying138
  a233 := Tryd.isAgg138
  z233 := Tryd.sizeOf138
  v233 := Tryd.zeroValue138
  g15 := by kernel_rfl
  g16 := by kernel_rfl
  g17 := by kernel_rfl
  g18 := by kernel_rfl
  g19 := by kernel_rfl
  t80 := Tryd.underlying78
  a80 := Tryd.isAgg78
  z80 := Tryd.sizeOf78
  v80 := Tryd.zeroValue78
  i0 := by kernel_rfl
  i2 := by kernel_rfl
  i3 := by kernel_rfl
  i4 := by kernel_rfl
  i5 := by kernel_rfl
  i9 := by kernel_rfl
  i20 := by kernel_rfl
  i37 := by kernel_rfl
  i46 := by kernel_rfl
  i51 := by kernel_rfl
  i53 := by kernel_rfl
  i75 := by kernel_rfl
  i80 := by kernel_rfl
  i127 := by kernel_rfl
  i143 := by kernel_rfl
  i145 := by kernel_rfl
  i167 := by kernel_rfl
  i168 := by kernel_rfl
  i171 := by kernel_rfl
  i173 := by kernel_rfl
  i210 := by kernel_rfl
  i212 := by kernel_rfl
  i232 := by kernel_rfl
  i233 := by kernel_rfl
  m15 := by kernel_rfl
  m16 := by kernel_rfl
  m17 := by kernel_rfl
  m18 := by kernel_rfl
  m19 := by kernel_rfl
  c0 := by kernel_rfl
  c2 := by kernel_rfl
  c3 := by kernel_rfl
  c4 := by kernel_rfl
  c5 := by kernel_rfl
  c9 := by kernel_rfl
  c20 := by kernel_rfl
  c37 := by kernel_rfl
  c46 := by kernel_rfl
  c51 := by kernel_rfl
  c53 := by kernel_rfl
  c75 := by kernel_rfl
  c80 := by kernel_rfl
  c127 := by kernel_rfl
  c143 := by kernel_rfl
  c145 := by kernel_rfl
  c167 := by kernel_rfl
  c168 := by kernel_rfl
  c171 := by kernel_rfl
  c173 := by kernel_rfl
  c210 := by kernel_rfl
  c212 := by kernel_rfl
  c213 := by kernel_rfl
  c232 := by kernel_rfl
  c233 := by kernel_rfl }
open Go.RowKit in
/-- strconv.toError, at the inner package's ErrSyntax: 'syntaxError(fn, s)' as an error: A *NumError IN A NEW BLOCK. (LAID: no walk: one application.) -/
theorem Tryd.strconv_toError_syntax (fn s : ByteArray) (base bits : Int) (ev : Value) (w : World) (hlim : s.size ≤ 281474976710656) (hv : w.cell? ⟨2, 0, none⟩ = some ev) (hev : ev = .nilIface ∨ ∃ te pe, ev = .iface te pe) :
    Calls Tryd.prog 71 #[.string fn, .string s, .int .i64 base, .int .i64 bits, .iface 124 (.int .i64 2)] w fun e w' => ∃ N, e = .returned (.iface 127 (.pointer (some ⟨N, 0, none⟩))) ∧ w.heap.size ≤ N ∧ w'.heap[N]? = some (.cells #[.string fn, .string s, ev] 135 (0, 0)) ∧ Below w.heap.size w w' := Any.strconv_toError_syntax Tryd.laysC245 fn s base bits ev w hlim hv hev
def Tryd.lays321_ren : Go.Shelf.Ren := ⟨fun | 321 => 92 | n => n, fun | 5 => 5 | n => n, fun | n => n⟩
theorem Tryd.lays321 : Go.Proofs.Lays.n321 Tryd.prog Tryd.lays321_ren := {
  mixed := by kernel_rfl
  f321 := Tryd.func92.trans (congrArg some (by kernel_rfl))
  t5 := Tryd.underlying5
  a5 := Tryd.isAgg5
  z5 := Tryd.sizeOf5
  v5 := Tryd.zeroValue5 }
open Go.RowKit in
/-- internal/strconv.lower: 'c | ('x' - 'X')': the bit 32 set. The world is as it was. (LAID: no walk: one application.) -/
theorem Tryd.internal_strconv_lower (c : Int) (w : World) :
    Calls Tryd.prog 92 #[.int .u8 c] w fun e w' => e = .returned (.int .u8 (bits .or .u8 c 32)) ∧ w' = w := Any.internal_strconv_lower Tryd.lays321 c w
def Tryd.lays287_ren : Go.Shelf.Ren := ⟨fun | 287 => 89 | 321 => 92 | 322 => 93 | n => n, fun | 9 => 9 | 3 => 3 | 53 => 104 | 75 => 73 | 4 => 4 | 167 => 124 | 5 => 5 | 46 => 88 | 37 => 43 | 0 => 0 | 21 => 21 | 80 => 78 | n => n, fun | n => n⟩
theorem Tryd.lays287 : Go.Proofs.Lays.n287 Tryd.prog Tryd.lays287_ren := {
  mixed := by kernel_rfl
  f287 := Tryd.func89.trans (congrArg some (by kernel_rfl))
  f321 := Tryd.func92.trans (congrArg some (by kernel_rfl))
  f322 := Tryd.func93.trans (congrArg some (by kernel_rfl))
  t0 := Tryd.underlying0
  a0 := Tryd.isAgg0
  z0 := Tryd.sizeOf0
  v0 := Tryd.zeroValue0
  t3 := Tryd.underlying3
  a3 := Tryd.isAgg3
  z3 := Tryd.sizeOf3
  v3 := Tryd.zeroValue3
  t4 := Tryd.underlying4
  a4 := Tryd.isAgg4
  z4 := Tryd.sizeOf4
  v4 := Tryd.zeroValue4
  t5 := Tryd.underlying5
  a5 := Tryd.isAgg5
  z5 := Tryd.sizeOf5
  v5 := Tryd.zeroValue5
  t9 := Tryd.underlying9
  a9 := Tryd.isAgg9
  z9 := Tryd.sizeOf9
  v9 := Tryd.zeroValue9
  t21 := Tryd.underlying21
  a21 := Tryd.isAgg21
  z21 := Tryd.sizeOf21
  v21 := Tryd.zeroValue21
  t37 := Tryd.underlying43
  a37 := Tryd.isAgg43
  z37 := Tryd.sizeOf43
  v37 := Tryd.zeroValue43
  t46 := Tryd.underlying88
  a46 := Tryd.isAgg88
  z46 := Tryd.sizeOf88
  v46 := Tryd.zeroValue88
  t53 := Tryd.underlying104
  a53 := Tryd.isAgg104
  z53 := Tryd.sizeOf104
  v53 := Tryd.zeroValue104
  t75 := Tryd.underlying73
  a75 := Tryd.isAgg73
  z75 := Tryd.sizeOf73
  v75 := Tryd.zeroValue73
  t167 := Tryd.underlying124
  a167 := Tryd.isAgg124
  z167 := Tryd.sizeOf124
  v167 := Tryd.zeroValue124 }
open Go.RowKit in
/-- internal/strconv.ParseUint(s, 10, 0), s NOT EMPTY: 'Lib.parseUint10 0' OF ITS BYTES: the number; or (0, ErrSyntax); or (the greatest uint64, ErrRange). The world behind the call: the one new row that '[]byte(s)' lays. (LAID: no walk: one application.) -/
theorem Tryd.internal_strconv_ParseUint_10 (t : ByteArray) (hne : t.size ≠ 0) (hmax : t.size ≤ 9223372036854775806) (w : World) :
    Calls Tryd.prog 89 #[.string t, .int .i64 10, .int .i64 0] w fun e w' => e = .returned (Lib.uintTuple 124 (Lib.parseUint10 0 t.data.toList)) ∧ w' = Lib.bytesWorld w 5 t := Any.internal_strconv_ParseUint_10 Tryd.lays287 t hne hmax w
open Go.RowKit in
/-- internal/strconv.ParseUint(s, 10, 0): 'Lib.parseMag' OF ITS BYTES. The world: as it was (the empty string), or with the one new row that '[]byte(s)' lays. (LAID: no walk: one application.) -/
theorem Tryd.internal_strconv_ParseUint_10_any (t : ByteArray) (hmax : t.size ≤ 9223372036854775806) (w : World) :
    Calls Tryd.prog 89 #[.string t, .int .i64 10, .int .i64 0] w fun e w' => e = .returned (Lib.uintTuple 124 (Lib.parseMag t.data.toList)) ∧ (w' = w ∨ w' = Lib.bytesWorld w 5 t) := Any.internal_strconv_ParseUint_10_any Tryd.lays287 t hmax w
def Tryd.laysC247_ren : Go.Shelf.Ren := ⟨fun | 247 => 81 | 287 => 89 | 321 => 92 | 322 => 93 | n => n, fun | 9 => 9 | 3 => 3 | 2 => 2 | 75 => 73 | 4 => 4 | 167 => 124 | 5 => 5 | 53 => 104 | 175 => 131 | 46 => 88 | 37 => 43 | 0 => 0 | 21 => 21 | 80 => 78 | n => n, fun | n => n⟩
theorem Tryd.laysC247 : Go.Proofs.LaysC.n247 Tryd.prog Tryd.laysC247_ren := {
  mixed := by kernel_rfl
  f247 := Tryd.func81.trans (congrArg some (by kernel_rfl))
  f287 := Tryd.func89.trans (congrArg some (by kernel_rfl))
  f321 := Tryd.func92.trans (congrArg some (by kernel_rfl))
  f322 := Tryd.func93.trans (congrArg some (by kernel_rfl))
  t0 := Tryd.underlying0
  a0 := Tryd.isAgg0
  z0 := Tryd.sizeOf0
  v0 := Tryd.zeroValue0
  t2 := Tryd.underlying2
  a2 := Tryd.isAgg2
  z2 := Tryd.sizeOf2
  v2 := Tryd.zeroValue2
  t3 := Tryd.underlying3
  a3 := Tryd.isAgg3
  z3 := Tryd.sizeOf3
  v3 := Tryd.zeroValue3
  t4 := Tryd.underlying4
  a4 := Tryd.isAgg4
  z4 := Tryd.sizeOf4
  v4 := Tryd.zeroValue4
  t5 := Tryd.underlying5
  a5 := Tryd.isAgg5
  z5 := Tryd.sizeOf5
  v5 := Tryd.zeroValue5
  t9 := Tryd.underlying9
  a9 := Tryd.isAgg9
  z9 := Tryd.sizeOf9
  v9 := Tryd.zeroValue9
  t21 := Tryd.underlying21
  a21 := Tryd.isAgg21
  z21 := Tryd.sizeOf21
  v21 := Tryd.zeroValue21
  t37 := Tryd.underlying43
  a37 := Tryd.isAgg43
  z37 := Tryd.sizeOf43
  v37 := Tryd.zeroValue43
  t46 := Tryd.underlying88
  a46 := Tryd.isAgg88
  z46 := Tryd.sizeOf88
  v46 := Tryd.zeroValue88
  t53 := Tryd.underlying104
  a53 := Tryd.isAgg104
  z53 := Tryd.sizeOf104
  v53 := Tryd.zeroValue104
  t75 := Tryd.underlying73
  a75 := Tryd.isAgg73
  z75 := Tryd.sizeOf73
  v75 := Tryd.zeroValue73
  t167 := Tryd.underlying124
  a167 := Tryd.isAgg124
  z167 := Tryd.sizeOf124
  v167 := Tryd.zeroValue124
  t175 := Tryd.underlying131
  a175 := Tryd.isAgg131
  z175 := Tryd.sizeOf131
  v175 := Tryd.zeroValue131
  t80 := Tryd.underlying78
  a80 := Tryd.isAgg78
  z80 := Tryd.sizeOf78
  v80 := Tryd.zeroValue78
  i0 := by kernel_rfl
  i2 := by kernel_rfl
  i3 := by kernel_rfl
  i4 := by kernel_rfl
  i5 := by kernel_rfl
  i9 := by kernel_rfl
  i21 := by kernel_rfl
  i37 := by kernel_rfl
  i46 := by kernel_rfl
  i53 := by kernel_rfl
  i75 := by kernel_rfl
  i80 := by kernel_rfl
  i167 := by kernel_rfl
  i175 := by kernel_rfl
  c0 := by kernel_rfl
  c2 := by kernel_rfl
  c3 := by kernel_rfl
  c4 := by kernel_rfl
  c5 := by kernel_rfl
  c9 := by kernel_rfl
  c21 := by kernel_rfl
  c37 := by kernel_rfl
  c46 := by kernel_rfl
  c53 := by kernel_rfl
  c75 := by kernel_rfl
  c80 := by kernel_rfl
  c167 := by kernel_rfl
  c175 := by kernel_rfl }
open Go.RowKit in
/-- internal/strconv.ParseInt(s, 10, 0), s NOT EMPTY: 'Lib.atoiAll' OF ITS BYTES: (the number, nil); (0, ErrSyntax); (the greatest or the least int64 by the sign, ErrRange). The world: as it was, or with the one new row that '[]byte(..)' lays. (LAID: no walk: one application.) -/
theorem Tryd.internal_strconv_ParseInt_10 (s : ByteArray) (hne : s.size ≠ 0) (hmax : s.size ≤ 9223372036854775806) (w : World) :
    Calls Tryd.prog 81 #[.string s, .int .i64 10, .int .i64 0] w fun e w' => e = .returned (Lib.intTuple 124 (Lib.atoiSat s.data.toList) (Lib.atoiAll s.data.toList)) ∧ (w' = w ∨ ∃ t, w' = Lib.bytesWorld w 5 t) := Any.internal_strconv_ParseInt_10 Tryd.laysC247 s hne hmax w
def Tryd.laysC244_ren : Go.Shelf.Ren := ⟨fun | 244 => 70 | 247 => 81 | 287 => 89 | 321 => 92 | 322 => 93 | n => n, fun | 9 => 9 | 3 => 3 | 75 => 73 | 4 => 4 | 5 => 5 | 167 => 124 | 37 => 43 | 0 => 0 | 85 => 125 | 2 => 2 | 53 => 104 | 175 => 131 | 46 => 88 | 21 => 21 | 80 => 78 | n => n, fun | n => n⟩
theorem Tryd.laysC244 : Go.Proofs.LaysC.n244 Tryd.prog Tryd.laysC244_ren := {
  mixed := by kernel_rfl
  f244 := Tryd.func70.trans (congrArg some (by kernel_rfl))
  f247 := Tryd.func81.trans (congrArg some (by kernel_rfl))
  f287 := Tryd.func89.trans (congrArg some (by kernel_rfl))
  f321 := Tryd.func92.trans (congrArg some (by kernel_rfl))
  f322 := Tryd.func93.trans (congrArg some (by kernel_rfl))
  t0 := Tryd.underlying0
  a0 := Tryd.isAgg0
  z0 := Tryd.sizeOf0
  v0 := Tryd.zeroValue0
  t2 := Tryd.underlying2
  a2 := Tryd.isAgg2
  z2 := Tryd.sizeOf2
  v2 := Tryd.zeroValue2
  t3 := Tryd.underlying3
  a3 := Tryd.isAgg3
  z3 := Tryd.sizeOf3
  v3 := Tryd.zeroValue3
  t4 := Tryd.underlying4
  a4 := Tryd.isAgg4
  z4 := Tryd.sizeOf4
  v4 := Tryd.zeroValue4
  t5 := Tryd.underlying5
  a5 := Tryd.isAgg5
  z5 := Tryd.sizeOf5
  v5 := Tryd.zeroValue5
  t9 := Tryd.underlying9
  a9 := Tryd.isAgg9
  z9 := Tryd.sizeOf9
  v9 := Tryd.zeroValue9
  t21 := Tryd.underlying21
  a21 := Tryd.isAgg21
  z21 := Tryd.sizeOf21
  v21 := Tryd.zeroValue21
  t37 := Tryd.underlying43
  a37 := Tryd.isAgg43
  z37 := Tryd.sizeOf43
  v37 := Tryd.zeroValue43
  t46 := Tryd.underlying88
  a46 := Tryd.isAgg88
  z46 := Tryd.sizeOf88
  v46 := Tryd.zeroValue88
  t53 := Tryd.underlying104
  a53 := Tryd.isAgg104
  z53 := Tryd.sizeOf104
  v53 := Tryd.zeroValue104
  t75 := Tryd.underlying73
  a75 := Tryd.isAgg73
  z75 := Tryd.sizeOf73
  v75 := Tryd.zeroValue73
  t85 := Tryd.underlying125
  a85 := Tryd.isAgg125
  z85 := Tryd.sizeOf125
  v85 := Tryd.zeroValue125
  t167 := Tryd.underlying124
  a167 := Tryd.isAgg124
  z167 := Tryd.sizeOf124
  v167 := Tryd.zeroValue124
  t175 := Tryd.underlying131
  a175 := Tryd.isAgg131
  z175 := Tryd.sizeOf131
  v175 := Tryd.zeroValue131
  t80 := Tryd.underlying78
  a80 := Tryd.isAgg78
  z80 := Tryd.sizeOf78
  v80 := Tryd.zeroValue78
  i0 := by kernel_rfl
  i2 := by kernel_rfl
  i3 := by kernel_rfl
  i4 := by kernel_rfl
  i5 := by kernel_rfl
  i9 := by kernel_rfl
  i21 := by kernel_rfl
  i37 := by kernel_rfl
  i46 := by kernel_rfl
  i53 := by kernel_rfl
  i75 := by kernel_rfl
  i80 := by kernel_rfl
  i85 := by kernel_rfl
  i167 := by kernel_rfl
  i175 := by kernel_rfl
  c0 := by kernel_rfl
  c2 := by kernel_rfl
  c3 := by kernel_rfl
  c4 := by kernel_rfl
  c5 := by kernel_rfl
  c9 := by kernel_rfl
  c21 := by kernel_rfl
  c37 := by kernel_rfl
  c46 := by kernel_rfl
  c53 := by kernel_rfl
  c75 := by kernel_rfl
  c80 := by kernel_rfl
  c85 := by kernel_rfl
  c167 := by kernel_rfl
  c175 := by kernel_rfl }
open Go.RowKit in
/-- internal/strconv.Atoi, AT EVERY STRING OF 19 BYTES OR MORE: 'Lib.atoiAll' OF ITS BYTES: (the number, nil); (0, ErrSyntax); (the greatest or the least int by the sign, ErrRange). (LAID: no walk: one application.) -/
theorem Tryd.internal_strconv_Atoi_long (s : ByteArray) (h19 : 19 ≤ s.size) (hmax : s.size ≤ 9223372036854775806) (w : World) :
    Calls Tryd.prog 70 #[.string s] w fun e w' => e = .returned (Lib.intTuple 124 (Lib.atoiSat s.data.toList) (Lib.atoiAll s.data.toList)) ∧ (w' = w ∨ ∃ t, w' = Lib.bytesWorld w 5 t) := Any.internal_strconv_Atoi_long Tryd.laysC244 s h19 hmax w
open Go.RowKit in
/-- internal/strconv.Atoi, AT EVERY STRING: 'Lib.atoiAll' OF ITS BYTES: (the number, nil); (0, ErrSyntax); (the greatest or the least int by the sign, ErrRange). The world: as it was, or with the one new row that '[]byte(..)' lays. (LAID: no walk: one application.) -/
theorem Tryd.internal_strconv_Atoi_all (s : ByteArray) (hmax : s.size ≤ 9223372036854775806) (w : World) :
    Calls Tryd.prog 70 #[.string s] w fun e w' => e = .returned (Lib.intTuple 124 (Lib.atoiSat s.data.toList) (Lib.atoiAll s.data.toList)) ∧ (w' = w ∨ ∃ t, w' = Lib.bytesWorld w 5 t) := Any.internal_strconv_Atoi_all Tryd.laysC244 s hmax w
def Tryd.laysM280_ren : Go.Shelf.Ren := ⟨fun | 280 => 83 | 316 => 90 | n => n, fun | 9 => 9 | 168 => 127 | 75 => 73 | 210 => 135 | 3 => 3 | 4 => 4 | 37 => 43 | 0 => 0 | 127 => 91 | 80 => 78 | 5 => 5 | n => n, fun | 16 => 3 | n => n⟩
theorem Tryd.laysM280 : Go.Proofs.LaysM.n280 Tryd.prog Tryd.laysM280_ren := {
  mixed := by kernel_rfl
  f280 := Tryd.func83.trans (congrArg some (by kernel_rfl))
  f316 := Tryd.func90.trans (congrArg some (by kernel_rfl))
  t0 := Tryd.underlying0
  a0 := Tryd.isAgg0
  z0 := Tryd.sizeOf0
  v0 := Tryd.zeroValue0
  t3 := Tryd.underlying3
  a3 := Tryd.isAgg3
  z3 := Tryd.sizeOf3
  v3 := Tryd.zeroValue3
  t4 := Tryd.underlying4
  a4 := Tryd.isAgg4
  z4 := Tryd.sizeOf4
  v4 := Tryd.zeroValue4
  t9 := Tryd.underlying9
  a9 := Tryd.isAgg9
  z9 := Tryd.sizeOf9
  v9 := Tryd.zeroValue9
  t37 := Tryd.underlying43
  a37 := Tryd.isAgg43
  z37 := Tryd.sizeOf43
  v37 := Tryd.zeroValue43
  t75 := Tryd.underlying73
  a75 := Tryd.isAgg73
  z75 := Tryd.sizeOf73
  v75 := Tryd.zeroValue73
  t127 := Tryd.underlying91
  a127 := Tryd.isAgg91
  z127 := Tryd.sizeOf91
  v127 := Tryd.zeroValue91
  t168 := Tryd.underlying127
  a168 := Tryd.isAgg127
  z168 := Tryd.sizeOf127
  v168 := Tryd.zeroValue127
  t210 := Tryd.underlying135
  a210 := Tryd.isAgg135
  z210 := Tryd.sizeOf135
  v210 := Tryd.zeroValue135
  g16 := by kernel_rfl
  t5 := Tryd.underlying5
  a5 := Tryd.isAgg5
  z5 := Tryd.sizeOf5
  v5 := Tryd.zeroValue5
  t80 := Tryd.underlying78
  a80 := Tryd.isAgg78
  z80 := Tryd.sizeOf78
  v80 := Tryd.zeroValue78
  i0 := by kernel_rfl
  i3 := by kernel_rfl
  i4 := by kernel_rfl
  i5 := by kernel_rfl
  i9 := by kernel_rfl
  i37 := by kernel_rfl
  i75 := by kernel_rfl
  i80 := by kernel_rfl
  i127 := by kernel_rfl
  i168 := by kernel_rfl
  i210 := by kernel_rfl
  m16 := by kernel_rfl }
open Go.RowKit in
/-- strconv.rangeError: '&NumError{fn, stringslite.Clone(str), ErrRange}': A POINTER TO A NEW BLOCK that holds fn, str's bytes, and what the variable ErrRange holds. Of what was there nothing has turned. (LAID: no walk: one application.) -/
theorem Tryd.strconv_rangeError (fn s : ByteArray) (ev : Value) (w : World) (hlim : s.size ≤ 281474976710656) (hv : w.cell? ⟨3, 0, none⟩ = some ev) (hev : ev = .nilIface ∨ ∃ te pe, ev = .iface te pe) :
    Calls Tryd.prog 83 #[.string fn, .string s] w fun e w' => ∃ N, e = .returned (.pointer (some ⟨N, 0, none⟩)) ∧ w.heap.size ≤ N ∧ w'.heap[N]? = some (.cells #[.string fn, .string s, ev] 135 (0, 0)) ∧ Below w.heap.size w w' := Any.strconv_rangeError Tryd.laysM280 fn s ev w hlim hv hev
open Go.RowKit in
/-- strconv.toError, at the inner package's ErrRange: 'rangeError(fn, s)' as an error: A *NumError IN A NEW BLOCK. (LAID: no walk: one application.) -/
theorem Tryd.strconv_toError_range (fn s : ByteArray) (base bits : Int) (ev : Value) (w : World) (hlim : s.size ≤ 281474976710656) (hv : w.cell? ⟨3, 0, none⟩ = some ev) (hev : ev = .nilIface ∨ ∃ te pe, ev = .iface te pe) :
    Calls Tryd.prog 71 #[.string fn, .string s, .int .i64 base, .int .i64 bits, .iface 124 (.int .i64 1)] w fun e w' => ∃ N, e = .returned (.iface 127 (.pointer (some ⟨N, 0, none⟩))) ∧ w.heap.size ≤ N ∧ w'.heap[N]? = some (.cells #[.string fn, .string s, ev] 135 (0, 0)) ∧ Below w.heap.size w w' := Any.strconv_toError_range Tryd.laysC245 fn s base bits ev w hlim hv hev
def Tryd.laysC172_ren : Go.Shelf.Ren := ⟨fun | 172 => 57 | 244 => 70 | 245 => 71 | 247 => 81 | 279 => 82 | 280 => 83 | 281 => 84 | 282 => 85 | 287 => 89 | 316 => 90 | 171 => 33 | 205 => 91 | 321 => 92 | 322 => 93 | 243 => 45 | 246 => 53 | 283 => 59 | 284 => 60 | 285 => 61 | 286 => 62 | 129 => 73 | 317 => 72 | 318 => 74 | 319 => 75 | 320 => 76 | 337 => 86 | 338 => 87 | n => n, fun | 9 => 9 | 3 => 3 | 75 => 73 | 76 => 74 | 4 => 4 | 5 => 5 | 167 => 124 | 37 => 43 | 0 => 0 | 85 => 125 | 2 => 2 | 168 => 127 | 53 => 104 | 175 => 131 | 46 => 88 | 210 => 135 | 127 => 91 | 145 => 146 | 143 => 144 | 21 => 21 | 171 => 103 | 173 => 107 | 212 => 114 | 51 => 115 | 20 => 20 | 213 => 116 | 232 => 137 | 233 => 138 | 80 => 78 | n => n, fun | 15 => 2 | 16 => 3 | 17 => 1 | 18 => 4 | 19 => 5 | n => n⟩
theorem Tryd.laysC172 : Go.Proofs.LaysC.n172 Tryd.prog Tryd.laysC172_ren := {
  mixed := by kernel_rfl
  f129 := Tryd.func73.trans (congrArg some (by kernel_rfl))
  f171 := Tryd.func33.trans (congrArg some (by kernel_rfl))
  f172 := Tryd.func57.trans (congrArg some (by kernel_rfl))
  f205 := Tryd.func91.trans (congrArg some (by kernel_rfl))
  f243 := Tryd.func45.trans (congrArg some (by kernel_rfl))
  f244 := Tryd.func70.trans (congrArg some (by kernel_rfl))
  f245 := Tryd.func71.trans (congrArg some (by kernel_rfl))
  f246 := Tryd.func53.trans (congrArg some (by kernel_rfl))
  f247 := Tryd.func81.trans (congrArg some (by kernel_rfl))
  f279 := Tryd.func82.trans (congrArg some (by kernel_rfl))
  f280 := Tryd.func83.trans (congrArg some (by kernel_rfl))
  f281 := Tryd.func84.trans (congrArg some (by kernel_rfl))
  f282 := Tryd.func85.trans (congrArg some (by kernel_rfl))
  f283 := Tryd.func59.trans (congrArg some (by kernel_rfl))
  f284 := Tryd.func60.trans (congrArg some (by kernel_rfl))
  f285 := Tryd.func61.trans (congrArg some (by kernel_rfl))
  f286 := Tryd.func62.trans (congrArg some (by kernel_rfl))
  f287 := Tryd.func89.trans (congrArg some (by kernel_rfl))
  f316 := Tryd.func90.trans (congrArg some (by kernel_rfl))
  f317 := Tryd.func72.trans (congrArg some (by kernel_rfl))
  f318 := Tryd.func74.trans (congrArg some (by kernel_rfl))
  f319 := Tryd.func75.trans (congrArg some (by kernel_rfl))
  f320 := Tryd.func76.trans (congrArg some (by kernel_rfl))
  f321 := Tryd.func92.trans (congrArg some (by kernel_rfl))
  f322 := Tryd.func93.trans (congrArg some (by kernel_rfl))
  f337 := Tryd.func86.trans (congrArg some (by kernel_rfl))
  f338 := Tryd.func87.trans (congrArg some (by kernel_rfl))
  t0 := Tryd.underlying0
  a0 := Tryd.isAgg0
  z0 := Tryd.sizeOf0
  v0 := Tryd.zeroValue0
  t2 := Tryd.underlying2
  a2 := Tryd.isAgg2
  z2 := Tryd.sizeOf2
  v2 := Tryd.zeroValue2
  t3 := Tryd.underlying3
  a3 := Tryd.isAgg3
  z3 := Tryd.sizeOf3
  v3 := Tryd.zeroValue3
  t4 := Tryd.underlying4
  a4 := Tryd.isAgg4
  z4 := Tryd.sizeOf4
  v4 := Tryd.zeroValue4
  t5 := Tryd.underlying5
  a5 := Tryd.isAgg5
  z5 := Tryd.sizeOf5
  v5 := Tryd.zeroValue5
  t9 := Tryd.underlying9
  a9 := Tryd.isAgg9
  z9 := Tryd.sizeOf9
  v9 := Tryd.zeroValue9
  t20 := Tryd.underlying20
  a20 := Tryd.isAgg20
  z20 := Tryd.sizeOf20
  v20 := Tryd.zeroValue20
  t21 := Tryd.underlying21
  a21 := Tryd.isAgg21
  z21 := Tryd.sizeOf21
  v21 := Tryd.zeroValue21
  t37 := Tryd.underlying43
  a37 := Tryd.isAgg43
  z37 := Tryd.sizeOf43
  v37 := Tryd.zeroValue43
  t46 := Tryd.underlying88
  a46 := Tryd.isAgg88
  z46 := Tryd.sizeOf88
  v46 := Tryd.zeroValue88
  t51 := Tryd.underlying115
  a51 := Tryd.isAgg115
  z51 := Tryd.sizeOf115
  v51 := Tryd.zeroValue115
  t53 := Tryd.underlying104
  a53 := Tryd.isAgg104
  z53 := Tryd.sizeOf104
  v53 := Tryd.zeroValue104
  t75 := Tryd.underlying73
  a75 := Tryd.isAgg73
  z75 := Tryd.sizeOf73
  v75 := Tryd.zeroValue73
  t76 := Tryd.underlying74
  a76 := Tryd.isAgg74
  z76 := Tryd.sizeOf74
  v76 := Tryd.zeroValue74
  t85 := Tryd.underlying125
  a85 := Tryd.isAgg125
  z85 := Tryd.sizeOf125
  v85 := Tryd.zeroValue125
  t127 := Tryd.underlying91
  a127 := Tryd.isAgg91
  z127 := Tryd.sizeOf91
  v127 := Tryd.zeroValue91
  t143 := Tryd.underlying144
  a143 := Tryd.isAgg144
  z143 := Tryd.sizeOf144
  v143 := Tryd.zeroValue144
  t145 := Tryd.underlying146
  a145 := Tryd.isAgg146
  z145 := Tryd.sizeOf146
  v145 := Tryd.zeroValue146
  t167 := Tryd.underlying124
  a167 := Tryd.isAgg124
  z167 := Tryd.sizeOf124
  v167 := Tryd.zeroValue124
  t168 := Tryd.underlying127
  a168 := Tryd.isAgg127
  z168 := Tryd.sizeOf127
  v168 := Tryd.zeroValue127
  t171 := Tryd.underlying103
  a171 := Tryd.isAgg103
  z171 := Tryd.sizeOf103
  v171 := Tryd.zeroValue103
  t173 := Tryd.underlying107
  a173 := Tryd.isAgg107
  z173 := Tryd.sizeOf107
  v173 := Tryd.zeroValue107
  t175 := Tryd.underlying131
  a175 := Tryd.isAgg131
  z175 := Tryd.sizeOf131
  v175 := Tryd.zeroValue131
  t210 := Tryd.underlying135
  a210 := Tryd.isAgg135
  z210 := Tryd.sizeOf135
  v210 := Tryd.zeroValue135
  t212 := Tryd.underlying114
  a212 := Tryd.isAgg114
  z212 := Tryd.sizeOf114
  v212 := Tryd.zeroValue114
  t213 := Tryd.underlying116
  a213 := Tryd.isAgg116
  z213 := Tryd.sizeOf116
  t232 := Tryd.underlying137
  a232 := Tryd.isAgg137
  z232 := Tryd.sizeOf137
  v232 := Tryd.zeroValue137
  t233 := Tryd.underlying138
  a233 := Tryd.isAgg138
  z233 := Tryd.sizeOf138
  v233 := Tryd.zeroValue138
  g15 := by kernel_rfl
  g16 := by kernel_rfl
  g17 := by kernel_rfl
  g18 := by kernel_rfl
  g19 := by kernel_rfl
  t80 := Tryd.underlying78
  a80 := Tryd.isAgg78
  z80 := Tryd.sizeOf78
  v80 := Tryd.zeroValue78
  i0 := by kernel_rfl
  i2 := by kernel_rfl
  i3 := by kernel_rfl
  i4 := by kernel_rfl
  i5 := by kernel_rfl
  i9 := by kernel_rfl
  i20 := by kernel_rfl
  i21 := by kernel_rfl
  i37 := by kernel_rfl
  i46 := by kernel_rfl
  i51 := by kernel_rfl
  i53 := by kernel_rfl
  i75 := by kernel_rfl
  i76 := by kernel_rfl
  i80 := by kernel_rfl
  i85 := by kernel_rfl
  i127 := by kernel_rfl
  i143 := by kernel_rfl
  i145 := by kernel_rfl
  i167 := by kernel_rfl
  i168 := by kernel_rfl
  i171 := by kernel_rfl
  i173 := by kernel_rfl
  i175 := by kernel_rfl
  i210 := by kernel_rfl
  i212 := by kernel_rfl
  i232 := by kernel_rfl
  i233 := by kernel_rfl
  m15 := by kernel_rfl
  m16 := by kernel_rfl
  m17 := by kernel_rfl
  m18 := by kernel_rfl
  m19 := by kernel_rfl
  c0 := by kernel_rfl
  c2 := by kernel_rfl
  c3 := by kernel_rfl
  c4 := by kernel_rfl
  c5 := by kernel_rfl
  c9 := by kernel_rfl
  c20 := by kernel_rfl
  c21 := by kernel_rfl
  c37 := by kernel_rfl
  c46 := by kernel_rfl
  c51 := by kernel_rfl
  c53 := by kernel_rfl
  c75 := by kernel_rfl
  c76 := by kernel_rfl
  c80 := by kernel_rfl
  c85 := by kernel_rfl
  c127 := by kernel_rfl
  c143 := by kernel_rfl
  c145 := by kernel_rfl
  c167 := by kernel_rfl
  c168 := by kernel_rfl
  c171 := by kernel_rfl
  c173 := by kernel_rfl
  c175 := by kernel_rfl
  c210 := by kernel_rfl
  c212 := by kernel_rfl
  c213 := by kernel_rfl
  c232 := by kernel_rfl
  c233 := by kernel_rfl }
open Go.RowKit in
/-- strconv.Atoi, AT EVERY STRING THAT SPELLS AN int ('Lib.atoiAll .. = .ok v'; of whatever length: leading zeros count): v, AND NO ERROR. The world: as it was, or with the one new row that '[]byte(..)' lays. (LAID: no walk: one application.) -/
theorem Tryd.strconv_Atoi_ok (s : ByteArray) (hmax : s.size ≤ 9223372036854775806) (v : Int) (h : Lib.atoiAll s.data.toList = .ok v) (w : World) :
    Calls Tryd.prog 57 #[.string s] w fun e w' => e = .returned (.tuple #[.int .i64 v, .nilIface]) ∧ (w' = w ∨ ∃ t, w' = Lib.bytesWorld w 5 t) := Any.strconv_Atoi_ok Tryd.laysC172 s hmax v h w
open Go.RowKit in
/-- strconv.Atoi, AT EVERY NUMERAL THAT NO int HOLDS ('.range'): THE GREATEST OR THE LEAST int, BY THE SIGN ('Lib.atoiSat'), AND AN ERROR THAT IS NOT nil: a *NumError in a new block N: {Func: "Atoi", Num: s's bytes, Err: what the variable ErrRange holds}. Of what was there nothing has turned. (LAID: no walk: one application.) -/
theorem Tryd.strconv_Atoi_range (s : ByteArray) (hlim : s.size ≤ 281474976710656) (h : Lib.atoiAll s.data.toList = .range) (ev : Value) (w : World) (hv : w.cell? ⟨3, 0, none⟩ = some ev) (hev : ev = .nilIface ∨ ∃ te pe, ev = .iface te pe) :
    Calls Tryd.prog 57 #[.string s] w fun e w' => ∃ N, e = .returned (.tuple #[.int .i64 (Lib.atoiSat s.data.toList), .iface 127 (.pointer (some ⟨N, 0, none⟩))]) ∧ w.heap.size ≤ N ∧ w'.heap[N]? = some (.cells #[.string ⟨#[65, 116, 111, 105]⟩, .string s, ev] 135 (0, 0)) ∧ Below w.heap.size w w' := Any.strconv_Atoi_range Tryd.laysC172 s hlim h ev w hv hev
open Go.RowKit in
theorem Tryd.strconv_Atoi_range_var (s : ByteArray) (hlim : s.size ≤ 281474976710656) (h : Lib.atoiAll s.data.toList = .range) (tp : TypeId) (p : Value) (w : World) (hvar : w.var? Tryd.prog "strconv.ErrRange" = some #[.iface tp p]) :
    Calls Tryd.prog 57 #[.string s] w fun e w' => ∃ N, e = .returned (.tuple #[.int .i64 (Lib.atoiSat s.data.toList), .iface 127 (.pointer (some ⟨N, 0, none⟩))]) ∧ w.heap.size ≤ N ∧ w'.heap[N]? = some (.cells #[.string ⟨#[65, 116, 111, 105]⟩, .string s, .iface tp p] 135 (0, 0)) ∧ Below w.heap.size w w' := Any.strconv_Atoi_range_var Tryd.laysC172 s hlim h tp p w hvar
def Tryd.lays217_ren : Go.Shelf.Ren := ⟨fun | 217 => 51 | 266 => 58 | n => n, fun | 9 => 9 | 5 => 5 | 3 => 3 | n => n, fun | n => n⟩
theorem Tryd.lays217 : Go.Proofs.Lays.n217 Tryd.prog Tryd.lays217_ren := {
  mixed := by kernel_rfl
  f217 := Tryd.func51.trans (congrArg some (by kernel_rfl))
  f266 := Tryd.func58.trans (congrArg some (by kernel_rfl))
  t3 := Tryd.underlying3
  a3 := Tryd.isAgg3
  z3 := Tryd.sizeOf3
  v3 := Tryd.zeroValue3
  t5 := Tryd.underlying5
  a5 := Tryd.isAgg5
  z5 := Tryd.sizeOf5
  v5 := Tryd.zeroValue5
  t9 := Tryd.underlying9
  a9 := Tryd.isAgg9
  z9 := Tryd.sizeOf9
  v9 := Tryd.zeroValue9 }
open Go.RowKit Go.Lib in
/-- internal/stringslite.IndexByte (what strings.IndexByte calls): IT RETURNS 'Lib.indexByte s c'; the world is as it was. (LAID: no walk: one application.) -/
theorem Tryd.stringslite_IndexByte (s : ByteArray) (c : Int) (w : World) :
    Calls Tryd.prog 51 #[.string s, .int .u8 c] w fun e w' => e = .returned (.int .i64 (Lib.indexByte s.data.toList c.toNat.toUInt8)) ∧ w' = w := Any.stringslite_IndexByte Tryd.lays217 s c w
def Tryd.lays224_ren : Go.Shelf.Ren := ⟨fun | 224 => 64 | n => n, fun | 3 => 3 | n => n, fun | n => n⟩
theorem Tryd.lays224 : Go.Proofs.Lays.n224 Tryd.prog Tryd.lays224_ren := {
  mixed := by kernel_rfl
  f224 := Tryd.func64.trans (congrArg some (by kernel_rfl))
  t3 := Tryd.underlying3
  a3 := Tryd.isAgg3
  z3 := Tryd.sizeOf3
  v3 := Tryd.zeroValue3 }
open Go.RowKit Go.Lib in
/-- internal/bytealg.Cutover: "Cutover reports the number of failures of IndexByte we should tolerate before switching over to Index. n is the number of bytes processed so far.": on amd64: (n + 16) / 8. (LAID: no walk: one application.) -/
theorem Tryd.bytealg_Cutover (n : Int) (h0 : 0 ≤ n) (h1 : n < 4611686018427387904) (w : World) :
    Calls Tryd.prog 64 #[.int .i64 n] w fun e w' => e = .returned (.int .i64 ((n + 16) / 8)) ∧ w' = w := Any.bytealg_Cutover Tryd.lays224 n h0 h1 w
def Tryd.lays314_ren : Go.Shelf.Ren := ⟨fun | 314 => 77 | n => n, fun | 9 => 9 | 51 => 115 | 3 => 3 | 4 => 4 | 5 => 5 | 46 => 88 | n => n, fun | n => n⟩
theorem Tryd.lays314 : Go.Proofs.Lays.n314 Tryd.prog Tryd.lays314_ren := {
  mixed := by kernel_rfl
  f314 := Tryd.func77.trans (congrArg some (by kernel_rfl))
  t3 := Tryd.underlying3
  a3 := Tryd.isAgg3
  z3 := Tryd.sizeOf3
  v3 := Tryd.zeroValue3
  t4 := Tryd.underlying4
  a4 := Tryd.isAgg4
  z4 := Tryd.sizeOf4
  v4 := Tryd.zeroValue4
  t5 := Tryd.underlying5
  a5 := Tryd.isAgg5
  z5 := Tryd.sizeOf5
  v5 := Tryd.zeroValue5
  t9 := Tryd.underlying9
  a9 := Tryd.isAgg9
  z9 := Tryd.sizeOf9
  v9 := Tryd.zeroValue9
  t46 := Tryd.underlying88
  a46 := Tryd.isAgg88
  z46 := Tryd.sizeOf88
  v46 := Tryd.zeroValue88
  t51 := Tryd.underlying115
  a51 := Tryd.isAgg115
  z51 := Tryd.sizeOf115
  v51 := Tryd.zeroValue115 }
open Go.RowKit Go.Lib in
/-- hashStr: "returns the hash and the appropriate multiplicative factor for use in Rabin-Karp algorithm": THE HASH OF ALL OF sep, AND 16777619 ^ len(sep), both in uint32. (LAID: no walk: one application.) -/
theorem Tryd.bytealg_hashStr (sep : ByteArray) (hs : sep.size < 4294967281) (w : World) :
    Calls Tryd.prog 77 #[.string sep] w fun e w' => e = .returned (.tuple #[.int .u32 (RK.H sep.data.toList % 4294967296), .int .u32 (16777619 ^ sep.size % 4294967296)]) ∧ w' = w := Any.bytealg_hashStr Tryd.lays314 sep hs w
def Tryd.lays267_ren : Go.Shelf.Ren := ⟨fun | 267 => 65 | 314 => 77 | n => n, fun | 9 => 9 | 3 => 3 | 146 => 119 | 51 => 115 | 4 => 4 | 5 => 5 | 46 => 88 | n => n, fun | n => n⟩
theorem Tryd.lays267 : Go.Proofs.Lays.n267 Tryd.prog Tryd.lays267_ren := {
  mixed := by kernel_rfl
  f267 := Tryd.func65.trans (congrArg some (by kernel_rfl))
  f314 := Tryd.func77.trans (congrArg some (by kernel_rfl))
  t3 := Tryd.underlying3
  a3 := Tryd.isAgg3
  z3 := Tryd.sizeOf3
  v3 := Tryd.zeroValue3
  t4 := Tryd.underlying4
  a4 := Tryd.isAgg4
  z4 := Tryd.sizeOf4
  v4 := Tryd.zeroValue4
  t5 := Tryd.underlying5
  a5 := Tryd.isAgg5
  z5 := Tryd.sizeOf5
  v5 := Tryd.zeroValue5
  t9 := Tryd.underlying9
  a9 := Tryd.isAgg9
  z9 := Tryd.sizeOf9
  v9 := Tryd.zeroValue9
  t46 := Tryd.underlying88
  a46 := Tryd.isAgg88
  z46 := Tryd.sizeOf88
  v46 := Tryd.zeroValue88
  t51 := Tryd.underlying115
  a51 := Tryd.isAgg115
  z51 := Tryd.sizeOf115
  v51 := Tryd.zeroValue115
  t146 := Tryd.underlying119
  a146 := Tryd.isAgg119
  z146 := Tryd.sizeOf119
  v146 := Tryd.zeroValue119 }
open Go.RowKit Go.Lib in
theorem Tryd.bytealg_IndexRabinKarp (s sep : ByteArray) (h1 : 1 ≤ sep.size) (h2 : sep.size ≤ s.size) (hs : s.size < 4294967281) (w : World) :
    Calls Tryd.prog 65 #[.string s, .string sep] w fun e w' => e = .returned (.int .i64 (Lib.index s.data.toList sep.data.toList)) ∧ w' = w := Any.bytealg_IndexRabinKarp Tryd.lays267 s sep h1 h2 hs w
def Tryd.lays219_ren : Go.Shelf.Ren := ⟨fun | 219 => 54 | 217 => 51 | 225 => 63 | 224 => 64 | 267 => 65 | 266 => 58 | 314 => 77 | n => n, fun | 9 => 9 | 3 => 3 | 4 => 4 | 5 => 5 | 46 => 88 | 146 => 119 | 51 => 115 | n => n, fun | 1 => 0 | n => n⟩
theorem Tryd.lays219 : Go.Proofs.Lays.n219 Tryd.prog Tryd.lays219_ren := {
  mixed := by kernel_rfl
  f217 := Tryd.func51.trans (congrArg some (by kernel_rfl))
  f219 := Tryd.func54.trans (congrArg some (by kernel_rfl))
  f224 := Tryd.func64.trans (congrArg some (by kernel_rfl))
  f225 := Tryd.func63.trans (congrArg some (by kernel_rfl))
  f266 := Tryd.func58.trans (congrArg some (by kernel_rfl))
  f267 := Tryd.func65.trans (congrArg some (by kernel_rfl))
  f314 := Tryd.func77.trans (congrArg some (by kernel_rfl))
  t3 := Tryd.underlying3
  a3 := Tryd.isAgg3
  z3 := Tryd.sizeOf3
  v3 := Tryd.zeroValue3
  t4 := Tryd.underlying4
  a4 := Tryd.isAgg4
  z4 := Tryd.sizeOf4
  v4 := Tryd.zeroValue4
  t5 := Tryd.underlying5
  a5 := Tryd.isAgg5
  z5 := Tryd.sizeOf5
  v5 := Tryd.zeroValue5
  t9 := Tryd.underlying9
  a9 := Tryd.isAgg9
  z9 := Tryd.sizeOf9
  v9 := Tryd.zeroValue9
  t46 := Tryd.underlying88
  a46 := Tryd.isAgg88
  z46 := Tryd.sizeOf88
  v46 := Tryd.zeroValue88
  t51 := Tryd.underlying115
  a51 := Tryd.isAgg115
  z51 := Tryd.sizeOf115
  v51 := Tryd.zeroValue115
  t146 := Tryd.underlying119
  a146 := Tryd.isAgg119
  z146 := Tryd.sizeOf119
  v146 := Tryd.zeroValue119
  g1 := by kernel_rfl }
open Go.RowKit Go.Lib in
/-- internal/stringslite.Index (what strings.Index calls) AT A substr OF ONE BYTE c: IT RETURNS 'Lib.indexByte s c'; the world is as it was. (LAID: no walk: one application.) -/
theorem Tryd.stringslite_Index_one (s : ByteArray) (c : UInt8) (w : World) :
    Calls Tryd.prog 54 #[.string s, .string ⟨#[c]⟩] w fun e w' => e = .returned (.int .i64 (Lib.indexByte s.data.toList c)) ∧ w' = w := Any.stringslite_Index_one Tryd.lays219 s c w
open Go.RowKit Go.Lib in
/-- internal/stringslite.Index (what strings.Index calls) AT A substr OF WHATEVER LENGTH: IT RETURNS 'Lib.index s substr'; the world is as it was. 'm': what internal/bytealg.MaxLen holds: whatever. (LAID: no walk: one application.) -/
theorem Tryd.stringslite_Index (s sub : ByteArray) (m : Int) (w : World) (hs : s.size < 4294967281) (hm : w.cell? ⟨0, 0, none⟩ = some (.int .i64 m)) :
    Calls Tryd.prog 54 #[.string s, .string sub] w fun e w' => e = .returned (.int .i64 (Lib.index s.data.toList sub.data.toList)) ∧ w' = w := Any.stringslite_Index Tryd.lays219 s sub m w hs hm
def Tryd.lays143_ren : Go.Shelf.Ren := ⟨fun | 143 => 69 | 219 => 54 | 217 => 51 | 225 => 63 | 224 => 64 | 267 => 65 | 266 => 58 | 314 => 77 | n => n, fun | 9 => 9 | 3 => 3 | 4 => 4 | 5 => 5 | 46 => 88 | 146 => 119 | 51 => 115 | n => n, fun | 1 => 0 | n => n⟩
theorem Tryd.lays143 : Go.Proofs.Lays.n143 Tryd.prog Tryd.lays143_ren := {
  mixed := by kernel_rfl
  f143 := Tryd.func69.trans (congrArg some (by kernel_rfl))
  f217 := Tryd.func51.trans (congrArg some (by kernel_rfl))
  f219 := Tryd.func54.trans (congrArg some (by kernel_rfl))
  f224 := Tryd.func64.trans (congrArg some (by kernel_rfl))
  f225 := Tryd.func63.trans (congrArg some (by kernel_rfl))
  f266 := Tryd.func58.trans (congrArg some (by kernel_rfl))
  f267 := Tryd.func65.trans (congrArg some (by kernel_rfl))
  f314 := Tryd.func77.trans (congrArg some (by kernel_rfl))
  t3 := Tryd.underlying3
  a3 := Tryd.isAgg3
  z3 := Tryd.sizeOf3
  v3 := Tryd.zeroValue3
  t4 := Tryd.underlying4
  a4 := Tryd.isAgg4
  z4 := Tryd.sizeOf4
  v4 := Tryd.zeroValue4
  t5 := Tryd.underlying5
  a5 := Tryd.isAgg5
  z5 := Tryd.sizeOf5
  v5 := Tryd.zeroValue5
  t9 := Tryd.underlying9
  a9 := Tryd.isAgg9
  z9 := Tryd.sizeOf9
  v9 := Tryd.zeroValue9
  t46 := Tryd.underlying88
  a46 := Tryd.isAgg88
  z46 := Tryd.sizeOf88
  v46 := Tryd.zeroValue88
  t51 := Tryd.underlying115
  a51 := Tryd.isAgg115
  z51 := Tryd.sizeOf115
  v51 := Tryd.zeroValue115
  t146 := Tryd.underlying119
  a146 := Tryd.isAgg119
  z146 := Tryd.sizeOf119
  v146 := Tryd.zeroValue119
  g1 := by kernel_rfl }
open Go.RowKit Go.Lib in
/-- strings.Index: "Index returns the index of the first instance of substr in s, or -1 if substr is not present in s.": AT A substr OF ONE BYTE c: IT RETURNS 'Lib.indexByte s c'; the world is as it was. (LAID: no walk: one application.) -/
theorem Tryd.strings_Index_one (s : ByteArray) (c : UInt8) (w : World) :
    Calls Tryd.prog 69 #[.string s, .string ⟨#[c]⟩] w fun e w' => e = .returned (.int .i64 (Lib.indexByte s.data.toList c)) ∧ w' = w := Any.strings_Index_one Tryd.lays143 s c w
open Go.RowKit Go.Lib in
/-- strings.Index: "Index returns the index of the first instance of substr in s, or -1 if substr is not present in s.": IT RETURNS 'Lib.index s substr'; the world is as it was. (LAID: no walk: one application.) -/
theorem Tryd.strings_Index (s sub : ByteArray) (m : Int) (w : World) (hs : s.size < 4294967281) (hm : w.cell? ⟨0, 0, none⟩ = some (.int .i64 m)) :
    Calls Tryd.prog 69 #[.string s, .string sub] w fun e w' => e = .returned (.int .i64 (Lib.index s.data.toList sub.data.toList)) ∧ w' = w := Any.strings_Index Tryd.lays143 s sub m w hs hm
def Tryd.lays220_ren : Go.Shelf.Ren := ⟨fun | 220 => 46 | 219 => 54 | 217 => 51 | 225 => 63 | 224 => 64 | 267 => 65 | 266 => 58 | 314 => 77 | n => n, fun | 9 => 9 | 4 => 4 | 3 => 3 | 5 => 5 | 46 => 88 | 146 => 119 | 51 => 115 | n => n, fun | 1 => 0 | n => n⟩
theorem Tryd.lays220 : Go.Proofs.Lays.n220 Tryd.prog Tryd.lays220_ren := {
  mixed := by kernel_rfl
  f217 := Tryd.func51.trans (congrArg some (by kernel_rfl))
  f219 := Tryd.func54.trans (congrArg some (by kernel_rfl))
  f220 := Tryd.func46.trans (congrArg some (by kernel_rfl))
  f224 := Tryd.func64.trans (congrArg some (by kernel_rfl))
  f225 := Tryd.func63.trans (congrArg some (by kernel_rfl))
  f266 := Tryd.func58.trans (congrArg some (by kernel_rfl))
  f267 := Tryd.func65.trans (congrArg some (by kernel_rfl))
  f314 := Tryd.func77.trans (congrArg some (by kernel_rfl))
  t3 := Tryd.underlying3
  a3 := Tryd.isAgg3
  z3 := Tryd.sizeOf3
  v3 := Tryd.zeroValue3
  t4 := Tryd.underlying4
  a4 := Tryd.isAgg4
  z4 := Tryd.sizeOf4
  v4 := Tryd.zeroValue4
  t5 := Tryd.underlying5
  a5 := Tryd.isAgg5
  z5 := Tryd.sizeOf5
  v5 := Tryd.zeroValue5
  t9 := Tryd.underlying9
  a9 := Tryd.isAgg9
  z9 := Tryd.sizeOf9
  v9 := Tryd.zeroValue9
  t46 := Tryd.underlying88
  a46 := Tryd.isAgg88
  z46 := Tryd.sizeOf88
  v46 := Tryd.zeroValue88
  t51 := Tryd.underlying115
  a51 := Tryd.isAgg115
  z51 := Tryd.sizeOf115
  v51 := Tryd.zeroValue115
  t146 := Tryd.underlying119
  a146 := Tryd.isAgg119
  z146 := Tryd.sizeOf119
  v146 := Tryd.zeroValue119
  g1 := by kernel_rfl }
open Go.RowKit Go.Lib in
/-- internal/stringslite.Cut (what strings.Cut calls): IT RETURNS 'Lib.cut s sep'; the world is as it was but for the count of draws. (LAID: no walk: one application.) -/
theorem Tryd.stringslite_Cut (s sep : ByteArray) (m : Int) (w : World) (hs : s.size < 4294967281) (hm : w.cell? ⟨0, 0, none⟩ = some (.int .i64 m)) :
    Calls Tryd.prog 46 #[.string s, .string sep] w fun e w' => e = .returned (.tuple #[.string ⟨(Lib.cut s.data.toList sep.data.toList).1.toArray⟩, .string ⟨(Lib.cut s.data.toList sep.data.toList).2.1.toArray⟩, .bool (Lib.cut s.data.toList sep.data.toList).2.2]) ∧ ∃ n, w' = w.drewN n := Any.stringslite_Cut Tryd.lays220 s sep m w hs hm
def Tryd.lays145_ren : Go.Shelf.Ren := ⟨fun | 145 => 36 | 220 => 46 | 219 => 54 | 217 => 51 | 225 => 63 | 224 => 64 | 267 => 65 | 266 => 58 | 314 => 77 | n => n, fun | 9 => 9 | 4 => 4 | 59 => 79 | 3 => 3 | 5 => 5 | 46 => 88 | 146 => 119 | 51 => 115 | n => n, fun | 1 => 0 | n => n⟩
theorem Tryd.lays145 : Go.Proofs.Lays.n145 Tryd.prog Tryd.lays145_ren := {
  mixed := by kernel_rfl
  f145 := Tryd.func36.trans (congrArg some (by kernel_rfl))
  f217 := Tryd.func51.trans (congrArg some (by kernel_rfl))
  f219 := Tryd.func54.trans (congrArg some (by kernel_rfl))
  f220 := Tryd.func46.trans (congrArg some (by kernel_rfl))
  f224 := Tryd.func64.trans (congrArg some (by kernel_rfl))
  f225 := Tryd.func63.trans (congrArg some (by kernel_rfl))
  f266 := Tryd.func58.trans (congrArg some (by kernel_rfl))
  f267 := Tryd.func65.trans (congrArg some (by kernel_rfl))
  f314 := Tryd.func77.trans (congrArg some (by kernel_rfl))
  t3 := Tryd.underlying3
  a3 := Tryd.isAgg3
  z3 := Tryd.sizeOf3
  v3 := Tryd.zeroValue3
  t4 := Tryd.underlying4
  a4 := Tryd.isAgg4
  z4 := Tryd.sizeOf4
  v4 := Tryd.zeroValue4
  t5 := Tryd.underlying5
  a5 := Tryd.isAgg5
  z5 := Tryd.sizeOf5
  v5 := Tryd.zeroValue5
  t9 := Tryd.underlying9
  a9 := Tryd.isAgg9
  z9 := Tryd.sizeOf9
  v9 := Tryd.zeroValue9
  t46 := Tryd.underlying88
  a46 := Tryd.isAgg88
  z46 := Tryd.sizeOf88
  v46 := Tryd.zeroValue88
  t51 := Tryd.underlying115
  a51 := Tryd.isAgg115
  z51 := Tryd.sizeOf115
  v51 := Tryd.zeroValue115
  t59 := Tryd.underlying79
  a59 := Tryd.isAgg79
  z59 := Tryd.sizeOf79
  v59 := Tryd.zeroValue79
  t146 := Tryd.underlying119
  a146 := Tryd.isAgg119
  z146 := Tryd.sizeOf119
  v146 := Tryd.zeroValue119
  g1 := by kernel_rfl }
open Go.RowKit Go.Lib in
/-- strings.Cut: "Cut slices s around the first instance of sep, returning the text before and after sep. The found result reports whether sep appears in s. If sep does not appear in s, cut returns s, "", false.": IT RETURNS 'Lib.cut s sep'; the world is as it was but for the count of draws. (LAID: no walk: one application.) -/
theorem Tryd.strings_Cut (s sep : ByteArray) (m : Int) (w : World) (hs : s.size < 4294967281) (hm : w.cell? ⟨0, 0, none⟩ = some (.int .i64 m)) :
    Calls Tryd.prog 36 #[.string s, .string sep] w fun e w' => e = .returned (.tuple #[.string ⟨(Lib.cut s.data.toList sep.data.toList).1.toArray⟩, .string ⟨(Lib.cut s.data.toList sep.data.toList).2.1.toArray⟩, .bool (Lib.cut s.data.toList sep.data.toList).2.2]) ∧ ∃ n, w' = w.drewN n := Any.strings_Cut Tryd.lays145 s sep m w hs hm
def Tryd.lays138_ren : Go.Shelf.Ren := ⟨fun | 138 => 68 | 195 => 78 | 218 => 80 | 143 => 69 | 219 => 54 | 217 => 51 | 225 => 63 | 224 => 64 | 267 => 65 | 266 => 58 | 314 => 77 | n => n, fun | 9 => 9 | 3 => 3 | 4 => 4 | 5 => 5 | 0 => 0 | 46 => 88 | 146 => 119 | 51 => 115 | n => n, fun | 1 => 0 | n => n⟩
theorem Tryd.lays138 : Go.Proofs.Lays.n138 Tryd.prog Tryd.lays138_ren := {
  mixed := by kernel_rfl
  f138 := Tryd.func68.trans (congrArg some (by kernel_rfl))
  f143 := Tryd.func69.trans (congrArg some (by kernel_rfl))
  f195 := Tryd.func78.trans (congrArg some (by kernel_rfl))
  f217 := Tryd.func51.trans (congrArg some (by kernel_rfl))
  f218 := Tryd.func80.trans (congrArg some (by kernel_rfl))
  f219 := Tryd.func54.trans (congrArg some (by kernel_rfl))
  f224 := Tryd.func64.trans (congrArg some (by kernel_rfl))
  f225 := Tryd.func63.trans (congrArg some (by kernel_rfl))
  f266 := Tryd.func58.trans (congrArg some (by kernel_rfl))
  f267 := Tryd.func65.trans (congrArg some (by kernel_rfl))
  f314 := Tryd.func77.trans (congrArg some (by kernel_rfl))
  t0 := Tryd.underlying0
  a0 := Tryd.isAgg0
  z0 := Tryd.sizeOf0
  v0 := Tryd.zeroValue0
  t3 := Tryd.underlying3
  a3 := Tryd.isAgg3
  z3 := Tryd.sizeOf3
  v3 := Tryd.zeroValue3
  t4 := Tryd.underlying4
  a4 := Tryd.isAgg4
  z4 := Tryd.sizeOf4
  v4 := Tryd.zeroValue4
  t5 := Tryd.underlying5
  a5 := Tryd.isAgg5
  z5 := Tryd.sizeOf5
  v5 := Tryd.zeroValue5
  t9 := Tryd.underlying9
  a9 := Tryd.isAgg9
  z9 := Tryd.sizeOf9
  v9 := Tryd.zeroValue9
  t46 := Tryd.underlying88
  a46 := Tryd.isAgg88
  z46 := Tryd.sizeOf88
  v46 := Tryd.zeroValue88
  t51 := Tryd.underlying115
  a51 := Tryd.isAgg115
  z51 := Tryd.sizeOf115
  v51 := Tryd.zeroValue115
  t146 := Tryd.underlying119
  a146 := Tryd.isAgg119
  z146 := Tryd.sizeOf119
  v146 := Tryd.zeroValue119
  g1 := by kernel_rfl }
open Go.RowKit Go.Lib in
/-- strings.Count AT A substr OF ONE BYTE ('hp'): "Count counts the number of non-overlapping instances of substr in s.": IT RETURNS 'Lib.countByte s (that byte)'; the world is as it was. ✋ NO CONTRACT HERE YET at an empty substr (utf8.RuneCountInString) or at a longer one (a loop over strings.Index). (LAID: no walk: one application.) -/
theorem Tryd.strings_Count_one (s : ByteArray) (c : UInt8) (w : World) :
    Calls Tryd.prog 68 #[.string s, .string ⟨#[c]⟩] w fun e w' => e = .returned (.int .i64 (Lib.countByte s.data.toList c)) ∧ w' = w := Any.strings_Count_one Tryd.lays138 s c w
open Go.RowKit Go.Lib in
/-- strings.Count AT A substr OF TWO BYTES OR MORE: "Count counts the number of non-overlapping instances of substr in s.": IT RETURNS 'Lib.count s substr'; the world is as it was. (LAID: no walk: one application.) -/
theorem Tryd.strings_Count (s sub : ByteArray) (m : Int) (w : World) (hs : s.size < 4294967281) (hm : w.cell? ⟨0, 0, none⟩ = some (.int .i64 m)) (h2 : 2 ≤ sub.size) :
    Calls Tryd.prog 68 #[.string s, .string sub] w fun e w' => e = .returned (.int .i64 (Lib.countB s sub)) ∧ w' = w := Any.strings_Count Tryd.lays138 s sub m w hs hm h2
def Tryd.laysM219_ren : Go.Shelf.Ren := ⟨fun | 219 => 54 | 217 => 51 | 225 => 63 | 224 => 64 | 267 => 65 | 266 => 58 | 314 => 77 | n => n, fun | 9 => 9 | 3 => 3 | 4 => 4 | 5 => 5 | 46 => 88 | 146 => 119 | 51 => 115 | n => n, fun | 1 => 0 | n => n⟩
theorem Tryd.laysM219 : Go.Proofs.LaysM.n219 Tryd.prog Tryd.laysM219_ren := {
  mixed := by kernel_rfl
  f217 := Tryd.func51.trans (congrArg some (by kernel_rfl))
  f219 := Tryd.func54.trans (congrArg some (by kernel_rfl))
  f224 := Tryd.func64.trans (congrArg some (by kernel_rfl))
  f225 := Tryd.func63.trans (congrArg some (by kernel_rfl))
  f266 := Tryd.func58.trans (congrArg some (by kernel_rfl))
  f267 := Tryd.func65.trans (congrArg some (by kernel_rfl))
  f314 := Tryd.func77.trans (congrArg some (by kernel_rfl))
  t3 := Tryd.underlying3
  a3 := Tryd.isAgg3
  z3 := Tryd.sizeOf3
  v3 := Tryd.zeroValue3
  t4 := Tryd.underlying4
  a4 := Tryd.isAgg4
  z4 := Tryd.sizeOf4
  v4 := Tryd.zeroValue4
  t5 := Tryd.underlying5
  a5 := Tryd.isAgg5
  z5 := Tryd.sizeOf5
  v5 := Tryd.zeroValue5
  t9 := Tryd.underlying9
  a9 := Tryd.isAgg9
  z9 := Tryd.sizeOf9
  v9 := Tryd.zeroValue9
  t46 := Tryd.underlying88
  a46 := Tryd.isAgg88
  z46 := Tryd.sizeOf88
  v46 := Tryd.zeroValue88
  t51 := Tryd.underlying115
  a51 := Tryd.isAgg115
  z51 := Tryd.sizeOf115
  v51 := Tryd.zeroValue115
  t146 := Tryd.underlying119
  a146 := Tryd.isAgg119
  z146 := Tryd.sizeOf119
  v146 := Tryd.zeroValue119
  g1 := by kernel_rfl
  i3 := by kernel_rfl
  i4 := by kernel_rfl
  i5 := by kernel_rfl
  i9 := by kernel_rfl
  i46 := by kernel_rfl
  i51 := by kernel_rfl
  i146 := by kernel_rfl
  m1 := by kernel_rfl
  s1_3 := fun w h => Go.Proofs.cell_of_shapedOpen_int (zero := #[.int .i64 0]) (t := 3) h (of_decide_eq_true (by kernel_rfl)) (by kernel_rfl) rfl (by kernel_rfl) (by kernel_rfl) Tryd.underlying3 }
open Go.RowKit Go.Lib in
theorem Tryd.stringslite_Index_shaped (s sub : ByteArray) (w : World) (h : w.ShapedOpen Tryd.prog) (hs : s.size < 4294967281) :
    Calls Tryd.prog 54 #[.string s, .string sub] w fun e w' => e = .returned (.int .i64 (Lib.index s.data.toList sub.data.toList)) ∧ w' = w := Any.stringslite_Index_shaped Tryd.laysM219 s sub w h hs
def Tryd.laysM143_ren : Go.Shelf.Ren := ⟨fun | 143 => 69 | 219 => 54 | 217 => 51 | 225 => 63 | 224 => 64 | 267 => 65 | 266 => 58 | 314 => 77 | n => n, fun | 9 => 9 | 3 => 3 | 4 => 4 | 5 => 5 | 46 => 88 | 146 => 119 | 51 => 115 | n => n, fun | 1 => 0 | n => n⟩
theorem Tryd.laysM143 : Go.Proofs.LaysM.n143 Tryd.prog Tryd.laysM143_ren := {
  mixed := by kernel_rfl
  f143 := Tryd.func69.trans (congrArg some (by kernel_rfl))
  f217 := Tryd.func51.trans (congrArg some (by kernel_rfl))
  f219 := Tryd.func54.trans (congrArg some (by kernel_rfl))
  f224 := Tryd.func64.trans (congrArg some (by kernel_rfl))
  f225 := Tryd.func63.trans (congrArg some (by kernel_rfl))
  f266 := Tryd.func58.trans (congrArg some (by kernel_rfl))
  f267 := Tryd.func65.trans (congrArg some (by kernel_rfl))
  f314 := Tryd.func77.trans (congrArg some (by kernel_rfl))
  t3 := Tryd.underlying3
  a3 := Tryd.isAgg3
  z3 := Tryd.sizeOf3
  v3 := Tryd.zeroValue3
  t4 := Tryd.underlying4
  a4 := Tryd.isAgg4
  z4 := Tryd.sizeOf4
  v4 := Tryd.zeroValue4
  t5 := Tryd.underlying5
  a5 := Tryd.isAgg5
  z5 := Tryd.sizeOf5
  v5 := Tryd.zeroValue5
  t9 := Tryd.underlying9
  a9 := Tryd.isAgg9
  z9 := Tryd.sizeOf9
  v9 := Tryd.zeroValue9
  t46 := Tryd.underlying88
  a46 := Tryd.isAgg88
  z46 := Tryd.sizeOf88
  v46 := Tryd.zeroValue88
  t51 := Tryd.underlying115
  a51 := Tryd.isAgg115
  z51 := Tryd.sizeOf115
  v51 := Tryd.zeroValue115
  t146 := Tryd.underlying119
  a146 := Tryd.isAgg119
  z146 := Tryd.sizeOf119
  v146 := Tryd.zeroValue119
  g1 := by kernel_rfl
  i3 := by kernel_rfl
  i4 := by kernel_rfl
  i5 := by kernel_rfl
  i9 := by kernel_rfl
  i46 := by kernel_rfl
  i51 := by kernel_rfl
  i146 := by kernel_rfl
  m1 := by kernel_rfl
  s1_3 := fun w h => Go.Proofs.cell_of_shapedOpen_int (zero := #[.int .i64 0]) (t := 3) h (of_decide_eq_true (by kernel_rfl)) (by kernel_rfl) rfl (by kernel_rfl) (by kernel_rfl) Tryd.underlying3 }
open Go.RowKit Go.Lib in
theorem Tryd.strings_Index_shaped (s sub : ByteArray) (w : World) (h : w.ShapedOpen Tryd.prog) (hs : s.size < 4294967281) :
    Calls Tryd.prog 69 #[.string s, .string sub] w fun e w' => e = .returned (.int .i64 (Lib.index s.data.toList sub.data.toList)) ∧ w' = w := Any.strings_Index_shaped Tryd.laysM143 s sub w h hs
def Tryd.laysM220_ren : Go.Shelf.Ren := ⟨fun | 220 => 46 | 219 => 54 | 217 => 51 | 225 => 63 | 224 => 64 | 267 => 65 | 266 => 58 | 314 => 77 | n => n, fun | 9 => 9 | 4 => 4 | 3 => 3 | 5 => 5 | 46 => 88 | 146 => 119 | 51 => 115 | n => n, fun | 1 => 0 | n => n⟩
theorem Tryd.laysM220 : Go.Proofs.LaysM.n220 Tryd.prog Tryd.laysM220_ren := {
  mixed := by kernel_rfl
  f217 := Tryd.func51.trans (congrArg some (by kernel_rfl))
  f219 := Tryd.func54.trans (congrArg some (by kernel_rfl))
  f220 := Tryd.func46.trans (congrArg some (by kernel_rfl))
  f224 := Tryd.func64.trans (congrArg some (by kernel_rfl))
  f225 := Tryd.func63.trans (congrArg some (by kernel_rfl))
  f266 := Tryd.func58.trans (congrArg some (by kernel_rfl))
  f267 := Tryd.func65.trans (congrArg some (by kernel_rfl))
  f314 := Tryd.func77.trans (congrArg some (by kernel_rfl))
  t3 := Tryd.underlying3
  a3 := Tryd.isAgg3
  z3 := Tryd.sizeOf3
  v3 := Tryd.zeroValue3
  t4 := Tryd.underlying4
  a4 := Tryd.isAgg4
  z4 := Tryd.sizeOf4
  v4 := Tryd.zeroValue4
  t5 := Tryd.underlying5
  a5 := Tryd.isAgg5
  z5 := Tryd.sizeOf5
  v5 := Tryd.zeroValue5
  t9 := Tryd.underlying9
  a9 := Tryd.isAgg9
  z9 := Tryd.sizeOf9
  v9 := Tryd.zeroValue9
  t46 := Tryd.underlying88
  a46 := Tryd.isAgg88
  z46 := Tryd.sizeOf88
  v46 := Tryd.zeroValue88
  t51 := Tryd.underlying115
  a51 := Tryd.isAgg115
  z51 := Tryd.sizeOf115
  v51 := Tryd.zeroValue115
  t146 := Tryd.underlying119
  a146 := Tryd.isAgg119
  z146 := Tryd.sizeOf119
  v146 := Tryd.zeroValue119
  g1 := by kernel_rfl
  i3 := by kernel_rfl
  i4 := by kernel_rfl
  i5 := by kernel_rfl
  i9 := by kernel_rfl
  i46 := by kernel_rfl
  i51 := by kernel_rfl
  i146 := by kernel_rfl
  m1 := by kernel_rfl
  s1_3 := fun w h => Go.Proofs.cell_of_shapedOpen_int (zero := #[.int .i64 0]) (t := 3) h (of_decide_eq_true (by kernel_rfl)) (by kernel_rfl) rfl (by kernel_rfl) (by kernel_rfl) Tryd.underlying3 }
open Go.RowKit Go.Lib in
theorem Tryd.stringslite_Cut_shaped (s sep : ByteArray) (w : World) (h : w.ShapedOpen Tryd.prog) (hs : s.size < 4294967281) :
    Calls Tryd.prog 46 #[.string s, .string sep] w fun e w' => e = .returned (.tuple #[.string ⟨(Lib.cut s.data.toList sep.data.toList).1.toArray⟩, .string ⟨(Lib.cut s.data.toList sep.data.toList).2.1.toArray⟩, .bool (Lib.cut s.data.toList sep.data.toList).2.2]) ∧ ∃ n, w' = w.drewN n := Any.stringslite_Cut_shaped Tryd.laysM220 s sep w h hs
def Tryd.laysM145_ren : Go.Shelf.Ren := ⟨fun | 145 => 36 | 220 => 46 | 219 => 54 | 217 => 51 | 225 => 63 | 224 => 64 | 267 => 65 | 266 => 58 | 314 => 77 | n => n, fun | 9 => 9 | 4 => 4 | 59 => 79 | 3 => 3 | 5 => 5 | 46 => 88 | 146 => 119 | 51 => 115 | n => n, fun | 1 => 0 | n => n⟩
theorem Tryd.laysM145 : Go.Proofs.LaysM.n145 Tryd.prog Tryd.laysM145_ren := {
  mixed := by kernel_rfl
  f145 := Tryd.func36.trans (congrArg some (by kernel_rfl))
  f217 := Tryd.func51.trans (congrArg some (by kernel_rfl))
  f219 := Tryd.func54.trans (congrArg some (by kernel_rfl))
  f220 := Tryd.func46.trans (congrArg some (by kernel_rfl))
  f224 := Tryd.func64.trans (congrArg some (by kernel_rfl))
  f225 := Tryd.func63.trans (congrArg some (by kernel_rfl))
  f266 := Tryd.func58.trans (congrArg some (by kernel_rfl))
  f267 := Tryd.func65.trans (congrArg some (by kernel_rfl))
  f314 := Tryd.func77.trans (congrArg some (by kernel_rfl))
  t3 := Tryd.underlying3
  a3 := Tryd.isAgg3
  z3 := Tryd.sizeOf3
  v3 := Tryd.zeroValue3
  t4 := Tryd.underlying4
  a4 := Tryd.isAgg4
  z4 := Tryd.sizeOf4
  v4 := Tryd.zeroValue4
  t5 := Tryd.underlying5
  a5 := Tryd.isAgg5
  z5 := Tryd.sizeOf5
  v5 := Tryd.zeroValue5
  t9 := Tryd.underlying9
  a9 := Tryd.isAgg9
  z9 := Tryd.sizeOf9
  v9 := Tryd.zeroValue9
  t46 := Tryd.underlying88
  a46 := Tryd.isAgg88
  z46 := Tryd.sizeOf88
  v46 := Tryd.zeroValue88
  t51 := Tryd.underlying115
  a51 := Tryd.isAgg115
  z51 := Tryd.sizeOf115
  v51 := Tryd.zeroValue115
  t59 := Tryd.underlying79
  a59 := Tryd.isAgg79
  z59 := Tryd.sizeOf79
  v59 := Tryd.zeroValue79
  t146 := Tryd.underlying119
  a146 := Tryd.isAgg119
  z146 := Tryd.sizeOf119
  v146 := Tryd.zeroValue119
  g1 := by kernel_rfl
  i3 := by kernel_rfl
  i4 := by kernel_rfl
  i5 := by kernel_rfl
  i9 := by kernel_rfl
  i46 := by kernel_rfl
  i51 := by kernel_rfl
  i59 := by kernel_rfl
  i146 := by kernel_rfl
  m1 := by kernel_rfl
  s1_3 := fun w h => Go.Proofs.cell_of_shapedOpen_int (zero := #[.int .i64 0]) (t := 3) h (of_decide_eq_true (by kernel_rfl)) (by kernel_rfl) rfl (by kernel_rfl) (by kernel_rfl) Tryd.underlying3 }
open Go.RowKit Go.Lib in
theorem Tryd.strings_Cut_shaped (s sep : ByteArray) (w : World) (h : w.ShapedOpen Tryd.prog) (hs : s.size < 4294967281) :
    Calls Tryd.prog 36 #[.string s, .string sep] w fun e w' => e = .returned (.tuple #[.string ⟨(Lib.cut s.data.toList sep.data.toList).1.toArray⟩, .string ⟨(Lib.cut s.data.toList sep.data.toList).2.1.toArray⟩, .bool (Lib.cut s.data.toList sep.data.toList).2.2]) ∧ ∃ n, w' = w.drewN n := Any.strings_Cut_shaped Tryd.laysM145 s sep w h hs
def Tryd.laysM138_ren : Go.Shelf.Ren := ⟨fun | 138 => 68 | 195 => 78 | 218 => 80 | 143 => 69 | 219 => 54 | 217 => 51 | 225 => 63 | 224 => 64 | 267 => 65 | 266 => 58 | 314 => 77 | n => n, fun | 9 => 9 | 3 => 3 | 4 => 4 | 5 => 5 | 0 => 0 | 46 => 88 | 146 => 119 | 51 => 115 | n => n, fun | 1 => 0 | n => n⟩
theorem Tryd.laysM138 : Go.Proofs.LaysM.n138 Tryd.prog Tryd.laysM138_ren := {
  mixed := by kernel_rfl
  f138 := Tryd.func68.trans (congrArg some (by kernel_rfl))
  f143 := Tryd.func69.trans (congrArg some (by kernel_rfl))
  f195 := Tryd.func78.trans (congrArg some (by kernel_rfl))
  f217 := Tryd.func51.trans (congrArg some (by kernel_rfl))
  f218 := Tryd.func80.trans (congrArg some (by kernel_rfl))
  f219 := Tryd.func54.trans (congrArg some (by kernel_rfl))
  f224 := Tryd.func64.trans (congrArg some (by kernel_rfl))
  f225 := Tryd.func63.trans (congrArg some (by kernel_rfl))
  f266 := Tryd.func58.trans (congrArg some (by kernel_rfl))
  f267 := Tryd.func65.trans (congrArg some (by kernel_rfl))
  f314 := Tryd.func77.trans (congrArg some (by kernel_rfl))
  t0 := Tryd.underlying0
  a0 := Tryd.isAgg0
  z0 := Tryd.sizeOf0
  v0 := Tryd.zeroValue0
  t3 := Tryd.underlying3
  a3 := Tryd.isAgg3
  z3 := Tryd.sizeOf3
  v3 := Tryd.zeroValue3
  t4 := Tryd.underlying4
  a4 := Tryd.isAgg4
  z4 := Tryd.sizeOf4
  v4 := Tryd.zeroValue4
  t5 := Tryd.underlying5
  a5 := Tryd.isAgg5
  z5 := Tryd.sizeOf5
  v5 := Tryd.zeroValue5
  t9 := Tryd.underlying9
  a9 := Tryd.isAgg9
  z9 := Tryd.sizeOf9
  v9 := Tryd.zeroValue9
  t46 := Tryd.underlying88
  a46 := Tryd.isAgg88
  z46 := Tryd.sizeOf88
  v46 := Tryd.zeroValue88
  t51 := Tryd.underlying115
  a51 := Tryd.isAgg115
  z51 := Tryd.sizeOf115
  v51 := Tryd.zeroValue115
  t146 := Tryd.underlying119
  a146 := Tryd.isAgg119
  z146 := Tryd.sizeOf119
  v146 := Tryd.zeroValue119
  g1 := by kernel_rfl
  i0 := by kernel_rfl
  i3 := by kernel_rfl
  i4 := by kernel_rfl
  i5 := by kernel_rfl
  i9 := by kernel_rfl
  i46 := by kernel_rfl
  i51 := by kernel_rfl
  i146 := by kernel_rfl
  m1 := by kernel_rfl
  s1_3 := fun w h => Go.Proofs.cell_of_shapedOpen_int (zero := #[.int .i64 0]) (t := 3) h (of_decide_eq_true (by kernel_rfl)) (by kernel_rfl) rfl (by kernel_rfl) (by kernel_rfl) Tryd.underlying3 }
open Go.RowKit Go.Lib in
theorem Tryd.strings_Count_shaped (s sub : ByteArray) (w : World) (h : w.ShapedOpen Tryd.prog) (hs : s.size < 4294967281) (h2 : 2 ≤ sub.size) :
    Calls Tryd.prog 68 #[.string s, .string sub] w fun e w' => e = .returned (.int .i64 (Lib.countB s sub)) ∧ w' = w := Any.strings_Count_shaped Tryd.laysM138 s sub w h hs h2
def Tryd.lays207_ren : Go.Shelf.Ren := ⟨fun | 207 => 66 | n => n, fun | 9 => 9 | 4 => 4 | 3 => 3 | n => n, fun | n => n⟩
theorem Tryd.lays207 : Go.Proofs.Lays.n207 Tryd.prog Tryd.lays207_ren := {
  mixed := by kernel_rfl
  f207 := Tryd.func66.trans (congrArg some (by kernel_rfl))
  t3 := Tryd.underlying3
  a3 := Tryd.isAgg3
  z3 := Tryd.sizeOf3
  v3 := Tryd.zeroValue3
  t4 := Tryd.underlying4
  a4 := Tryd.isAgg4
  z4 := Tryd.sizeOf4
  v4 := Tryd.zeroValue4
  t9 := Tryd.underlying9
  a9 := Tryd.isAgg9
  z9 := Tryd.sizeOf9
  v9 := Tryd.zeroValue9 }
open Go.RowKit Go.Lib in
/-- internal/stringslite.HasSuffix (what strings.HasSuffix calls). (LAID: no walk: one application.) -/
theorem Tryd.stringslite_HasSuffix (s p : ByteArray) (w : World) (hs : s.size ≤ 9223372036854775807) :
    Calls Tryd.prog 66 #[.string s, .string p] w fun e w' => e = .returned (.bool (Lib.hasSuffix s.data.toList p.data.toList)) ∧ w' = w := Any.stringslite_HasSuffix Tryd.lays207 s p w hs
open Go.RowKit Go.Lib in
/-- strings.Count at whatever sep that is not empty: the two roads under one statement. (LAID: no walk: one application.) -/
theorem Tryd.strings_Count_any (s sep : ByteArray) (m : Int) (w : World) (hs : s.size < 4294967281) (hm : w.cell? ⟨0, 0, none⟩ = some (.int .i64 m)) (h1 : 1 ≤ sep.size) :
    Calls Tryd.prog 68 #[.string s, .string sep] w fun e w' => e = .returned (.int .i64 (Lib.countB s sep)) ∧ w' = w := Any.strings_Count_any Tryd.lays138 s sep m w hs hm h1
def Tryd.lays221_ren : Go.Shelf.Ren := ⟨fun | 221 => 56 | 268 => 67 | 138 => 68 | 143 => 69 | 195 => 78 | 197 => 79 | 218 => 80 | 219 => 54 | 260 => 88 | 217 => 51 | 225 => 63 | 224 => 64 | 267 => 65 | 266 => 58 | 314 => 77 | n => n, fun | 9 => 9 | 3 => 3 | 31 => 63 | 4 => 4 | 0 => 0 | 105 => 122 | 21 => 21 | 5 => 5 | 46 => 88 | 119 => 139 | 139 => 142 | 138 => 141 | 146 => 119 | 51 => 115 | n => n, fun | 1 => 0 | 3 => 6 | 4 => 7 | n => n⟩
theorem Tryd.lays221 : Go.Proofs.Lays.n221 Tryd.prog Tryd.lays221_ren := {
  mixed := by kernel_rfl
  f138 := Tryd.func68.trans (congrArg some (by kernel_rfl))
  f143 := Tryd.func69.trans (congrArg some (by kernel_rfl))
  f195 := Tryd.func78.trans (congrArg some (by kernel_rfl))
  f197 := Tryd.func79.trans (congrArg some (by kernel_rfl))
  f217 := Tryd.func51.trans (congrArg some (by kernel_rfl))
  f218 := Tryd.func80.trans (congrArg some (by kernel_rfl))
  f219 := Tryd.func54.trans (congrArg some (by kernel_rfl))
  f221 := Tryd.func56.trans (congrArg some (by kernel_rfl))
  f224 := Tryd.func64.trans (congrArg some (by kernel_rfl))
  f225 := Tryd.func63.trans (congrArg some (by kernel_rfl))
  f260 := Tryd.func88.trans (congrArg some (by kernel_rfl))
  f266 := Tryd.func58.trans (congrArg some (by kernel_rfl))
  f267 := Tryd.func65.trans (congrArg some (by kernel_rfl))
  f268 := Tryd.func67.trans (congrArg some (by kernel_rfl))
  f314 := Tryd.func77.trans (congrArg some (by kernel_rfl))
  t0 := Tryd.underlying0
  a0 := Tryd.isAgg0
  z0 := Tryd.sizeOf0
  v0 := Tryd.zeroValue0
  t3 := Tryd.underlying3
  a3 := Tryd.isAgg3
  z3 := Tryd.sizeOf3
  v3 := Tryd.zeroValue3
  t4 := Tryd.underlying4
  a4 := Tryd.isAgg4
  z4 := Tryd.sizeOf4
  v4 := Tryd.zeroValue4
  t5 := Tryd.underlying5
  a5 := Tryd.isAgg5
  z5 := Tryd.sizeOf5
  v5 := Tryd.zeroValue5
  t9 := Tryd.underlying9
  a9 := Tryd.isAgg9
  z9 := Tryd.sizeOf9
  v9 := Tryd.zeroValue9
  t21 := Tryd.underlying21
  a21 := Tryd.isAgg21
  z21 := Tryd.sizeOf21
  v21 := Tryd.zeroValue21
  t31 := Tryd.underlying63
  a31 := Tryd.isAgg63
  z31 := Tryd.sizeOf63
  v31 := Tryd.zeroValue63
  t46 := Tryd.underlying88
  a46 := Tryd.isAgg88
  z46 := Tryd.sizeOf88
  v46 := Tryd.zeroValue88
  t51 := Tryd.underlying115
  a51 := Tryd.isAgg115
  z51 := Tryd.sizeOf115
  v51 := Tryd.zeroValue115
  t105 := Tryd.underlying122
  a105 := Tryd.isAgg122
  z105 := Tryd.sizeOf122
  v105 := Tryd.zeroValue122
  t119 := Tryd.underlying139
  a119 := Tryd.isAgg139
  z119 := Tryd.sizeOf139
  t138 := Tryd.underlying141
  a138 := Tryd.isAgg141
  z138 := Tryd.sizeOf141
  v138 := Tryd.zeroValue141
  t139 := Tryd.underlying142
  a139 := Tryd.isAgg142
  z139 := Tryd.sizeOf142
  v139 := Tryd.zeroValue142
  t146 := Tryd.underlying119
  a146 := Tryd.isAgg119
  z146 := Tryd.sizeOf119
  v146 := Tryd.zeroValue119
  g1 := by kernel_rfl
  g3 := by kernel_rfl
  g4 := by kernel_rfl }
open Go.RowKit Go.Lib in
theorem Tryd.strings_genSplit (s sep : ByteArray) (sv : Nat) (n : Int) (N : Nat) (m : Int) (w : World) (hs : s.size < 4294967281) (hm : w.cell? ⟨0, 0, none⟩ = some (.int .i64 m)) (h1 : 1 ≤ sep.size) (hsv : sv ≤ sep.size) (hn0 : n ≠ 0) (hn63 : n ≤ 9223372036854775807) (hN : (N : Int) = min (if n < 0 then (Lib.countB s sep : Int) + 1 else n) ((s.size : Int) + 1)) :
    Calls Tryd.prog 56 #[.string s, .string sep, .int .i64 sv, .int .i64 n] w fun e w' =>
      e = .returned (.slice (some ⟨w.heap.size, 0, none⟩) (Lib.splitB sep sv (N - 1) s).length N) ∧ w' = w.alloc (.cells (Lib.cellsOf (Lib.splitB sep sv (N - 1) s) N) 9) := Any.strings_genSplit Tryd.lays221 (by kernel_rfl) s sep sv n N m w hs hm h1 hsv hn0 hn63 hN
def Tryd.lays146_ren : Go.Shelf.Ren := ⟨fun | 146 => 48 | 221 => 56 | 268 => 67 | 138 => 68 | 143 => 69 | 195 => 78 | 197 => 79 | 218 => 80 | 219 => 54 | 260 => 88 | 217 => 51 | 225 => 63 | 224 => 64 | 267 => 65 | 266 => 58 | 314 => 77 | n => n, fun | 9 => 9 | 31 => 63 | 3 => 3 | 4 => 4 | 0 => 0 | 105 => 122 | 21 => 21 | 5 => 5 | 46 => 88 | 119 => 139 | 139 => 142 | 138 => 141 | 146 => 119 | 51 => 115 | n => n, fun | 1 => 0 | 3 => 6 | 4 => 7 | n => n⟩
theorem Tryd.lays146 : Go.Proofs.Lays.n146 Tryd.prog Tryd.lays146_ren := {
  mixed := by kernel_rfl
  f138 := Tryd.func68.trans (congrArg some (by kernel_rfl))
  f143 := Tryd.func69.trans (congrArg some (by kernel_rfl))
  f146 := Tryd.func48.trans (congrArg some (by kernel_rfl))
  f195 := Tryd.func78.trans (congrArg some (by kernel_rfl))
  f197 := Tryd.func79.trans (congrArg some (by kernel_rfl))
  f217 := Tryd.func51.trans (congrArg some (by kernel_rfl))
  f218 := Tryd.func80.trans (congrArg some (by kernel_rfl))
  f219 := Tryd.func54.trans (congrArg some (by kernel_rfl))
  f221 := Tryd.func56.trans (congrArg some (by kernel_rfl))
  f224 := Tryd.func64.trans (congrArg some (by kernel_rfl))
  f225 := Tryd.func63.trans (congrArg some (by kernel_rfl))
  f260 := Tryd.func88.trans (congrArg some (by kernel_rfl))
  f266 := Tryd.func58.trans (congrArg some (by kernel_rfl))
  f267 := Tryd.func65.trans (congrArg some (by kernel_rfl))
  f268 := Tryd.func67.trans (congrArg some (by kernel_rfl))
  f314 := Tryd.func77.trans (congrArg some (by kernel_rfl))
  t0 := Tryd.underlying0
  a0 := Tryd.isAgg0
  z0 := Tryd.sizeOf0
  v0 := Tryd.zeroValue0
  t3 := Tryd.underlying3
  a3 := Tryd.isAgg3
  z3 := Tryd.sizeOf3
  v3 := Tryd.zeroValue3
  t4 := Tryd.underlying4
  a4 := Tryd.isAgg4
  z4 := Tryd.sizeOf4
  v4 := Tryd.zeroValue4
  t5 := Tryd.underlying5
  a5 := Tryd.isAgg5
  z5 := Tryd.sizeOf5
  v5 := Tryd.zeroValue5
  t9 := Tryd.underlying9
  a9 := Tryd.isAgg9
  z9 := Tryd.sizeOf9
  v9 := Tryd.zeroValue9
  t21 := Tryd.underlying21
  a21 := Tryd.isAgg21
  z21 := Tryd.sizeOf21
  v21 := Tryd.zeroValue21
  t31 := Tryd.underlying63
  a31 := Tryd.isAgg63
  z31 := Tryd.sizeOf63
  v31 := Tryd.zeroValue63
  t46 := Tryd.underlying88
  a46 := Tryd.isAgg88
  z46 := Tryd.sizeOf88
  v46 := Tryd.zeroValue88
  t51 := Tryd.underlying115
  a51 := Tryd.isAgg115
  z51 := Tryd.sizeOf115
  v51 := Tryd.zeroValue115
  t105 := Tryd.underlying122
  a105 := Tryd.isAgg122
  z105 := Tryd.sizeOf122
  v105 := Tryd.zeroValue122
  t119 := Tryd.underlying139
  a119 := Tryd.isAgg139
  z119 := Tryd.sizeOf139
  t138 := Tryd.underlying141
  a138 := Tryd.isAgg141
  z138 := Tryd.sizeOf141
  v138 := Tryd.zeroValue141
  t139 := Tryd.underlying142
  a139 := Tryd.isAgg142
  z139 := Tryd.sizeOf142
  v139 := Tryd.zeroValue142
  t146 := Tryd.underlying119
  a146 := Tryd.isAgg119
  z146 := Tryd.sizeOf119
  v146 := Tryd.zeroValue119
  g1 := by kernel_rfl
  g3 := by kernel_rfl
  g4 := by kernel_rfl }
open Go.RowKit Go.Lib in
/-- strings.Split. (LAID: no walk: one application.) -/
theorem Tryd.strings_Split (s sep : ByteArray) (m : Int) (w : World) (hs : s.size < 4294967281) (hm : w.cell? ⟨0, 0, none⟩ = some (.int .i64 m)) (h1 : 1 ≤ sep.size) :
    Calls Tryd.prog 48 #[.string s, .string sep] w fun e w' =>
      e = .returned (.slice (some ⟨w.heap.size, 0, none⟩) (Lib.countB s sep + 1) (Lib.countB s sep + 1)) ∧ w' = w.alloc (.cells ((Lib.splitB sep 0 (Lib.countB s sep) s).map Value.string).toArray 9) := Any.strings_Split Tryd.lays146 (by kernel_rfl) s sep m w hs hm h1
def Tryd.lays260_ren : Go.Shelf.Ren := ⟨fun | 260 => 88 | n => n, fun | 9 => 9 | 21 => 21 | 3 => 3 | 4 => 4 | 5 => 5 | 119 => 139 | 0 => 0 | 46 => 88 | 139 => 142 | 138 => 141 | n => n, fun | 3 => 6 | 4 => 7 | n => n⟩
theorem Tryd.lays260 : Go.Proofs.Lays.n260 Tryd.prog Tryd.lays260_ren := {
  mixed := by kernel_rfl
  f260 := Tryd.func88.trans (congrArg some (by kernel_rfl))
  t0 := Tryd.underlying0
  a0 := Tryd.isAgg0
  z0 := Tryd.sizeOf0
  v0 := Tryd.zeroValue0
  t3 := Tryd.underlying3
  a3 := Tryd.isAgg3
  z3 := Tryd.sizeOf3
  v3 := Tryd.zeroValue3
  t4 := Tryd.underlying4
  a4 := Tryd.isAgg4
  z4 := Tryd.sizeOf4
  v4 := Tryd.zeroValue4
  t5 := Tryd.underlying5
  a5 := Tryd.isAgg5
  z5 := Tryd.sizeOf5
  v5 := Tryd.zeroValue5
  t9 := Tryd.underlying9
  a9 := Tryd.isAgg9
  z9 := Tryd.sizeOf9
  v9 := Tryd.zeroValue9
  t21 := Tryd.underlying21
  a21 := Tryd.isAgg21
  z21 := Tryd.sizeOf21
  v21 := Tryd.zeroValue21
  t46 := Tryd.underlying88
  a46 := Tryd.isAgg88
  z46 := Tryd.sizeOf88
  v46 := Tryd.zeroValue88
  t119 := Tryd.underlying139
  a119 := Tryd.isAgg139
  z119 := Tryd.sizeOf139
  t138 := Tryd.underlying141
  a138 := Tryd.isAgg141
  z138 := Tryd.sizeOf141
  v138 := Tryd.zeroValue141
  t139 := Tryd.underlying142
  a139 := Tryd.isAgg142
  z139 := Tryd.sizeOf142
  v139 := Tryd.zeroValue142
  g3 := by kernel_rfl
  g4 := by kernel_rfl }
open Go.RowKit Go.Lib in
theorem Tryd.utf8_decodeRuneInStringSlow (s : ByteArray) (w : World) (hT : Lib.Utf8Tabs 6 7 w) :
    Calls Tryd.prog 88 #[.string s] w fun e w' => e = .returned (.tuple #[.int .i32 (Lib.decodeGo s).1, .int .i64 (Lib.decodeGo s).2]) ∧ Below w.heap.size w w' := Any.utf8_decodeRuneInStringSlow Tryd.lays260 s w hT
def Tryd.lays197_ren : Go.Shelf.Ren := ⟨fun | 197 => 79 | 260 => 88 | n => n, fun | 9 => 9 | 21 => 21 | 3 => 3 | 4 => 4 | 5 => 5 | 105 => 122 | 119 => 139 | 0 => 0 | 46 => 88 | 139 => 142 | 138 => 141 | n => n, fun | 3 => 6 | 4 => 7 | n => n⟩
theorem Tryd.lays197 : Go.Proofs.Lays.n197 Tryd.prog Tryd.lays197_ren := {
  mixed := by kernel_rfl
  f197 := Tryd.func79.trans (congrArg some (by kernel_rfl))
  f260 := Tryd.func88.trans (congrArg some (by kernel_rfl))
  t0 := Tryd.underlying0
  a0 := Tryd.isAgg0
  z0 := Tryd.sizeOf0
  v0 := Tryd.zeroValue0
  t3 := Tryd.underlying3
  a3 := Tryd.isAgg3
  z3 := Tryd.sizeOf3
  v3 := Tryd.zeroValue3
  t4 := Tryd.underlying4
  a4 := Tryd.isAgg4
  z4 := Tryd.sizeOf4
  v4 := Tryd.zeroValue4
  t5 := Tryd.underlying5
  a5 := Tryd.isAgg5
  z5 := Tryd.sizeOf5
  v5 := Tryd.zeroValue5
  t9 := Tryd.underlying9
  a9 := Tryd.isAgg9
  z9 := Tryd.sizeOf9
  v9 := Tryd.zeroValue9
  t21 := Tryd.underlying21
  a21 := Tryd.isAgg21
  z21 := Tryd.sizeOf21
  v21 := Tryd.zeroValue21
  t46 := Tryd.underlying88
  a46 := Tryd.isAgg88
  z46 := Tryd.sizeOf88
  v46 := Tryd.zeroValue88
  t105 := Tryd.underlying122
  a105 := Tryd.isAgg122
  z105 := Tryd.sizeOf122
  v105 := Tryd.zeroValue122
  t119 := Tryd.underlying139
  a119 := Tryd.isAgg139
  z119 := Tryd.sizeOf139
  t138 := Tryd.underlying141
  a138 := Tryd.isAgg141
  z138 := Tryd.sizeOf141
  v138 := Tryd.zeroValue141
  t139 := Tryd.underlying142
  a139 := Tryd.isAgg142
  z139 := Tryd.sizeOf142
  v139 := Tryd.zeroValue142
  g3 := by kernel_rfl
  g4 := by kernel_rfl }
open Go.RowKit Go.Lib in
/-- **unicode/utf8.DecodeRuneInString AT EVERY STRING.** (LAID: no walk: one application.) -/
theorem Tryd.utf8_DecodeRuneInString (s : ByteArray) (w : World) (hT : Lib.Utf8Tabs 6 7 w) :
    Calls Tryd.prog 79 #[.string s] w fun e w' => e = .returned (.tuple #[.int .i32 (Lib.decodeGo s).1, .int .i64 (Lib.decodeGo s).2]) ∧ Below w.heap.size w w' := Any.utf8_DecodeRuneInString Tryd.lays197 s w hT
def Tryd.laysSlK4_ren : Go.Shelf.Ren := ⟨fun | 4 => 41 | n => n, fun | 22 => 43 | 4 => 4 | 5 => 5 | n => n, fun | n => n⟩
theorem Tryd.laysSlK4 : Go.Proofs.SlLaysK.n4 Tryd.prog Tryd.laysSlK4_ren := {
  mixed := by kernel_rfl
  f4 := Tryd.func41.trans (congrArg some (by kernel_rfl))
  t4 := Tryd.underlying4
  a4 := Tryd.isAgg4
  z4 := Tryd.sizeOf4
  v4 := Tryd.zeroValue4
  t22 := Tryd.underlying43
  a22 := Tryd.isAgg43
  z22 := Tryd.sizeOf43
  v22 := Tryd.zeroValue43
  t5 := Tryd.underlying5
  i5 := by kernel_rfl }
open Go.RowKit Go.Lib in
/-- bytes.Clone: "Clone returns a copy of b[:len(b)]. The result may have additional unused capacity.": OF A SLICE THAT IS NOT nil IT RETURNS A SLICE THAT IS NOT nil, OF THE SAME BYTES, IN MEMORY OF THE CALL's OWN: in the how-to's words (6f): 'w'.ownsRow B e 1 v' n cells' · 'Below B w w'', B the heap's size at the call. b AT WHATEVER ADDRESS, its cells as 'open_ints' hands them ('a.add i'; the numbers 'xs'). No byte: no cell is asked for. (LAID: no walk: one application.) -/
theorem Tryd.bytes_Clone_at (a : Addr) (n c : Nat) (xs : List Int) (w : World) (hx : xs.length = n) (hbig : n ≤ 140737488355328) (hc : ∀ i, i < n → w.cell? (a.add i) = some (.int .u8 (xs.getD i 0))) :
    Calls Tryd.prog 41 #[.slice (some a) n c] w fun e w' => ∃ v', e = .returned v' ∧ w'.ownsRow w.heap.size 5 1 v' n (xs.map (Value.int .u8)) ∧ v' ≠ .slice none 0 0 ∧ Below w.heap.size w w' := Any.bytes_Clone_at Tryd.laysSlK4 a n c xs w hx hbig hc
open Go.RowKit Go.Lib in
/-- "Clone(nil) returns nil.": the world is as it was. (LAID: no walk: one application.) -/
theorem Tryd.bytes_Clone_nil (n c : Nat) (w : World) :
    Calls Tryd.prog 41 #[.slice none n c] w fun e w' => e = .returned (.slice none 0 0) ∧ w' = w := Any.bytes_Clone_nil Tryd.laysSlK4 n c w
end Go.Proofs
end
section
namespace Go.Proofs.YtmmpflifajjbjaaDoor
open Go.RowKit V
--PURE: (intro _ _; simp [pureL, pureS, pureE]; done)
set_option maxRecDepth 100000
set_option maxHeartbeats 4000000
set_option linter.unusedSimpArgs false
def valB (c : UInt8) : Int := Lib.indexByte digs c
theorem val_nat : ∀ n : Nat, n < 256 → -1 ≤ valB (UInt8.ofNat n) ∧ valB (UInt8.ofNat n) ≤ 15 := by decide +kernel
theorem val_le (c : UInt8) : -1 ≤ valB c ∧ valB c ≤ 15 := by
  have h := val_nat c.toNat c.toNat_lt
  rwa [UInt8.ofNat_toNat] at h
theorem or_nat : ∀ a, a < 16 → ∀ b, b < 16 → UInt8.ofNat (IntKind.u8.wrap (IntKind.i64.wrap ((BitVec.ofInt IntKind.i64.bits (((a : Nat) : Int) * 2 ^ Int.toNat 4) ||| BitVec.ofInt IntKind.i64.bits ((b : Nat) : Int)).toNat : Int))).toNat = UInt8.ofNat (16 * a + b) := by decide +kernel
theorem or_walk (a b : Int) (ha : 0 ≤ a ∧ a ≤ 15) (hb : 0 ≤ b ∧ b ≤ 15) : UInt8.ofNat (IntKind.u8.wrap (IntKind.i64.wrap ((BitVec.ofInt IntKind.i64.bits (a * 2 ^ Int.toNat 4) ||| BitVec.ofInt IntKind.i64.bits b).toNat : Int))).toNat = UInt8.ofNat (16 * a.toNat + b.toNat) := by
  have h := or_nat a.toNat (by omega) b.toNat (by omega)
  rwa [Int.toNat_of_nonneg ha.1, Int.toNat_of_nonneg hb.1] at h
def okHex (s : List UInt8) : Bool := decide (s.length % 2 = 0) && s.all fun c => decide (0 ≤ valB c)
def unhex (s : List UInt8) (x : Nat) : List UInt8 := (List.range x).map fun i => UInt8.ofNat (16 * (valB (s.getD (2 * i) 0)).toNat + (valB (s.getD (2 * i + 1) 0)).toNat)
theorem unhex_len (s : List UInt8) (x : Nat) : (unhex s x).length = x := by simp [unhex]
theorem unhex_succ (s : List UInt8) (x : Nat) : unhex s (x + 1) = unhex s x ++ [UInt8.ofNat (16 * (valB (s.getD (2 * x) 0)).toNat + (valB (s.getD (2 * x + 1) 0)).toNat)] := by
  unfold unhex
  rw [List.range_succ, List.map_append]
  rfl
theorem okHex_f {s : List UInt8} {i : Nat} (hi : i < s.length) (h : valB (s.getD i 0) < 0) : okHex s = false := by
  unfold okHex
  rw [show (s.all fun c => decide (0 ≤ valB c)) = false from Bool.eq_false_iff.2 fun e => by have q := of_decide_eq_true ((all_iff s _ 0).1 e i hi); omega, Bool.and_false]
attribute [local irreducible] V.Sat V.DSat
theorem indexByte_spec (c : UInt8) : Fun Tryd.prog [] 42 [.str digs, .int .u8 (c.toNat : Int)] (.int .i64 (valB c)) := by
  intro T w vs hT hG ht
  cases ht with
  | cons s v l vs1 hr hl =>
    cases hl with
    | cons s2 v2 l2 vs2 hr2 hl3 =>
      cases hl3
      cases hr
      cases hr2
      refine (Tryd.strings_IndexByte ⟨digs.toArray⟩ (c.toNat : Int) w).mono ?_
      rintro e w' ⟨rfl, rfl⟩
      have e1 : ((c.toNat : Int).toNat).toUInt8 = c := by rw [Int.toNat_natCast]; exact UInt8.ofNat_toNat
      rw [e1]
      have h := val_le c
      exact ⟨_, rfl, .int _ _ (inR_i64 (show -9223372036854775808 ≤ valB c by omega) (show valB c ≤ 9223372036854775807 by omega)), Below.refl _ _⟩
theorem bytes_walk (s : List UInt8) (hs : s.length ≤ 100000) : Fun Tryd.prog [] 26 [.str s] (.tup [.ro (.u8 (bif okHex s then unhex s (s.length / 2) else [])), .int .i64 (bif okHex s then 0 else 3)]) := by
  refine Fun.mkF 6 Tryd.func26 rfl Tryd.ntmps26 rfl rfl fun hf T w0 => ?_
  repeat' (first
      | ((with_reducible apply Sat.run (X := X64)); exact rfl; (first | exact True.intro | (exact phi) | skip))
      | ((with_reducible apply Sat.drawn); kernel_rfl)
      | ((with_reducible apply DSat.run (X := X64)); exact rfl; (first | exact True.intro | (exact phi) | skip))
      | ((with_reducible apply DSat.fin); kernel_rfl) | fail)
  with_reducible apply Sat.cond_p
  · exact rfl
  · intro h
    have hk : okHex s = false := by unfold okHex; rw [decide_eq_false (by omega)]; rfl
    rw [hk]
    repeat' (first
        | ((with_reducible apply Sat.run (X := X64)); exact rfl; (first | exact True.intro | (exact phi) | skip))
        | ((with_reducible apply Sat.drawn); kernel_rfl)
        | ((with_reducible apply DSat.run (X := X64)); exact rfl; (first | exact True.intro | (exact phi) | skip))
        | ((with_reducible apply DSat.fin); kernel_rfl) | fail)
    refine Sat.fin (Sat.end2 rfl rfl rfl rfl True.intro True.intro (.nils _ rfl) (.refl _ trivial) (by first | exact .inl rfl | exact .inr rfl) (fun _ h => h)) rfl
  · intro h
    repeat' (first
        | ((with_reducible apply Sat.run (X := X64)); exact rfl; (first | exact True.intro | (exact phi) | skip))
        | ((with_reducible apply Sat.drawn); kernel_rfl)
        | ((with_reducible apply DSat.run (X := X64)); exact rfl; (first | exact True.intro | (exact phi) | skip))
        | ((with_reducible apply DSat.fin); kernel_rfl) | fail)
    · refine .cons ⟨by omega, by omega, by show (1 : Int) * ((s.length : Int) / 2) ≤ 281474976710656; omega, by omega⟩ (.cons ⟨by omega, by omega⟩ .nil)
    refine Sat.kill [15] rfl ?_
    apply Sat.loop (α := Nat) (fun x => 2 * x ≤ s.length ∧ ∀ i, i < 2 * x → 0 ≤ valB (s.getD i 0)) (fun x => s.length - 2 * x) 0 (fun x => [(4, .row 0 0 1 0 x), (5, .int .i64 ((2 * x : Nat) : Int))]) (fun x => [(0, .row 5 (.u8 (unhex s x)))]) [] [] 0
    · intro x; exact rfl
    · intro x; exact rfl
    · exact rfl
    · exact rfl
    · (repeat' (first | exact AllP.nil | with_reducible refine AllP.cons ?_ ?_)) <;> first | exact rfl | exact trivial | exact ⟨rfl, rfl, rfl, rfl⟩ | (show (0 : Int) = ((2 * 0 : Nat) : Int); rfl)
    · exact ⟨Nat.zero_le _, fun i hi => by omega⟩
    rintro x ⟨hx0, hx1⟩
    by_cases hx : 2 * x < s.length
    · have h1 := indexByte_spec (s.getD ((2 * x : Nat) : Int).toNat 0)
      have h2 := indexByte_spec (s.getD (((2 * x : Nat) : Int) + 1).toNat 0)
      repeat' (first
          | ((with_reducible apply Sat.run (X := X64)); exact rfl; (first | exact True.intro | (exact phi) | skip))
          | ((with_reducible apply Sat.drawn); kernel_rfl)
          | ((with_reducible apply DSat.run (X := X64)); exact rfl; (first | exact True.intro | (exact phi) | skip))
          | ((with_reducible apply DSat.fin); kernel_rfl)
          | ((with_reducible apply Sat.cond_t); exact rfl)
          | ((with_reducible apply Sat.cond_f); exact rfl)
          | ((with_reducible apply Sat.cond_pt); exact rfl; (try dsimp only [V.EV.sub, V.EV.len]); first | assumption | omega)
          | ((with_reducible apply Sat.cond_pf); exact rfl; (try dsimp only [V.EV.sub, V.EV.len]); first | assumption | omega)
          | ((with_reducible apply Sat.cond_p); exact rfl; all_goals intro h)
          | ((with_reducible apply Sat.cond); exact rfl; all_goals intro h)
          | ((with_reducible apply Sat.callR (h1)); exact rfl; exact rfl; exact rfl; kernel_rfl; (exact cnvX); exact rfl)
          | ((with_reducible apply DSat.callR (h1)); exact rfl; exact rfl; exact rfl; kernel_rfl; (exact cnvX); exact rfl)
          | ((with_reducible apply Sat.callR (h2)); exact rfl; exact rfl; exact rfl; kernel_rfl; (exact cnvX); exact rfl)
          | ((with_reducible apply DSat.callR (h2)); exact rfl; exact rfl; exact rfl; kernel_rfl; (exact cnvX); exact rfl) | fail)
      · have e1 : ((2 * x : Nat) : Int).toNat = 2 * x := Int.toNat_natCast _
        have e2 : (((2 * x : Nat) : Int) + 1).toNat = 2 * x + 1 := by omega
        have b1 := val_le (s.getD (2 * x) 0)
        have b2 := val_le (s.getD (2 * x + 1) 0)
        have hul : x = (EV.u8 (unhex s x)).len := (unhex_len s x).symm
        rw [e1, e2] at h
        have hk : okHex s = false := by
          by_cases q : valB (s.getD (2 * x) 0) < 0
          · exact okHex_f hx q
          · rw [decide_eq_false q] at h
            exact okHex_f (i := 2 * x + 1) (by omega) (of_decide_eq_true h)
        rw [hk]
        refine Sat.fin (Sat.end2 rfl rfl rfl rfl True.intro True.intro (.nils _ rfl) (.refl _ trivial) (by first | exact .inl rfl | exact .inr rfl) (fun _ h => h)) rfl
      · have e1 : ((2 * x : Nat) : Int).toNat = 2 * x := Int.toNat_natCast _
        have e2 : (((2 * x : Nat) : Int) + 1).toNat = 2 * x + 1 := by omega
        have b1 := val_le (s.getD (2 * x) 0)
        have b2 := val_le (s.getD (2 * x + 1) 0)
        have hul : x = (EV.u8 (unhex s x)).len := (unhex_len s x).symm
        rw [e1, e2] at h ⊢
        have q1 : ¬ valB (s.getD (2 * x) 0) < 0 := fun q => by rw [decide_eq_true q] at h; cases h
        have e16 : (2 : Int) ^ Int.toNat 4 = 16 := by decide
        refine .cons (inR_i64 (by omega) (by omega)) (.cons (Nat.le_refl _) (.cons hul (.cons ?_ (.cons ⟨by omega, by decide, ?_⟩ .nil))))
        · show (x + 1) * (0 + 1) ≤ 140737488355328
          omega
        · rw [e16]
          exact inR_i64 (by omega) (by omega)
      · have e1 : ((2 * x : Nat) : Int).toNat = 2 * x := Int.toNat_natCast _
        have e2 : (((2 * x : Nat) : Int) + 1).toNat = 2 * x + 1 := by omega
        have b1 := val_le (s.getD (2 * x) 0)
        have b2 := val_le (s.getD (2 * x + 1) 0)
        have hul : x = (EV.u8 (unhex s x)).len := (unhex_len s x).symm
        rw [e1, e2] at h ⊢
        have q1 : ¬ valB (s.getD (2 * x) 0) < 0 := fun q => by rw [decide_eq_true q] at h; cases h
        have q2 : ¬ valB (s.getD (2 * x + 1) 0) < 0 := fun q => by rw [decide_eq_false q1, decide_eq_true q] at h; cases h
        rw [or_walk _ _ (by omega) (by omega)]
        refine Sat.back (x + 1) [(0, some 2)] rfl ?_ ?_ ?_
        · (repeat' (first | exact AllP.nil | with_reducible refine AllP.cons ?_ ?_)) <;> first | exact rfl | exact trivial | exact congrArg EV.u8 (unhex_succ s x).symm | (show _ = ((2 * (x + 1) : Nat) : Int); omega) | exact ⟨rfl, rfl, rfl, rfl⟩ | exact purX
        · refine ⟨by omega, fun i hi => ?_⟩
          rcases (by omega : i < 2 * x ∨ i = 2 * x ∨ i = 2 * x + 1) with h3 | rfl | rfl
          · exact hx1 i h3
          · omega
          · omega
        · omega
    · have hx2 : 2 * x = s.length := by omega
      have hk : okHex s = true := by
        unfold okHex
        rw [decide_eq_true (by omega), (all_iff s _ 0).2 fun i hi => decide_eq_true (hx1 i (by omega))]
        rfl
      rw [hk, show s.length / 2 = x by omega]
      repeat' (first
          | ((with_reducible apply Sat.run (X := X64)); exact rfl; (first | exact True.intro | (exact phi) | skip))
          | ((with_reducible apply Sat.drawn); kernel_rfl)
          | ((with_reducible apply DSat.run (X := X64)); exact rfl; (first | exact True.intro | (exact phi) | skip))
          | ((with_reducible apply DSat.fin); kernel_rfl) | fail)
      with_reducible apply Sat.cond_pf
      · exact rfl
      · omega
      repeat' (first
          | ((with_reducible apply Sat.run (X := X64)); exact rfl; (first | exact True.intro | (exact phi) | skip))
          | ((with_reducible apply Sat.drawn); kernel_rfl)
          | ((with_reducible apply DSat.run (X := X64)); exact rfl; (first | exact True.intro | (exact phi) | skip))
          | ((with_reducible apply DSat.fin); kernel_rfl) | fail)
      refine Sat.fin (Sat.end2 rfl rfl rfl rfl True.intro True.intro (.all _ _ _ _ _ rfl rfl (unhex_len s x).symm trivial) (.refl _ trivial) (by first | exact .inl rfl | exact .inr rfl) (fun _ h => h)) rfl
end Go.Proofs.YtmmpflifajjbjaaDoor
end
section
namespace Go.Proofs.YtmmpflifajjbjaaDoor
open Go.RowKit V
--PURE: (intro _ _; simp [pureL, pureS, pureE]; done)
set_option maxRecDepth 100000
set_option maxHeartbeats 4000000
set_option linter.unusedSimpArgs false
structure RngL where
  lo : Int
  hi : Int
def rng0 : RngL := ⟨0, 0⟩
@[reducible] def rngE (l : List RngL) : EV := .g l.length 2 fun i => [.int .i64 (l.getD i rng0).lo, .int .i64 (l.getD i rng0).hi]
attribute [local irreducible] V.Sat V.DSat
theorem limited_spec (l : List UInt8) (n : Int) (h0 : 0 ≤ n) : Fun Tryd.prog [] 17 [.ro (.u8 l), .int .i64 n] (.ro (.u8 (l.take n.toNat))) := by
  refine Fun.mk 6 Tryd.func17 rfl Tryd.ntmps17 rfl rfl fun T w0 => ?_
  repeat' (first
      | ((with_reducible apply Sat.run (X := X64)); exact rfl; (first | exact True.intro | (exact phi) | skip))
      | ((with_reducible apply Sat.drawn); kernel_rfl)
      | ((with_reducible apply DSat.run (X := X64)); exact rfl; (first | exact True.intro | (exact phi) | skip))
      | ((with_reducible apply DSat.fin); kernel_rfl) | fail)
  with_reducible apply Sat.cond_p
  · exact rfl
  · intro h
    have h : n < (l.length : Int) := h
    repeat' (first
        | ((with_reducible apply Sat.run (X := X64)); exact rfl; (first | exact True.intro | (exact phi) | skip))
        | ((with_reducible apply Sat.drawn); kernel_rfl)
        | ((with_reducible apply DSat.run (X := X64)); exact rfl; (first | exact True.intro | (exact phi) | skip))
        | ((with_reducible apply DSat.fin); kernel_rfl) | fail)
    (refine Sat.fin (Sat.end1 rfl rfl rfl True.intro (.refl _ purX) (by first | exact .inl rfl | exact .inr rfl) (fun _ h => h)) ?_; (refine congrArg (fun z => SV.ro (EV.u8 z)) ?_; show _ = List.take (n.toNat - 0) (List.drop 0 l); rw [Nat.sub_zero, List.drop_zero]))
  · intro h
    have h : ¬ n < (l.length : Int) := h
    repeat' (first
        | ((with_reducible apply Sat.run (X := X64)); exact rfl; (first | exact True.intro | (exact phi) | skip))
        | ((with_reducible apply Sat.drawn); kernel_rfl)
        | ((with_reducible apply DSat.run (X := X64)); exact rfl; (first | exact True.intro | (exact phi) | skip))
        | ((with_reducible apply DSat.fin); kernel_rfl) | fail)
    (refine Sat.fin (Sat.end1 rfl rfl rfl True.intro (.refl _ purX) (by first | exact .inl rfl | exact .inr rfl) (fun _ h => h)) ?_; (rw [List.take_of_length_le (by omega)]))
theorem sec_ext {a b : List SecL} (h : a.length = b.length) (h2 : ∀ i, i < a.length → (a.getD i sec0) = (b.getD i sec0)) : a = b := by
  refine List.ext_getElem h fun i h3 h4 => ?_
  have := h2 i h3
  rwa [List.getD_eq_getElem?_getD, List.getElem?_eq_getElem h3, List.getD_eq_getElem?_getD, List.getElem?_eq_getElem h4] at this
def secEq (a b : List SecL) : Bool := decide (a.length = b.length) && decide (∀ i, i < a.length → (a.getD i sec0).name = (b.getD i sec0).name ∧ (a.getD i sec0).fr = (b.getD i sec0).fr ∧ (a.getD i sec0).to = (b.getD i sec0).to ∧ (a.getD i sec0).code = (b.getD i sec0).code)
theorem secEq_iff (a b : List SecL) : secEq a b = true ↔ a = b := by
  unfold secEq
  rw [Bool.and_eq_true, decide_eq_true_eq, decide_eq_true_eq]
  constructor
  · rintro ⟨h1, h2⟩
    refine sec_ext h1 fun i hi => ?_
    obtain ⟨q1, q2, q3, q4⟩ := h2 i hi
    generalize a.getD i sec0 = x at *
    generalize b.getD i sec0 = y at *
    cases x; cases y
    simp_all
  · rintro rfl
    exact ⟨rfl, fun i _ => ⟨rfl, rfl, rfl, rfl⟩⟩
theorem same_sec (a b : List SecL) : Fun Tryd.prog [] 15 [.ro (secE a), .ro (secE b)] (.bool (secEq a b)) := by
  refine Fun.mkF 6 Tryd.func15 rfl Tryd.ntmps15 rfl rfl fun hf T w0 => ?_
  obtain ⟨⟨hl, _⟩, _⟩ := hf
  have hl : a.length ≤ 9223372036854775807 := hl
  repeat' (first
      | ((with_reducible apply Sat.run (X := X64)); exact rfl; (first | exact True.intro | (exact phi) | skip))
      | ((with_reducible apply Sat.drawn); kernel_rfl)
      | ((with_reducible apply DSat.run (X := X64)); exact rfl; (first | exact True.intro | (exact phi) | skip))
      | ((with_reducible apply DSat.fin); kernel_rfl) | fail)
  with_reducible apply Sat.cond_p
  · exact rfl
  · intro h
    have h : ¬ (a.length : Int) = (b.length : Int) := h
    repeat' (first
        | ((with_reducible apply Sat.run (X := X64)); exact rfl; (first | exact True.intro | (exact phi) | skip))
        | ((with_reducible apply Sat.drawn); kernel_rfl)
        | ((with_reducible apply DSat.run (X := X64)); exact rfl; (first | exact True.intro | (exact phi) | skip))
        | ((with_reducible apply DSat.fin); kernel_rfl) | fail)
    (refine Sat.fin (Sat.end1 rfl rfl rfl True.intro (.refl _ purX) (by first | exact .inl rfl | exact .inr rfl) (fun _ h => h)) ?_; (refine congrArg SV.bool ?_; unfold secEq; rw [decide_eq_false (by omega)]; rfl))
  intro h
  have hlen : a.length = b.length := by have h : ¬ ((a.length : Int) ≠ (b.length : Int)) := h; omega
  repeat' (first
      | ((with_reducible apply Sat.run (X := X64)); exact rfl; (first | exact True.intro | (exact phi) | skip))
      | ((with_reducible apply Sat.drawn); kernel_rfl)
      | ((with_reducible apply DSat.run (X := X64)); exact rfl; (first | exact True.intro | (exact phi) | skip))
      | ((with_reducible apply DSat.fin); kernel_rfl) | fail)
  apply Sat.loop (α := Nat) (fun x => x ≤ a.length ∧ ∀ i, i < x → (a.getD i sec0).name = (b.getD i sec0).name ∧ (a.getD i sec0).fr = (b.getD i sec0).fr ∧ (a.getD i sec0).to = (b.getD i sec0).to ∧ (a.getD i sec0).code = (b.getD i sec0).code) (fun x => a.length - x) 0 (fun x => [(5, .int .i64 (x : Int))]) (fun _ => []) [] [] 0
  · intro x; exact rfl
  · intro x; exact rfl
  · exact rfl
  · exact rfl
  · (repeat' (first | exact AllP.nil | with_reducible refine AllP.cons ?_ ?_)) <;> first | exact rfl | exact trivial | exact purX
  · exact ⟨Nat.zero_le _, fun i hi => by omega⟩
  rintro x ⟨x1, x2⟩
  by_cases hx : x < a.length
  · have hcc : (x : Int) < ((secE a).len : Int) := by show (x : Int) < (a.length : Int); omega
    have hcc2 : (x : Int) < ((secE b).len : Int) := by show (x : Int) < (b.length : Int); omega
    repeat' (first
        | ((with_reducible apply Sat.run (X := X64)); exact rfl; (first | exact True.intro | (exact phi) | skip))
        | ((with_reducible apply Sat.drawn); kernel_rfl)
        | ((with_reducible apply DSat.run (X := X64)); exact rfl; (first | exact True.intro | (exact phi) | skip))
        | ((with_reducible apply DSat.fin); kernel_rfl)
        | ((with_reducible apply Sat.cond_t); exact rfl)
        | ((with_reducible apply Sat.cond_f); exact rfl)
        | ((with_reducible apply Sat.cond_pt); exact rfl; (try dsimp only [V.EV.sub, V.EV.len]); first | assumption | omega)
        | ((with_reducible apply Sat.cond_pf); exact rfl; (try dsimp only [V.EV.sub, V.EV.len]); first | assumption | omega)
        | ((with_reducible apply Sat.cond_p); exact rfl; all_goals intro h)
        | ((with_reducible apply Sat.cond); exact rfl; all_goals intro h) | fail)
    · rw [Bool.not_eq_true'] at h
      have hne : secEq a b = false := by
        unfold secEq
        rw [decide_eq_false (p := ∀ i, i < a.length → _) fun e => ?_, Bool.and_false]
        obtain ⟨q1, q2, q3, q4⟩ := e x hx
        rw [Int.toNat_natCast, decide_eq_true q1, decide_eq_true q2, decide_eq_true q3, q4] at h
        simp at h
      rw [hne]
      (refine Sat.fin (Sat.end1 rfl rfl rfl True.intro (.refl _ purX) (by first | exact .inl rfl | exact .inr rfl) (fun _ h => h)) ?_; rfl)
    · rw [Bool.not_eq_false'] at h
      refine Sat.back (x + 1) [] rfl ?_ ?_ ?_
      · (repeat' (first | exact AllP.nil | with_reducible refine AllP.cons ?_ ?_)) <;> first | exact rfl | exact trivial | exact Int.natCast_add_one _ | exact purX
      · refine ⟨by omega, fun i hi => ?_⟩
        rcases Nat.lt_succ_iff_lt_or_eq.1 hi with h1 | rfl
        · exact x2 i h1
        · simp only [Bool.and_eq_true, decide_eq_true_eq, beq_iff_eq, Int.toNat_natCast] at h
          exact ⟨h.1, h.2.1, h.2.2.1, h.2.2.2.1⟩
      · omega
  · obtain rfl : x = a.length := by omega
    repeat' (first
        | ((with_reducible apply Sat.run (X := X64)); exact rfl; (first | exact True.intro | (exact phi) | skip))
        | ((with_reducible apply Sat.drawn); kernel_rfl)
        | ((with_reducible apply DSat.run (X := X64)); exact rfl; (first | exact True.intro | (exact phi) | skip))
        | ((with_reducible apply DSat.fin); kernel_rfl) | fail)
    with_reducible apply Sat.cond_pf
    · exact rfl
    · show ¬ (a.length : Int) < (a.length : Int); omega
    repeat' (first
        | ((with_reducible apply Sat.run (X := X64)); exact rfl; (first | exact True.intro | (exact phi) | skip))
        | ((with_reducible apply Sat.drawn); kernel_rfl)
        | ((with_reducible apply DSat.run (X := X64)); exact rfl; (first | exact True.intro | (exact phi) | skip))
        | ((with_reducible apply DSat.fin); kernel_rfl) | fail)
    (refine Sat.fin (Sat.end1 rfl rfl rfl True.intro (.refl _ purX) (by first | exact .inl rfl | exact .inr rfl) (fun _ h => h)) ?_; (refine congrArg SV.bool ?_; unfold secEq; rw [decide_eq_true hlen, decide_eq_true x2]; rfl))
end Go.Proofs.YtmmpflifajjbjaaDoor
end
section
namespace Go.Proofs.YtmmpflifajjbjaaDoor
open Go.RowKit V
--PURE: (intro _ _; simp [pureL, pureS, pureE]; done)
set_option maxRecDepth 100000
set_option maxHeartbeats 4000000
set_option linter.unusedSimpArgs false
attribute [local irreducible] V.Sat V.DSat
theorem rng_ext {a b : List RngL} (h : a.length = b.length) (h2 : ∀ i, i < a.length → (a.getD i rng0) = (b.getD i rng0)) : a = b := by
  refine List.ext_getElem h fun i h3 h4 => ?_
  have := h2 i h3
  rwa [List.getD_eq_getElem?_getD, List.getElem?_eq_getElem h3, List.getD_eq_getElem?_getD, List.getElem?_eq_getElem h4] at this
def rngEq (a b : List RngL) : Bool := decide (a.length = b.length) && decide (∀ i, i < a.length → (a.getD i rng0).lo = (b.getD i rng0).lo ∧ (a.getD i rng0).hi = (b.getD i rng0).hi)
theorem rngEq_iff (a b : List RngL) : rngEq a b = true ↔ a = b := by
  unfold rngEq
  rw [Bool.and_eq_true, decide_eq_true_eq, decide_eq_true_eq]
  constructor
  · rintro ⟨h1, h2⟩
    refine rng_ext h1 fun i hi => ?_
    obtain ⟨q1, q2⟩ := h2 i hi
    generalize a.getD i rng0 = x at *
    generalize b.getD i rng0 = y at *
    cases x; cases y
    simp_all
  · rintro rfl
    exact ⟨rfl, fun i _ => ⟨rfl, rfl⟩⟩
theorem same_rng (a b : List RngL) : Fun Tryd.prog [] 27 [.ro (rngE a), .ro (rngE b)] (.bool (rngEq a b)) := by
  refine Fun.mkF 6 Tryd.func27 rfl Tryd.ntmps27 rfl rfl fun hf T w0 => ?_
  obtain ⟨⟨hl, _⟩, _⟩ := hf
  have hl : a.length ≤ 9223372036854775807 := hl
  repeat' (first
      | ((with_reducible apply Sat.run (X := X64)); exact rfl; (first | exact True.intro | (exact phi) | skip))
      | ((with_reducible apply Sat.drawn); kernel_rfl)
      | ((with_reducible apply DSat.run (X := X64)); exact rfl; (first | exact True.intro | (exact phi) | skip))
      | ((with_reducible apply DSat.fin); kernel_rfl) | fail)
  with_reducible apply Sat.cond_p
  · exact rfl
  · intro h
    have h : ¬ (a.length : Int) = (b.length : Int) := h
    repeat' (first
        | ((with_reducible apply Sat.run (X := X64)); exact rfl; (first | exact True.intro | (exact phi) | skip))
        | ((with_reducible apply Sat.drawn); kernel_rfl)
        | ((with_reducible apply DSat.run (X := X64)); exact rfl; (first | exact True.intro | (exact phi) | skip))
        | ((with_reducible apply DSat.fin); kernel_rfl) | fail)
    (refine Sat.fin (Sat.end1 rfl rfl rfl True.intro (.refl _ purX) (by first | exact .inl rfl | exact .inr rfl) (fun _ h => h)) ?_; (refine congrArg SV.bool ?_; unfold rngEq; rw [decide_eq_false (by omega)]; rfl))
  intro h
  have hlen : a.length = b.length := by have h : ¬ ((a.length : Int) ≠ (b.length : Int)) := h; omega
  repeat' (first
      | ((with_reducible apply Sat.run (X := X64)); exact rfl; (first | exact True.intro | (exact phi) | skip))
      | ((with_reducible apply Sat.drawn); kernel_rfl)
      | ((with_reducible apply DSat.run (X := X64)); exact rfl; (first | exact True.intro | (exact phi) | skip))
      | ((with_reducible apply DSat.fin); kernel_rfl) | fail)
  apply Sat.loop (α := Nat) (fun x => x ≤ a.length ∧ ∀ i, i < x → (a.getD i rng0).lo = (b.getD i rng0).lo ∧ (a.getD i rng0).hi = (b.getD i rng0).hi) (fun x => a.length - x) 0 (fun x => [(5, .int .i64 (x : Int))]) (fun _ => []) [] [] 0
  · intro x; exact rfl
  · intro x; exact rfl
  · exact rfl
  · exact rfl
  · (repeat' (first | exact AllP.nil | with_reducible refine AllP.cons ?_ ?_)) <;> first | exact rfl | exact trivial | exact purX
  · exact ⟨Nat.zero_le _, fun i hi => by omega⟩
  rintro x ⟨x1, x2⟩
  by_cases hx : x < a.length
  · have hcc : (x : Int) < ((rngE a).len : Int) := by show (x : Int) < (a.length : Int); omega
    have hcc2 : (x : Int) < ((rngE b).len : Int) := by show (x : Int) < (b.length : Int); omega
    repeat' (first
        | ((with_reducible apply Sat.run (X := X64)); exact rfl; (first | exact True.intro | (exact phi) | skip))
        | ((with_reducible apply Sat.drawn); kernel_rfl)
        | ((with_reducible apply DSat.run (X := X64)); exact rfl; (first | exact True.intro | (exact phi) | skip))
        | ((with_reducible apply DSat.fin); kernel_rfl)
        | ((with_reducible apply Sat.cond_t); exact rfl)
        | ((with_reducible apply Sat.cond_f); exact rfl)
        | ((with_reducible apply Sat.cond_pt); exact rfl; (try dsimp only [V.EV.sub, V.EV.len]); first | assumption | omega)
        | ((with_reducible apply Sat.cond_pf); exact rfl; (try dsimp only [V.EV.sub, V.EV.len]); first | assumption | omega)
        | ((with_reducible apply Sat.cond_p); exact rfl; all_goals intro h)
        | ((with_reducible apply Sat.cond); exact rfl; all_goals intro h) | fail)
    · rw [Bool.not_eq_true'] at h
      have hne : rngEq a b = false := by
        unfold rngEq
        rw [decide_eq_false (p := ∀ i, i < a.length → _) fun e => ?_, Bool.and_false]
        obtain ⟨q1, q2⟩ := e x hx
        rw [Int.toNat_natCast, decide_eq_true q1, decide_eq_true q2] at h
        simp at h
      rw [hne]
      (refine Sat.fin (Sat.end1 rfl rfl rfl True.intro (.refl _ purX) (by first | exact .inl rfl | exact .inr rfl) (fun _ h => h)) ?_; rfl)
    · rw [Bool.not_eq_false'] at h
      refine Sat.back (x + 1) [] rfl ?_ ?_ ?_
      · (repeat' (first | exact AllP.nil | with_reducible refine AllP.cons ?_ ?_)) <;> first | exact rfl | exact trivial | exact Int.natCast_add_one _ | exact purX
      · refine ⟨by omega, fun i hi => ?_⟩
        rcases Nat.lt_succ_iff_lt_or_eq.1 hi with h1 | rfl
        · exact x2 i h1
        · simp only [Bool.and_eq_true, decide_eq_true_eq, beq_iff_eq, Int.toNat_natCast] at h
          exact ⟨h.1, h.2.1⟩
      · omega
  · obtain rfl : x = a.length := by omega
    repeat' (first
        | ((with_reducible apply Sat.run (X := X64)); exact rfl; (first | exact True.intro | (exact phi) | skip))
        | ((with_reducible apply Sat.drawn); kernel_rfl)
        | ((with_reducible apply DSat.run (X := X64)); exact rfl; (first | exact True.intro | (exact phi) | skip))
        | ((with_reducible apply DSat.fin); kernel_rfl) | fail)
    with_reducible apply Sat.cond_pf
    · exact rfl
    · show ¬ (a.length : Int) < (a.length : Int); omega
    repeat' (first
        | ((with_reducible apply Sat.run (X := X64)); exact rfl; (first | exact True.intro | (exact phi) | skip))
        | ((with_reducible apply Sat.drawn); kernel_rfl)
        | ((with_reducible apply DSat.run (X := X64)); exact rfl; (first | exact True.intro | (exact phi) | skip))
        | ((with_reducible apply DSat.fin); kernel_rfl) | fail)
    (refine Sat.fin (Sat.end1 rfl rfl rfl True.intro (.refl _ purX) (by first | exact .inl rfl | exact .inr rfl) (fun _ h => h)) ?_; (refine congrArg SV.bool ?_; unfold rngEq; rw [decide_eq_true hlen, decide_eq_true x2]; rfl))
def lastR (l : List RngL) : Nat → Int
  | 0 => -1
  | i + 1 => (l.getD i rng0).hi
def RngP (l : List RngL) (n : Int) (i : Nat) : Prop := lastR l i < (l.getD i rng0).lo ∧ (l.getD i rng0).lo < (l.getD i rng0).hi ∧ (l.getD i rng0).hi ≤ n
instance (l : List RngL) (n : Int) (i : Nat) : Decidable (RngP l n i) := by unfold RngP; infer_instance
def rightB (l : List RngL) (n : Int) : Bool := decide (∀ i, i < l.length → RngP l n i)
theorem right_spec (l : List RngL) (n : Int) : Fun Tryd.prog [] 20 [.ro (rngE l), .int .i64 n] (.bool (rightB l n)) := by
  refine Fun.mkF 6 Tryd.func20 rfl Tryd.ntmps20 rfl rfl fun hf T w0 => ?_
  obtain ⟨⟨hl, _⟩, _⟩ := hf
  have hl : l.length ≤ 9223372036854775807 := hl
  repeat' (first
      | ((with_reducible apply Sat.run (X := X64)); exact rfl; (first | exact True.intro | (exact phi) | skip))
      | ((with_reducible apply Sat.drawn); kernel_rfl)
      | ((with_reducible apply DSat.run (X := X64)); exact rfl; (first | exact True.intro | (exact phi) | skip))
      | ((with_reducible apply DSat.fin); kernel_rfl) | fail)
  apply Sat.loop (α := Nat) (fun x => x ≤ l.length ∧ ∀ i, i < x → RngP l n i) (fun x => l.length - x) 0 (fun x => [(5, .int .i64 (lastR l x)), (6, .int .i64 (x : Int))]) (fun _ => []) [] [] 0
  · intro x; exact rfl
  · intro x; exact rfl
  · exact rfl
  · exact rfl
  · (repeat' (first | exact AllP.nil | with_reducible refine AllP.cons ?_ ?_)) <;> first | exact rfl | exact trivial | exact purX
  · exact ⟨Nat.zero_le _, fun i hi => by omega⟩
  rintro x ⟨x1, x2⟩
  by_cases hx : x < l.length
  · have hcc : (x : Int) < ((rngE l).len : Int) := by show (x : Int) < (l.length : Int); omega
    repeat' (first
        | ((with_reducible apply Sat.run (X := X64)); exact rfl; (first | exact True.intro | (exact phi) | skip))
        | ((with_reducible apply Sat.drawn); kernel_rfl)
        | ((with_reducible apply DSat.run (X := X64)); exact rfl; (first | exact True.intro | (exact phi) | skip))
        | ((with_reducible apply DSat.fin); kernel_rfl)
        | ((with_reducible apply Sat.cond_t); exact rfl)
        | ((with_reducible apply Sat.cond_f); exact rfl)
        | ((with_reducible apply Sat.cond_pt); exact rfl; (try dsimp only [V.EV.sub, V.EV.len]); first | assumption | omega)
        | ((with_reducible apply Sat.cond_pf); exact rfl; (try dsimp only [V.EV.sub, V.EV.len]); first | assumption | omega)
        | ((with_reducible apply Sat.cond_p); exact rfl; all_goals intro h)
        | ((with_reducible apply Sat.cond); exact rfl; all_goals intro h) | fail)
    · rw [Int.toNat_natCast] at h
      have hne : rightB l n = false := by
        refine decide_eq_false fun e => ?_
        obtain ⟨q1, q2, q3⟩ := e x hx
        rw [decide_eq_false (show ¬ (l.getD x rng0).lo ≤ lastR l x by omega), decide_eq_false (show ¬ (l.getD x rng0).hi ≤ (l.getD x rng0).lo by omega), decide_eq_false (show ¬ n < (l.getD x rng0).hi by omega)] at h
        cases h
      rw [hne]
      (refine Sat.fin (Sat.end1 rfl rfl rfl True.intro (.refl _ purX) (by first | exact .inl rfl | exact .inr rfl) (fun _ h => h)) ?_; rfl)
    · rw [Int.toNat_natCast] at h
      refine Sat.back (x + 1) [] rfl ?_ ?_ ?_
      · (repeat' (first | exact AllP.nil | with_reducible refine AllP.cons ?_ ?_)) <;> first | exact rfl | exact trivial | exact Int.natCast_add_one _ | exact purX
      · refine ⟨by omega, fun i hi => ?_⟩
        rcases Nat.lt_succ_iff_lt_or_eq.1 hi with h1 | rfl
        · exact x2 i h1
        · by_cases q1 : (l.getD i rng0).lo ≤ lastR l i
          · rw [decide_eq_true q1] at h; cases h
          · by_cases q2 : (l.getD i rng0).hi ≤ (l.getD i rng0).lo
            · rw [decide_eq_false q1, decide_eq_true q2] at h; cases h
            · by_cases q3 : n < (l.getD i rng0).hi
              · rw [decide_eq_false q1, decide_eq_false q2, decide_eq_true q3] at h; cases h
              · exact ⟨by omega, by omega, by omega⟩
      · omega
  · obtain rfl : x = l.length := by omega
    repeat' (first
        | ((with_reducible apply Sat.run (X := X64)); exact rfl; (first | exact True.intro | (exact phi) | skip))
        | ((with_reducible apply Sat.drawn); kernel_rfl)
        | ((with_reducible apply DSat.run (X := X64)); exact rfl; (first | exact True.intro | (exact phi) | skip))
        | ((with_reducible apply DSat.fin); kernel_rfl) | fail)
    with_reducible apply Sat.cond_pf
    · exact rfl
    · show ¬ (l.length : Int) < (l.length : Int); omega
    repeat' (first
        | ((with_reducible apply Sat.run (X := X64)); exact rfl; (first | exact True.intro | (exact phi) | skip))
        | ((with_reducible apply Sat.drawn); kernel_rfl)
        | ((with_reducible apply DSat.run (X := X64)); exact rfl; (first | exact True.intro | (exact phi) | skip))
        | ((with_reducible apply DSat.fin); kernel_rfl) | fail)
    (refine Sat.fin (Sat.end1 rfl rfl rfl True.intro (.refl _ purX) (by first | exact .inl rfl | exact .inr rfl) (fun _ h => h)) ?_; (exact congrArg SV.bool (decide_eq_true x2)))
def totalR (l : List RngL) : Int := (l.map fun r => r.hi - r.lo).sum
theorem totalR_step (l : List RngL) (i : Nat) (hi : i < l.length) : totalR (l.take (i + 1)) = totalR (l.take i) + ((l.getD i rng0).hi - (l.getD i rng0).lo) := by
  unfold totalR
  rw [List.take_add_one, List.map_append, List.sum_append, List.getD_eq_getElem?_getD, List.getElem?_eq_getElem hi]
  simp
theorem total_spec (l : List RngL) (h : ∀ i, i ≤ l.length → 0 ≤ totalR (l.take i) ∧ totalR (l.take i) ≤ 1000000) (hr : ∀ i, i < l.length → 0 ≤ (l.getD i rng0).lo ∧ (l.getD i rng0).lo ≤ (l.getD i rng0).hi ∧ (l.getD i rng0).hi ≤ 1000000) : Fun Tryd.prog [] 24 [.ro (rngE l)] (.int .i64 (totalR l)) := by
  refine Fun.mkF 6 Tryd.func24 rfl Tryd.ntmps24 rfl rfl fun hf T w0 => ?_
  obtain ⟨⟨hl, _⟩, _⟩ := hf
  have hl : l.length ≤ 9223372036854775807 := hl
  repeat' (first
      | ((with_reducible apply Sat.run (X := X64)); exact rfl; (first | exact True.intro | (exact phi) | skip))
      | ((with_reducible apply Sat.drawn); kernel_rfl)
      | ((with_reducible apply DSat.run (X := X64)); exact rfl; (first | exact True.intro | (exact phi) | skip))
      | ((with_reducible apply DSat.fin); kernel_rfl) | fail)
  apply Sat.loop (α := Nat) (fun x => x ≤ l.length) (fun x => l.length - x) 0 (fun x => [(3, .int .i64 (totalR (l.take x))), (4, .int .i64 (x : Int))]) (fun _ => []) [] [] 0
  · intro x; exact rfl
  · intro x; exact rfl
  · exact rfl
  · exact rfl
  · (repeat' (first | exact AllP.nil | with_reducible refine AllP.cons ?_ ?_)) <;> first | exact rfl | exact trivial | exact purX
  · exact Nat.zero_le _
  rintro x x1
  by_cases hx : x < l.length
  · have hcc : (x : Int) < ((rngE l).len : Int) := by show (x : Int) < (l.length : Int); omega
    have q1 := h x x1
    have q2 := h (x + 1) hx
    have q3 : 0 ≤ (l.getD ((x : Int).toNat) rng0).lo ∧ (l.getD ((x : Int).toNat) rng0).lo ≤ (l.getD ((x : Int).toNat) rng0).hi ∧ (l.getD ((x : Int).toNat) rng0).hi ≤ 1000000 := hr x hx
    have q4 : totalR (l.take (x + 1)) = totalR (l.take x) + ((l.getD ((x : Int).toNat) rng0).hi - (l.getD ((x : Int).toNat) rng0).lo) := totalR_step l x hx
    repeat' (first
        | ((with_reducible apply Sat.run (X := X64)); exact rfl; (first | exact True.intro | (exact phi) | skip))
        | ((with_reducible apply Sat.drawn); kernel_rfl)
        | ((with_reducible apply DSat.run (X := X64)); exact rfl; (first | exact True.intro | (exact phi) | skip))
        | ((with_reducible apply DSat.fin); kernel_rfl)
        | ((with_reducible apply Sat.cond_t); exact rfl)
        | ((with_reducible apply Sat.cond_f); exact rfl)
        | ((with_reducible apply Sat.cond_pt); exact rfl; (try dsimp only [V.EV.sub, V.EV.len]); first | assumption | omega)
        | ((with_reducible apply Sat.cond_pf); exact rfl; (try dsimp only [V.EV.sub, V.EV.len]); first | assumption | omega)
        | ((with_reducible apply Sat.cond_p); exact rfl; all_goals intro h)
        | ((with_reducible apply Sat.cond); exact rfl; all_goals intro h) | fail)
    refine Sat.back (x + 1) [] rfl ?_ (by omega) (by omega)
    (repeat' (first | exact AllP.nil | with_reducible refine AllP.cons ?_ ?_)) <;> first | exact rfl | exact trivial | exact Int.natCast_add_one _ | exact q4.symm | exact purX
  · obtain rfl : x = l.length := by omega
    repeat' (first
        | ((with_reducible apply Sat.run (X := X64)); exact rfl; (first | exact True.intro | (exact phi) | skip))
        | ((with_reducible apply Sat.drawn); kernel_rfl)
        | ((with_reducible apply DSat.run (X := X64)); exact rfl; (first | exact True.intro | (exact phi) | skip))
        | ((with_reducible apply DSat.fin); kernel_rfl) | fail)
    with_reducible apply Sat.cond_pf
    · exact rfl
    · show ¬ (l.length : Int) < (l.length : Int); omega
    repeat' (first
        | ((with_reducible apply Sat.run (X := X64)); exact rfl; (first | exact True.intro | (exact phi) | skip))
        | ((with_reducible apply Sat.drawn); kernel_rfl)
        | ((with_reducible apply DSat.run (X := X64)); exact rfl; (first | exact True.intro | (exact phi) | skip))
        | ((with_reducible apply DSat.fin); kernel_rfl) | fail)
    (refine Sat.fin (Sat.end1 rfl rfl rfl True.intro (.refl _ purX) (by first | exact .inl rfl | exact .inr rfl) (fun _ h => h)) ?_; (rw [List.take_length]))
end Go.Proofs.YtmmpflifajjbjaaDoor
end
section
namespace Go.Proofs.YtmmpflifajjbjaaDoor
open Go.RowKit V
--PURE: (intro _ _; simp [pureL, pureS, pureE]; done)
set_option maxRecDepth 100000
set_option maxHeartbeats 4000000
set_option linter.unusedSimpArgs false
structure RawS where
  gap : UInt8
  words : UInt8
  odd : UInt8
  code : Bool
def raw0 : RawS := ⟨0, 0, 0, false⟩
@[reducible] def rawE (l : List RawS) : EV := .g l.length 4 fun i => [.int .u8 ((l.getD i raw0).gap.toNat : Int), .int .u8 ((l.getD i raw0).words.toNat : Int), .int .u8 ((l.getD i raw0).odd.toNat : Int), .bool (l.getD i raw0).code]
def nameS (i : Nat) : List UInt8 := [[98, 111, 111, 116], [97, 112, 112], [68, 97, 116, 97], [120, 49], [116, 97, 105, 108], [99, 102, 103], [65], [116, 119, 101, 108, 118, 101, 108, 101, 116, 116, 101, 114]].getD i []
def frS (at' : Int) (r : RawS) : Int := bif r.code then (at' + (r.gap.toNat % 8 : Nat) + 3) / 4 * 4 else at' + (r.gap.toNat % 8 : Nat)
def toS (at' : Int) (r : RawS) : Int := bif r.code then frS at' r + 4 + 4 * (r.words.toNat % 8 : Nat) else frS at' r + 1 + 4 * (r.words.toNat % 8 : Nat) + (r.odd.toNat % 4 : Nat)
def secS (i : Nat) (at' : Int) (r : RawS) : SecL := ⟨nameS i, frS at' r, toS at' r, r.code⟩
def madeS (n : Int) : Nat → Int → List RawS → List SecL
  | _, _, [] => []
  | i, at', r :: l => bif decide (n < toS at' r) then [] else secS i at' r :: madeS n (i + 1) (toS at' r) l
attribute [local irreducible] V.Sat V.DSat
theorem mod8 (b : UInt8) : (b.toNat : Int).tmod 8 = ((b.toNat % 8 : Nat) : Int) := rfl
theorem mod4 (b : UInt8) : (b.toNat : Int).tmod 4 = ((b.toNat % 4 : Nat) : Int) := rfl
theorem drop_step {α : Type} (l : List α) (d : α) (n i : Nat) (hi : i < n) (hl : i < l.length) : (l.take n).drop i = l.getD i d :: (l.take n).drop (i + 1) := by
  rw [List.drop_eq_getElem_cons (by rw [List.length_take]; omega), List.getElem_take, List.getD_eq_getElem?_getD, List.getElem?_eq_getElem hl]
  rfl
theorem drop_end {α : Type} (l : List α) (n i : Nat) (h : n ≤ i ∨ l.length ≤ i) : (l.take n).drop i = [] := List.drop_eq_nil_of_le (by rw [List.length_take]; omega)
theorem getD_app_l {α : Type} (l : List α) (x d : α) (i : Nat) (h : i < l.length) : (l ++ [x]).getD i d = l.getD i d := by
  simp [List.getD_eq_getElem?_getD, List.getElem?_append_left h]
theorem getD_app_r {α : Type} (l : List α) (x d : α) : (l ++ [x]).getD l.length d = x := by
  simp [List.getD_eq_getElem?_getD]
theorem row_snoc2 {α : Type} (F : α → List SV) (l : List α) (x d : α) : ∀ i, i < l.length + 1 → (if i < l.length then (fun i => F (l.getD i d)) i else (fun i => nthL [F x] (0 + i)) (i - l.length)) = F ((l ++ [x]).getD i d) := by
  intro i hi
  by_cases h : i < l.length
  · rw [if_pos h, getD_app_l _ _ _ _ h]
  · obtain rfl : i = l.length := by omega
    rw [if_neg h, getD_app_r]
    dsimp only
    rw [show 0 + (l.length - l.length) = 0 by omega]
    rfl
theorem pure_nth1 (x : List SV) (h : pureL x) : ∀ k, pureL (nthL [x] k)
  | 0 => h
  | _ + 1 => trivial
theorem toS_t (at' : Int) (r : RawS) (h : r.code = true) : toS at' r = (at' + (r.gap.toNat : Int).tmod 8 + 3) / 4 * 4 + 4 + 4 * (r.words.toNat : Int).tmod 8 ∧ frS at' r = (at' + (r.gap.toNat : Int).tmod 8 + 3) / 4 * 4 := by
  unfold toS frS
  rw [h]
  exact ⟨rfl, rfl⟩
theorem toS_f (at' : Int) (r : RawS) (h : r.code = false) : toS at' r = at' + (r.gap.toNat : Int).tmod 8 + 1 + 4 * (r.words.toNat : Int).tmod 8 + (r.odd.toNat : Int).tmod 4 ∧ frS at' r = at' + (r.gap.toNat : Int).tmod 8 := by
  unfold toS frS
  rw [h]
  exact ⟨rfl, rfl⟩
theorem toS_ge (at' : Int) (r : RawS) (h : 0 ≤ at') : 0 ≤ toS at' r := by
  unfold toS frS
  cases r.code
  · show 0 ≤ at' + _ + 1 + 4 * _ + _
    omega
  · show 0 ≤ (at' + _ + 3) / 4 * 4 + 4 + 4 * _
    omega
theorem made_spec (l : List RawS) (n : Int) (hn : 0 ≤ n ∧ n ≤ 1000) : Fun Tryd.prog [] 10 [.ro (rawE l), .int .i64 n] (.ro (secE (madeS n 0 0 (l.take 8)))) := by
  refine Fun.mkF 7 Tryd.func10 rfl Tryd.ntmps10 rfl rfl fun hf T w0 => ?_
  obtain ⟨⟨hl, _⟩, _⟩ := hf
  have hl : l.length ≤ 9223372036854775807 := hl
  repeat' (first
      | ((with_reducible apply Sat.run (X := X64)); exact rfl; (first | exact True.intro | (exact phi) | skip))
      | ((with_reducible apply Sat.drawn); kernel_rfl)
      | ((with_reducible apply DSat.run (X := X64)); exact rfl; (first | exact True.intro | (exact phi) | skip))
      | ((with_reducible apply DSat.fin); kernel_rfl) | fail)
  refine Sat.kill [10, 11] rfl ?_
  apply Sat.loop (α := Nat × Int × List SecL) (fun x => x.1 ≤ 8 ∧ x.1 ≤ l.length ∧ 0 ≤ x.2.1 ∧ x.2.1 ≤ n ∧ x.2.2.length = x.1 ∧ madeS n 0 0 (l.take 8) = x.2.2 ++ madeS n x.1 x.2.1 ((l.take 8).drop x.1)) (fun x => 8 - x.1) (0, 0, []) (fun x => [(6, .row 1 0 4 0 x.2.2.length), (7, .int .i64 x.2.1), (8, .int .i64 (x.1 : Int))]) (fun x => [(1, .row 28 (secE x.2.2)), (0, .row 9 (.g 8 1 fun i => [.str (nameS i)]))]) [] [] 0
  · intro x; exact rfl
  · intro x; exact rfl
  · exact rfl
  · exact rfl
  · (repeat' (first | exact AllP.nil | with_reducible refine AllP.cons ?_ ?_)) <;> first | exact rfl | exact trivial | exact ⟨rfl, rfl, rfl, rfl⟩ | (intro z hz; rcases z with _ | _ | _ | _ | _ | _ | _ | _ | z <;> first | rfl | (exfalso; omega)) | (intro z hz; rcases z with _ | _ | _ | _ | _ | _ | _ | _ | z <;> first | exact ⟨trivial, trivial⟩ | (exfalso; omega)) | (intro z hz; exact absurd hz (Nat.not_lt_zero _)) | exact purX
  · exact ⟨Nat.zero_le _, Nat.zero_le _, Int.le_refl _, hn.1, rfl, rfl⟩
  rintro ⟨i, at', acc⟩ ⟨x0, x1, x2, x3, x4, x5⟩
  dsimp only at x0 x1 x2 x3 x4 x5 ⊢
  by_cases hi : i < l.length ∧ i < 8
  · obtain ⟨hi1, hi2⟩ := hi
    have hcc : (i : Int) < ((rawE l).len : Int) := by show (i : Int) < (l.length : Int); omega
    have g1 := mod8 (l.getD ((i : Int).toNat) raw0).gap
    have g2 := mod8 (l.getD ((i : Int).toNat) raw0).words
    have g3 := mod4 (l.getD ((i : Int).toNat) raw0).odd
    repeat' (first
        | ((with_reducible apply Sat.run (X := X64)); exact rfl; (first | exact True.intro | (exact phi) | skip))
        | ((with_reducible apply Sat.drawn); kernel_rfl)
        | ((with_reducible apply DSat.run (X := X64)); exact rfl; (first | exact True.intro | (exact phi) | skip))
        | ((with_reducible apply DSat.fin); kernel_rfl) | fail)
    with_reducible apply Sat.cond
    · exact rfl
    · intro h
      clear h
      repeat' (first
          | ((with_reducible apply Sat.run (X := X64)); exact rfl; (first | exact True.intro | (exact phi) | skip))
          | ((with_reducible apply Sat.drawn); kernel_rfl)
          | ((with_reducible apply DSat.run (X := X64)); exact rfl; (first | exact True.intro | (exact phi) | skip))
          | ((with_reducible apply DSat.fin); kernel_rfl)
          | ((with_reducible apply Sat.cond_t); exact rfl)
          | ((with_reducible apply Sat.cond_f); exact rfl)
          | ((with_reducible apply Sat.cond_pt); exact rfl; (try dsimp only [V.EV.sub, V.EV.len]); first | assumption | omega)
          | ((with_reducible apply Sat.cond_pf); exact rfl; (try dsimp only [V.EV.sub, V.EV.len]); first | assumption | omega)
          | ((with_reducible apply Sat.cond_p); exact rfl; all_goals intro h)
          | ((with_reducible apply Sat.cond); exact rfl; all_goals intro h) | fail)
      · rename_i hcd
        rw [Int.toNat_natCast] at h hcd
        have ht := (toS_t at' (l.getD i raw0) hcd).1
        have hM : madeS n 0 0 (l.take 8) = acc := by
          rw [x5, drop_step l raw0 8 i hi2 hi1, madeS, ht, decide_eq_true h]
          exact List.append_nil _
        rw [hM]
        refine Sat.fin (Sat.end1 rfl rfl rfl True.intro (.all _ _ _ _ _ rfl rfl rfl (by intro _ _; simp [pureL, pureS, pureE])) (by first | exact .inl rfl | exact .inr rfl) (fun _ h => h)) rfl
      · rename_i hcd
        rw [Int.toNat_natCast] at h hcd
        obtain ⟨ht, hfr⟩ := toS_t at' (l.getD i raw0) hcd
        have hge := toS_ge at' (l.getD i raw0) x2
        rw [Int.toNat_natCast, hcd, ← ht, ← hfr]
        rw [← ht] at h
        refine Sat.back (i + 1, toS at' (l.getD i raw0), acc ++ [secS i at' (l.getD i raw0)]) [(1, some 4)] rfl ?_ ?_ ?_
        · (repeat' (first | exact AllP.nil | with_reducible refine AllP.cons ?_ ?_)) <;> first | with_reducible exact rfl | exact Int.natCast_add_one _ | exact rfl | exact trivial | exact ⟨rfl, rfl, rfl, by simp [EV.len, EV.sub]⟩ | (show acc.length + 1 = (acc ++ [secS i at' (l.getD i raw0)]).length; simp; done) | (intro z hz; refine (row_snoc2 (fun x : SecL => [.str x.name, .int .i64 x.fr, .int .i64 x.to, .bool x.code]) acc ⟨nameS (0 + i), frS at' (l.getD i raw0), toS at' (l.getD i raw0), true⟩ sec0 z hz).trans ?_; rw [show (⟨nameS (0 + i), frS at' (l.getD i raw0), toS at' (l.getD i raw0), true⟩ : SecL) = secS i at' (l.getD i raw0) from by rw [Nat.zero_add, secS, hcd]]) | exact purX | (intro _ _; exact rfl) | (intro _ _; dsimp only; split <;> first | (simp [pureL, pureS, pureE]; done) | exact pure_nth1 _ (by simp [pureL, pureS, pureE]) _) | (intro _ _; exact pure_nth1 _ (by simp [pureL, pureS, pureE]) _)
        · refine ⟨by dsimp only; omega, by dsimp only; omega, by dsimp only; omega, by dsimp only; omega, by simp only [List.length_append, List.length_cons, List.length_nil]; omega, ?_⟩
          dsimp only
          rw [x5, drop_step l raw0 8 i hi2 hi1]
          conv => lhs; rw [madeS]
          rw [decide_eq_false h]
          simp only [cond_false, List.append_assoc, List.cons_append, List.nil_append]
        · dsimp only; omega
      · rename_i hcd
        rw [Int.toNat_natCast] at h hcd
        have ht := (toS_f at' (l.getD i raw0) hcd).1
        have hM : madeS n 0 0 (l.take 8) = acc := by
          rw [x5, drop_step l raw0 8 i hi2 hi1, madeS, ht, decide_eq_true h]
          exact List.append_nil _
        rw [hM]
        refine Sat.fin (Sat.end1 rfl rfl rfl True.intro (.all _ _ _ _ _ rfl rfl rfl (by intro _ _; simp [pureL, pureS, pureE])) (by first | exact .inl rfl | exact .inr rfl) (fun _ h => h)) rfl
      · rename_i hcd
        rw [Int.toNat_natCast] at h hcd
        obtain ⟨ht, hfr⟩ := toS_f at' (l.getD i raw0) hcd
        have hge := toS_ge at' (l.getD i raw0) x2
        rw [Int.toNat_natCast, hcd, ← ht, ← hfr]
        rw [← ht] at h
        refine Sat.back (i + 1, toS at' (l.getD i raw0), acc ++ [secS i at' (l.getD i raw0)]) [(1, some 4)] rfl ?_ ?_ ?_
        · (repeat' (first | exact AllP.nil | with_reducible refine AllP.cons ?_ ?_)) <;> first | with_reducible exact rfl | exact Int.natCast_add_one _ | exact rfl | exact trivial | exact ⟨rfl, rfl, rfl, by simp [EV.len, EV.sub]⟩ | (show acc.length + 1 = (acc ++ [secS i at' (l.getD i raw0)]).length; simp; done) | (intro z hz; refine (row_snoc2 (fun x : SecL => [.str x.name, .int .i64 x.fr, .int .i64 x.to, .bool x.code]) acc ⟨nameS (0 + i), frS at' (l.getD i raw0), toS at' (l.getD i raw0), false⟩ sec0 z hz).trans ?_; rw [show (⟨nameS (0 + i), frS at' (l.getD i raw0), toS at' (l.getD i raw0), false⟩ : SecL) = secS i at' (l.getD i raw0) from by rw [Nat.zero_add, secS, hcd]]) | exact purX | (intro _ _; exact rfl) | (intro _ _; dsimp only; split <;> first | (simp [pureL, pureS, pureE]; done) | exact pure_nth1 _ (by simp [pureL, pureS, pureE]) _) | (intro _ _; exact pure_nth1 _ (by simp [pureL, pureS, pureE]) _)
        · refine ⟨by dsimp only; omega, by dsimp only; omega, by dsimp only; omega, by dsimp only; omega, by simp only [List.length_append, List.length_cons, List.length_nil]; omega, ?_⟩
          dsimp only
          rw [x5, drop_step l raw0 8 i hi2 hi1]
          conv => lhs; rw [madeS]
          rw [decide_eq_false h]
          simp only [cond_false, List.append_assoc, List.cons_append, List.nil_append]
        · dsimp only; omega
    · intro h
      exfalso
      have hq : decide ((i : Int) < ((rawE l).len : Int)) = true := decide_eq_true hcc
      have hq2 : decide ((i : Int) < 8) = true := decide_eq_true (by omega)
      rw [hq, hq2] at h
      cases h
  · have hd : (l.take 8).drop i = [] := drop_end l 8 i (by omega)
    have hM : madeS n 0 0 (l.take 8) = acc := by
      rw [x5, hd, madeS]
      exact List.append_nil _
    rw [hM]
    repeat' (first
        | ((with_reducible apply Sat.run (X := X64)); exact rfl; (first | exact True.intro | (exact phi) | skip))
        | ((with_reducible apply Sat.drawn); kernel_rfl)
        | ((with_reducible apply DSat.run (X := X64)); exact rfl; (first | exact True.intro | (exact phi) | skip))
        | ((with_reducible apply DSat.fin); kernel_rfl) | fail)
    with_reducible apply Sat.cond
    · exact rfl
    · intro h
      exfalso
      rcases (by omega : 8 ≤ i ∨ l.length ≤ i) with he | he
      · rw [decide_eq_false (show ¬ (i : Int) < 8 by omega)] at h
        revert h
        cases decide ((i : Int) < ((rawE l).len : Int)) <;> exact fun h => (by cases h)
      · rw [decide_eq_false (show ¬ (i : Int) < ((rawE l).len : Int) by show ¬ (i : Int) < (l.length : Int); omega)] at h
        cases h
    intro h
    clear h
    repeat' (first
        | ((with_reducible apply Sat.run (X := X64)); exact rfl; (first | exact True.intro | (exact phi) | skip))
        | ((with_reducible apply Sat.drawn); kernel_rfl)
        | ((with_reducible apply DSat.run (X := X64)); exact rfl; (first | exact True.intro | (exact phi) | skip))
        | ((with_reducible apply DSat.fin); kernel_rfl) | fail)
    refine Sat.fin (Sat.end1 rfl rfl rfl True.intro (.all _ _ _ _ _ rfl rfl rfl (by intro _ _; simp [pureL, pureS, pureE])) (by first | exact .inl rfl | exact .inr rfl) (fun _ h => h)) rfl
end Go.Proofs.YtmmpflifajjbjaaDoor
end
section
namespace Go.Proofs.YtmmpflifajjbjaaDoor
open Go.RowKit V
--PURE: (intro _ _; simp [pureL, pureS, pureE]; done)
set_option maxRecDepth 100000
set_option maxHeartbeats 4000000
set_option linter.unusedSimpArgs false
structure EdL where
  p : UInt8
  q : UInt8
def ed0 : EdL := ⟨0, 0⟩
@[reducible] def edE (l : List EdL) : EV := .g l.length 2 fun i => [.int .u8 ((l.getD i ed0).p.toNat : Int), .int .u8 ((l.getD i ed0).q.toNat : Int)]
def editN (b : List UInt8) (l : List EdL) : Nat → List UInt8
  | 0 => b
  | x + 1 => (editN b l x).set ((l.getD x ed0).p.toNat % b.length) (l.getD x ed0).q
theorem editN_len (b : List UInt8) (l : List EdL) : ∀ x, (editN b l x).length = b.length
  | 0 => rfl
  | x + 1 => by rw [editN, List.length_set, editN_len b l x]
def editB (b : List UInt8) (l : List EdL) : List UInt8 := editN b l (if b.length = 0 then 0 else min l.length 20)
attribute [local irreducible] V.Sat V.DSat
theorem edited_spec (b : List UInt8) (hb : b.length ≤ 100000) (l : List EdL) : Fun Tryd.prog [] 18 [.ro (.u8 b), .ro (edE l)] (.ro (.u8 (editB b l))) := by
  refine Fun.mkF 6 Tryd.func18 rfl Tryd.ntmps18 rfl rfl fun hf T w0 => ?_
  obtain ⟨⟨hl, _⟩, ⟨hl2, _⟩, _⟩ := hf
  have hl : b.length ≤ 9223372036854775807 := hl
  have hl2 : l.length ≤ 9223372036854775807 := hl2
  have hq : (0 + (EV.u8 b).len) * (0 + 1) ≤ 140737488355328 := by show (0 + b.length) * (0 + 1) ≤ 140737488355328; omega
  repeat' (first
      | ((with_reducible apply Sat.run (X := X64)); exact rfl; (first | exact True.intro | (exact phi) | skip))
      | ((with_reducible apply Sat.drawn); kernel_rfl)
      | ((with_reducible apply DSat.run (X := X64)); exact rfl; (first | exact True.intro | (exact phi) | skip))
      | ((with_reducible apply DSat.fin); kernel_rfl) | fail)
  refine Sat.kill [7] rfl ?_
  apply Sat.loop (α := Nat) (fun x => x ≤ (if b.length = 0 then 0 else min l.length 20)) (fun x => l.length - x) 0 (fun x => [(6, .int .i64 (x : Int))]) (fun x => [(1, .row 5 (.u8 (editN b l x)))]) [] [] 0
  · intro x; exact rfl
  · intro x; exact rfl
  · exact rfl
  · exact rfl
  · (repeat' (first | exact AllP.nil | with_reducible refine AllP.cons ?_ ?_)) <;> first | exact rfl | exact trivial | exact purX | exact ⟨rfl, rfl, rfl, by simp [EV.len]⟩ | simp [EV.len]
  · exact Nat.zero_le _
  rintro x x1
  by_cases hi : (x < l.length ∧ x < 20) ∧ 0 < b.length
  · obtain ⟨⟨hi1, hi2⟩, hi3⟩ := hi
    have hcc : (x : Int) < ((edE l).len : Int) := by show (x : Int) < (l.length : Int); omega
    have hlen := editN_len b l x
    have ht : ((l.getD ((x : Int).toNat) ed0).p.toNat : Int).tmod ((EV.u8 b).len : Int) = (((l.getD x ed0).p.toNat % b.length : Nat) : Int) := rfl
    have hm : (l.getD x ed0).p.toNat % b.length < b.length := Nat.mod_lt _ hi3
    have m1 : 0 + (((l.getD ((x : Int).toNat) ed0).p.toNat : Int).tmod ((EV.u8 b).len : Int)).toNat < (EV.u8 (editN b l x)).len := by rw [ht]; show 0 + ((((l.getD x ed0).p.toNat % b.length : Nat) : Int)).toNat < (editN b l x).length; omega
    have m2 : 0 ≤ ((l.getD ((x : Int).toNat) ed0).p.toNat : Int).tmod ((EV.u8 b).len : Int) ∧ ((l.getD ((x : Int).toNat) ed0).p.toNat : Int).tmod ((EV.u8 b).len : Int) < ((0 + (EV.u8 b).len : Nat) : Int) := by rw [ht]; show _ ∧ _ < ((0 + b.length : Nat) : Int); omega
    have hst : EV.u8 ((editN b l x).set (0 + (((l.getD ((x : Int).toNat) ed0).p.toNat : Int).tmod ((EV.u8 b).len : Int)).toNat) (UInt8.ofNat (((l.getD ((x : Int).toNat) ed0).q.toNat : Int)).toNat)) = EV.u8 (editN b l (x + 1)) := by
      rw [ht, Int.toNat_natCast, Int.toNat_natCast, Int.toNat_natCast, Nat.zero_add, UInt8.ofNat_toNat]
      rfl
    repeat' (first
        | ((with_reducible apply Sat.run (X := X64)); exact rfl; (first | exact True.intro | (exact phi) | skip))
        | ((with_reducible apply Sat.drawn); kernel_rfl)
        | ((with_reducible apply DSat.run (X := X64)); exact rfl; (first | exact True.intro | (exact phi) | skip))
        | ((with_reducible apply DSat.fin); kernel_rfl) | fail)
    with_reducible apply Sat.cond
    · exact rfl
    · intro h
      clear h
      repeat' (first
          | ((with_reducible apply Sat.run (X := X64)); exact rfl; (first | exact True.intro | (exact phi) | skip))
          | ((with_reducible apply Sat.drawn); kernel_rfl)
          | ((with_reducible apply DSat.run (X := X64)); exact rfl; (first | exact True.intro | (exact phi) | skip))
          | ((with_reducible apply DSat.fin); kernel_rfl) | fail)
      refine Sat.back (x + 1) [] rfl ?_ ?_ ?_
      · (repeat' (first | exact AllP.nil | with_reducible refine AllP.cons ?_ ?_)) <;> first | exact rfl | exact trivial | exact Int.natCast_add_one _ | exact ⟨rfl, rfl, rfl, by simp [EV.len, editN_len]⟩ | (simp [EV.len, editN_len]; done) | exact hst | exact purX
      · split <;> omega
      · omega
    · intro h
      exfalso
      have hq : decide ((x : Int) < ((edE l).len : Int)) = true := decide_eq_true hcc
      have hq2 : decide ((x : Int) < 20) = true := decide_eq_true (by omega)
      have hq3 : decide (0 < ((EV.u8 b).len : Int)) = true := decide_eq_true (by show 0 < (b.length : Int); omega)
      rw [hq, hq2, hq3] at h
      cases h
  · have he : x = (if b.length = 0 then 0 else min l.length 20) := by split at x1 <;> (split <;> omega)
    repeat' (first
        | ((with_reducible apply Sat.run (X := X64)); exact rfl; (first | exact True.intro | (exact phi) | skip))
        | ((with_reducible apply Sat.drawn); kernel_rfl)
        | ((with_reducible apply DSat.run (X := X64)); exact rfl; (first | exact True.intro | (exact phi) | skip))
        | ((with_reducible apply DSat.fin); kernel_rfl) | fail)
    with_reducible apply Sat.cond
    · exact rfl
    · intro h
      exfalso
      rcases (by omega : 20 ≤ x ∨ l.length ≤ x ∨ b.length = 0) with he | he | he
      · rw [decide_eq_false (show ¬ (x : Int) < 20 by omega)] at h
        revert h
        cases decide ((x : Int) < ((edE l).len : Int)) <;> exact fun h => (by cases h)
      · rw [decide_eq_false (show ¬ (x : Int) < ((edE l).len : Int) by show ¬ (x : Int) < (l.length : Int); omega)] at h
        cases h
      · rw [decide_eq_false (show ¬ 0 < ((EV.u8 b).len : Int) by show ¬ 0 < (b.length : Int); omega)] at h
        revert h
        cases decide ((x : Int) < ((edE l).len : Int)) <;> cases decide ((x : Int) < 20) <;> exact fun h => (by cases h)
    intro h
    clear h
    repeat' (first
        | ((with_reducible apply Sat.run (X := X64)); exact rfl; (first | exact True.intro | (exact phi) | skip))
        | ((with_reducible apply Sat.drawn); kernel_rfl)
        | ((with_reducible apply DSat.run (X := X64)); exact rfl; (first | exact True.intro | (exact phi) | skip))
        | ((with_reducible apply DSat.fin); kernel_rfl) | fail)
    have hr : editN b l x = editB b l := by rw [he]; rfl
    rw [hr]
    refine Sat.fin (Sat.end1 rfl rfl rfl True.intro (.all _ _ _ _ _ (by first | rfl | (rw [← hr]; simp [EV.len, EV.sz, EV.sub, editN_len]; done) | (trace_state; fail)) (by first | rfl | (rw [← hr]; simp [EV.len, EV.sz, EV.sub, editN_len]; done) | (trace_state; fail)) (by first | rfl | (rw [← hr]; simp [EV.len, EV.sz, EV.sub, editN_len]; done) | (trace_state; fail)) (by simp [pureL, pureS, pureE])) (by first | exact .inl rfl | exact .inr rfl) (fun _ h => h)) rfl
end Go.Proofs.YtmmpflifajjbjaaDoor
end
section
namespace Go.Proofs.YtmmpflifajjbjaaDoor
open Go.RowKit V
--PURE: (intro _ _; simp [pureL, pureS, pureE]; done)
set_option maxRecDepth 100000
set_option maxHeartbeats 4000000
set_option linter.unusedSimpArgs false
def pickN (b : List UInt8) (l : List RngL) : Nat → List UInt8
  | 0 => []
  | x + 1 => pickN b l x ++ List.take ((l.getD x rng0).hi.toNat - (l.getD x rng0).lo.toNat) (List.drop (l.getD x rng0).lo.toNat b)
attribute [local irreducible] V.Sat V.DSat
theorem pick_spec (b : List UInt8) (l : List RngL) (hr : ∀ i, i < l.length → 0 ≤ (l.getD i rng0).lo ∧ (l.getD i rng0).lo ≤ (l.getD i rng0).hi ∧ (l.getD i rng0).hi ≤ b.length) (hp : ∀ i, i ≤ l.length → (pickN b l i).length ≤ 1000000) : Fun Tryd.prog [] 22 [.ro (.u8 b), .ro (rngE l)] (.ro (.u8 (pickN b l l.length))) := by
  refine Fun.mkF 6 Tryd.func22 rfl Tryd.ntmps22 rfl rfl fun hf T w0 => ?_
  obtain ⟨⟨hl, _⟩, ⟨hl2, _⟩, _⟩ := hf
  have hl : b.length ≤ 9223372036854775807 := hl
  have hl2 : l.length ≤ 9223372036854775807 := hl2
  repeat' (first
      | ((with_reducible apply Sat.run (X := X64)); exact rfl; (first | exact True.intro | (exact phi) | skip))
      | ((with_reducible apply Sat.drawn); kernel_rfl)
      | ((with_reducible apply DSat.run (X := X64)); exact rfl; (first | exact True.intro | (exact phi) | skip))
      | ((with_reducible apply DSat.fin); kernel_rfl) | fail)
  refine Sat.kill [7] rfl ?_
  apply Sat.loop (α := Nat) (fun x => x ≤ l.length) (fun x => l.length - x) 0 (fun x => [(5, .row 0 0 1 0 (pickN b l x).length), (6, .int .i64 (x : Int))]) (fun x => [(0, .row 5 (.u8 (pickN b l x)))]) [] [] 0
  · intro x; exact rfl
  · intro x; exact rfl
  · exact rfl
  · exact rfl
  · (repeat' (first | exact AllP.nil | with_reducible refine AllP.cons ?_ ?_)) <;> first | exact rfl | exact trivial | exact ⟨rfl, rfl, rfl, rfl⟩ | exact purX
  · exact Nat.zero_le _
  rintro x x1
  by_cases hx : x < l.length
  · have hcc : (x : Int) < ((rngE l).len : Int) := by show (x : Int) < (l.length : Int); omega
    have r1 : 0 ≤ (l.getD ((x : Int).toNat) rng0).lo ∧ (l.getD ((x : Int).toNat) rng0).lo ≤ (l.getD ((x : Int).toNat) rng0).hi ∧ (l.getD ((x : Int).toNat) rng0).hi ≤ ((EV.u8 b).len : Int) := hr x hx
    have r2 := hp (x + 1) hx
    repeat' (first
        | ((with_reducible apply Sat.run (X := X64)); exact rfl; (first | exact True.intro | (exact phi) | skip))
        | ((with_reducible apply Sat.drawn); kernel_rfl)
        | ((with_reducible apply DSat.run (X := X64)); exact rfl; (first | exact True.intro | (exact phi) | skip))
        | ((with_reducible apply DSat.fin); kernel_rfl)
        | ((with_reducible apply Sat.cond_t); exact rfl)
        | ((with_reducible apply Sat.cond_f); exact rfl)
        | ((with_reducible apply Sat.cond_pt); exact rfl; (try dsimp only [V.EV.sub, V.EV.len]); first | assumption | omega)
        | ((with_reducible apply Sat.cond_pf); exact rfl; (try dsimp only [V.EV.sub, V.EV.len]); first | assumption | omega)
        | ((with_reducible apply Sat.cond_p); exact rfl; all_goals intro h)
        | ((with_reducible apply Sat.cond); exact rfl; all_goals intro h) | fail)
    · have r3 : 0 ≤ (l.getD ((x : Int).toNat) rng0).lo ∧ (l.getD ((x : Int).toNat) rng0).lo ≤ (l.getD ((x : Int).toNat) rng0).hi ∧ (l.getD ((x : Int).toNat) rng0).hi ≤ (b.length : Int) := r1
      have hx2 : 0 ≤ (x : Int) ∧ (x : Int) < (l.length : Int) := by omega
      refine .cons rfl (.cons ?_ (.cons r1.1 (.cons (Int.le_trans r1.1 r1.2.1) (.cons ⟨?_, ?_⟩ (.cons hx2 (.cons hx2 .nil))))))
      · have r4 : (pickN b l x ++ List.take ((l.getD ((x : Int).toNat) rng0).hi.toNat - (l.getD ((x : Int).toNat) rng0).lo.toNat) (List.drop (l.getD ((x : Int).toNat) rng0).lo.toNat b)).length ≤ 1000000 := r2
        rw [List.length_append] at r4
        show ((pickN b l x).length + (List.take ((l.getD ((x : Int).toNat) rng0).hi.toNat - (l.getD ((x : Int).toNat) rng0).lo.toNat) (List.drop (l.getD ((x : Int).toNat) rng0).lo.toNat b)).length) * (0 + 1) ≤ 140737488355328
        omega
      · show (l.getD ((x : Int).toNat) rng0).lo.toNat ≤ (l.getD ((x : Int).toNat) rng0).hi.toNat
        omega
      · show (l.getD ((x : Int).toNat) rng0).hi.toNat ≤ b.length
        omega
    refine Sat.back (x + 1) [(0, some 1)] rfl ?_ ?_ ?_
    · (repeat' (first | exact AllP.nil | with_reducible refine AllP.cons ?_ ?_)) <;> first | exact rfl | exact trivial | exact Int.natCast_add_one _ | exact purX | (simp [EV.len, pickN]; done) | exact ⟨rfl, rfl, rfl, by simp [EV.len, pickN]⟩
    · exact hx
    · omega
  · obtain rfl : x = l.length := by omega
    repeat' (first
        | ((with_reducible apply Sat.run (X := X64)); exact rfl; (first | exact True.intro | (exact phi) | skip))
        | ((with_reducible apply Sat.drawn); kernel_rfl)
        | ((with_reducible apply DSat.run (X := X64)); exact rfl; (first | exact True.intro | (exact phi) | skip))
        | ((with_reducible apply DSat.fin); kernel_rfl) | fail)
    with_reducible apply Sat.cond_pf
    · exact rfl
    · show ¬ (l.length : Int) < (l.length : Int); omega
    repeat' (first
        | ((with_reducible apply Sat.run (X := X64)); exact rfl; (first | exact True.intro | (exact phi) | skip))
        | ((with_reducible apply Sat.drawn); kernel_rfl)
        | ((with_reducible apply DSat.run (X := X64)); exact rfl; (first | exact True.intro | (exact phi) | skip))
        | ((with_reducible apply DSat.fin); kernel_rfl) | fail)
    refine Sat.fin (Sat.end1 rfl rfl rfl True.intro (.all _ _ _ _ _ rfl rfl rfl (by simp [pureL, pureS, pureE])) (by first | exact .inl rfl | exact .inr rfl) (fun _ h => h)) rfl
def rngS (at' : Int) (e : EdL) : RngL := ⟨at' + (e.p.toNat % 9 : Nat), at' + (e.p.toNat % 9 : Nat) + 1 + (e.q.toNat % 9 : Nat)⟩
def ranS (n : Int) : Int → List EdL → List RngL
  | _, [] => []
  | at', e :: l => bif decide (n < (rngS at' e).hi) then [] else rngS at' e :: ranS n ((rngS at' e).hi + 1) l
theorem mod9 (b : UInt8) : (b.toNat : Int).tmod 9 = ((b.toNat % 9 : Nat) : Int) := rfl
theorem ranges_spec (l : List EdL) (n : Int) (hn : 0 ≤ n ∧ n ≤ 1000000) : Fun Tryd.prog [] 23 [.ro (edE l), .int .i64 n] (.ro (rngE (ranS n 0 (l.take 10)))) := by
  refine Fun.mkF 6 Tryd.func23 rfl Tryd.ntmps23 rfl rfl fun hf T w0 => ?_
  obtain ⟨⟨hl, _⟩, _⟩ := hf
  have hl : l.length ≤ 9223372036854775807 := hl
  repeat' (first
      | ((with_reducible apply Sat.run (X := X64)); exact rfl; (first | exact True.intro | (exact phi) | skip))
      | ((with_reducible apply Sat.drawn); kernel_rfl)
      | ((with_reducible apply DSat.run (X := X64)); exact rfl; (first | exact True.intro | (exact phi) | skip))
      | ((with_reducible apply DSat.fin); kernel_rfl) | fail)
  refine Sat.kill [10] rfl ?_
  apply Sat.loop (α := Nat × Int × List RngL) (fun x => x.1 ≤ 10 ∧ x.1 ≤ l.length ∧ 0 ≤ x.2.1 ∧ x.2.1 ≤ n + 1 ∧ x.2.2.length = x.1 ∧ ranS n 0 (l.take 10) = x.2.2 ++ ranS n x.2.1 ((l.take 10).drop x.1)) (fun x => 10 - x.1) (0, 0, []) (fun x => [(5, .row 0 0 2 0 x.2.2.length), (6, .int .i64 x.2.1), (7, .int .i64 (x.1 : Int))]) (fun x => [(0, .row 51 (rngE x.2.2))]) [] [] 0
  · intro x; exact rfl
  · intro x; exact rfl
  · exact rfl
  · exact rfl
  · (repeat' (first | exact AllP.nil | with_reducible refine AllP.cons ?_ ?_)) <;> first | exact rfl | exact trivial | exact ⟨rfl, rfl, rfl, rfl⟩ | exact purX | (intro z hz; exact absurd hz (Nat.not_lt_zero _)) | (trace_state; fail)
  · exact ⟨Nat.zero_le _, Nat.zero_le _, Int.le_refl _, by dsimp only; omega, rfl, rfl⟩
  rintro ⟨i, at', acc⟩ ⟨x0, x1, x2, x3, x4, x5⟩
  dsimp only at x0 x1 x2 x3 x4 x5 ⊢
  by_cases hi : i < l.length ∧ i < 10
  · obtain ⟨hi1, hi2⟩ := hi
    have hcc : (i : Int) < ((edE l).len : Int) := by show (i : Int) < (l.length : Int); omega
    have g1 := mod9 (l.getD ((i : Int).toNat) ed0).p
    have g2 := mod9 (l.getD ((i : Int).toNat) ed0).q
    repeat' (first
        | ((with_reducible apply Sat.run (X := X64)); exact rfl; (first | exact True.intro | (exact phi) | skip))
        | ((with_reducible apply Sat.drawn); kernel_rfl)
        | ((with_reducible apply DSat.run (X := X64)); exact rfl; (first | exact True.intro | (exact phi) | skip))
        | ((with_reducible apply DSat.fin); kernel_rfl) | fail)
    with_reducible apply Sat.cond
    · exact rfl
    · intro h
      clear h
      repeat' (first
          | ((with_reducible apply Sat.run (X := X64)); exact rfl; (first | exact True.intro | (exact phi) | skip))
          | ((with_reducible apply Sat.drawn); kernel_rfl)
          | ((with_reducible apply DSat.run (X := X64)); exact rfl; (first | exact True.intro | (exact phi) | skip))
          | ((with_reducible apply DSat.fin); kernel_rfl)
          | ((with_reducible apply Sat.cond_t); exact rfl)
          | ((with_reducible apply Sat.cond_f); exact rfl)
          | ((with_reducible apply Sat.cond_pt); exact rfl; (try dsimp only [V.EV.sub, V.EV.len]); first | assumption | omega)
          | ((with_reducible apply Sat.cond_pf); exact rfl; (try dsimp only [V.EV.sub, V.EV.len]); first | assumption | omega)
          | ((with_reducible apply Sat.cond_p); exact rfl; all_goals intro h)
          | ((with_reducible apply Sat.cond); exact rfl; all_goals intro h) | fail)
      · have h : decide (n < (rngS at' (l.getD i ed0)).hi) = true := decide_eq_true h
        have hM : ranS n 0 (l.take 10) = acc := by
          rw [x5, drop_step l ed0 10 i hi2 hi1, ranS, h]
          exact List.append_nil _
        rw [hM]
        refine Sat.fin (Sat.end1 rfl rfl rfl True.intro (.all _ _ _ _ _ rfl rfl rfl (by intro _ _; simp [pureL, pureS, pureE])) (by first | exact .inl rfl | exact .inr rfl) (fun _ h => h)) rfl
      · have h : decide (n < (rngS at' (l.getD i ed0)).hi) = false := decide_eq_false h
        have h2 := of_decide_eq_false h
        have h3 : at' + 1 ≤ (rngS at' (l.getD i ed0)).hi := by unfold rngS; dsimp only; omega
        refine Sat.back (i + 1, (rngS at' (l.getD i ed0)).hi + 1, acc ++ [rngS at' (l.getD i ed0)]) [(0, some 2)] rfl ?_ ?_ ?_
        · (repeat' (first | exact AllP.nil | with_reducible refine AllP.cons ?_ ?_)) <;> first | with_reducible exact rfl | exact Int.natCast_add_one _ | exact rfl | exact trivial | exact ⟨rfl, rfl, rfl, by simp [EV.len, EV.sub]⟩ | (show acc.length + 1 = (acc ++ [rngS at' (l.getD i ed0)]).length; simp; done) | (intro z hz; exact row_snoc2 (fun x : RngL => [.int .i64 x.lo, .int .i64 x.hi]) acc (rngS at' (l.getD i ed0)) rng0 z hz) | exact purX | (intro _ _; exact rfl) | (intro _ _; dsimp only; split <;> first | (simp [pureL, pureS, pureE]; done) | exact pure_nth1 _ (by simp [pureL, pureS, pureE]) _) | (intro _ _; exact pure_nth1 _ (by simp [pureL, pureS, pureE]) _)
        · refine ⟨by dsimp only; omega, by dsimp only; omega, by dsimp only; omega, by dsimp only; omega, by simp only [List.length_append, List.length_cons, List.length_nil]; omega, ?_⟩
          dsimp only
          rw [x5, drop_step l ed0 10 i hi2 hi1]
          conv => lhs; rw [ranS]
          rw [h]
          simp only [cond_false, List.append_assoc, List.cons_append, List.nil_append]
        · dsimp only; omega
    · intro h
      exfalso
      have hq : decide ((i : Int) < ((edE l).len : Int)) = true := decide_eq_true hcc
      have hq2 : decide ((i : Int) < 10) = true := decide_eq_true (by omega)
      rw [hq, hq2] at h
      cases h
  · have hd : (l.take 10).drop i = [] := drop_end l 10 i (by omega)
    have hM : ranS n 0 (l.take 10) = acc := by
      rw [x5, hd, ranS]
      exact List.append_nil _
    rw [hM]
    repeat' (first
        | ((with_reducible apply Sat.run (X := X64)); exact rfl; (first | exact True.intro | (exact phi) | skip))
        | ((with_reducible apply Sat.drawn); kernel_rfl)
        | ((with_reducible apply DSat.run (X := X64)); exact rfl; (first | exact True.intro | (exact phi) | skip))
        | ((with_reducible apply DSat.fin); kernel_rfl) | fail)
    with_reducible apply Sat.cond
    · exact rfl
    · intro h
      exfalso
      rcases (by omega : 10 ≤ i ∨ l.length ≤ i) with he | he
      · rw [decide_eq_false (show ¬ (i : Int) < 10 by omega)] at h
        revert h
        cases decide ((i : Int) < ((edE l).len : Int)) <;> exact fun h => (by cases h)
      · rw [decide_eq_false (show ¬ (i : Int) < ((edE l).len : Int) by show ¬ (i : Int) < (l.length : Int); omega)] at h
        cases h
    intro h
    clear h
    repeat' (first
        | ((with_reducible apply Sat.run (X := X64)); exact rfl; (first | exact True.intro | (exact phi) | skip))
        | ((with_reducible apply Sat.drawn); kernel_rfl)
        | ((with_reducible apply DSat.run (X := X64)); exact rfl; (first | exact True.intro | (exact phi) | skip))
        | ((with_reducible apply DSat.fin); kernel_rfl) | fail)
    refine Sat.fin (Sat.end1 rfl rfl rfl True.intro (.all _ _ _ _ _ rfl rfl rfl (by intro _ _; simp [pureL, pureS, pureE])) (by first | exact .inl rfl | exact .inr rfl) (fun _ h => h)) rfl
end Go.Proofs.YtmmpflifajjbjaaDoor
end
section
namespace Go.Proofs.YtmmpflifajjbjaaDoor.V
open Go.RowKit
theorem splice_get {α : Type} (A B : List α) (s i : Nat) (hs : s + B.length ≤ A.length) : (A.take s ++ B ++ A.drop (s + B.length))[i]? = if i < s then A[i]? else if i < s + B.length then B[i - s]? else A[i]? := by
  by_cases h1 : i < s
  · rw [if_pos h1, List.append_assoc, List.getElem?_append_left (by rw [List.length_take]; omega), List.getElem?_take_of_lt h1]
  · rw [if_neg h1]
    by_cases h2 : i < s + B.length
    · rw [if_pos h2, List.getElem?_append_left (by rw [List.length_append, List.length_take]; omega), List.getElem?_append_right (by rw [List.length_take]; omega), List.length_take, Nat.min_eq_left (by omega)]
    · rw [if_neg h2, List.getElem?_append_right (by rw [List.length_append, List.length_take]; omega), List.getElem?_drop, List.length_append, List.length_take, Nat.min_eq_left (by omega)]
      congr 1
      omega
theorem run_equalIn_sl {P : Program} {t el : TypeId} (hu : P.underlying t = some (.slice el)) (d : Nat) (w : World) (q : Option Addr) (n c : Nat) : (Op.equalIn (d + 1) t (.slice q n c) (.slice none 0 0)).run P w = .ok q.isNone w := by
  unfold Op.equalIn
  simp only [Sem.run_bind, run_underlying hu, Result.andThen_ok]
  rcases q with _ | q <;> rfl
section
variable {C : Ctx} {Q0 : Exit → Act → World → Prop} {F F' F1 F2 : Tr} {M M' : Mem} {ids : List Nat} {k : List Kont} {full rest : List Oper}
theorem Sat.nilR {d : Option Tmp} {x : Operand} {t t' : TypeId} {type : TypeId} {pos : String} {after : Array Edge} {e : EV} {el : TypeId}
    (hu : C.P.underlying t = some (.slice el)) (hx : opd C.Γ F x = some (.ro e)) (hp1 : putD C.N F d (some (.bool true)) some = some F1) (hp2 : putD C.N F d (some (.bool false)) some = some F2)
    (h1 : e.len = 0 → Sat C Q0 (.reg full rest F1 M ids k)) (h2 : Sat C Q0 (.reg full rest F2 M ids k)) :
    Sat C Q0 (.reg full (⟨d, .binOp .eql t x (.const (.slice none 0 0)) t', type, pos, after, none⟩ :: rest) F M ids k) := by
  intro U E a w hsup hst
  obtain ⟨G1, e1, e2⟩ := putD_inv hp1
  cases e1
  obtain ⟨G2, e3, e4⟩ := putD_inv hp2
  cases e3
  refine wpList_plain rfl fun K hK => ?_
  unfold Oper.wp
  have hr := opd_rep hst.vw hx
  generalize hv : a.eval x = v at hr
  have run : ∀ b : Bool, ((∀ w' : World, (Op.equal t v (.slice none 0 0)).run C.P w' = .ok b w') ∧ (∀ w' : World, (eqGuard .eql t x (.const (.slice none 0 0)) v (.slice none 0 0)).run C.P w' = .ok () w') ∧ ∀ w' : World, (binOp .eql t v (.slice none 0 0)).run C.P w' = ((do pure (.bool (← Op.equal t v (.slice none 0 0))) : Sem Value)).run C.P w') → (execOp a.eval ⟨d, .binOp .eql t x (.const (.slice none 0 0)) t', type, pos, after, none⟩).run C.P w = .ok (.value (.bool b)) w := fun b ⟨q1, q2, q3⟩ => by
    have hc : a.eval (.const (.slice none 0 0)) = .slice none 0 0 := rfl
    unfold execOp
    simp only [hv, hc, Sem.run_bind, q2, Result.andThen_ok, q3, q1, Sem.run_pure]
  have eqn : ∀ (p : Option Addr) (n c : Nat), v = .slice p n c → ((∀ w' : World, (Op.equal t v (.slice none 0 0)).run C.P w' = .ok p.isNone w') ∧ (∀ w' : World, (eqGuard .eql t x (.const (.slice none 0 0)) v (.slice none 0 0)).run C.P w' = .ok () w') ∧ ∀ w' : World, (binOp .eql t v (.slice none 0 0)).run C.P w' = ((do pure (.bool (← Op.equal t v (.slice none 0 0))) : Sem Value)).run C.P w') := fun p n c hvv => by
    rw [hvv]
    refine ⟨fun w' => ?_, fun w' => ?_, fun w' => rfl⟩
    · exact run_equalIn_sl hu _ _ _ _ _
    · unfold eqGuard
      split <;> rfl
  cases hr with
  | ro0 _ h0 =>
    rw [run true (eqn none 0 0 rfl)]
    exact hK _ _ (h1 h0 U E _ _ hsup (hst.putD e2 fun s' hs' => by cases hs'; exact .bool _))
  | ro1 _ ad h0 =>
    rw [run false (eqn (some ad) 0 0 rfl)]
    exact hK _ _ (h2 U E _ _ hsup (hst.putD e4 fun s' hs' => by cases hs'; exact .bool _))
  | ro _ b o n c cc hT hn hc hr he hl ok hb =>
    rw [run false (eqn (some ⟨b, o, none⟩) n c rfl)]
    exact hK _ _ (h2 U E _ _ hsup (hst.putD e4 fun s' hs' => by cases hs'; exact .bool _))
theorem splice_u8 (old m : List UInt8) (s n : Nat) (h : s + n ≤ old.length) (hm : n ≤ m.length) : (old.take s ++ m.take n ++ old.drop (s + n)).length = old.length := by
  simp only [List.length_append, List.length_take, List.length_drop]
  omega
variable {i s n : Nat} {ta tb elem t : TypeId} {old m : List UInt8}
theorem copyP_core {U : Nat → Prop} {E : Env} {a : Act} {w : World} (hst : St C F M U E a w) {o : Oper} {x y : Operand} (ho : o.op = .call ⟨.builtin .copy, ⟨[x, y]⟩, ⟨[ta, tb]⟩⟩) (hu : C.P.underlying ta = some (.slice elem)) (hsz : sizeF C.P elem = some 1)
    (hx : opd C.Γ F x = some (.row i 0 1 s n)) (hy : opd C.Γ F y = some (.ro (.u8 m))) (hn : 0 < n) (hf : find M i = some (.row t (.u8 old))) (ho2 : s + n ≤ old.length) (hm : n ≤ m.length) (hM : upd M i (.row t (.u8 (old.take s ++ m.take n ++ old.drop (s + n)))) = some M') :
    ∃ w', (execOp a.eval o).run C.P w = .ok (.value (.int .i64 (n : Int))) w' ∧ St C F M' U E a w' := by
  have hrx := opd_rep hst.vw hx
  have hry := opd_rep hst.vw hy
  have hs1 := sizeF_size hsz
  generalize hvx : a.eval x = vx at hrx
  cases hrx with
  | row0 _ _ _ _ _ hE h0 => omega
  | row _ _ _ _ _ b o' c n' t' hE hs hoff hl ok =>
  have hc0 : c ≠ 0 := by omega
  obtain ⟨ho1, _⟩ := hoff hc0
  simp only [Nat.zero_add, Nat.mul_one] at ho1
  have ho1 := ho1.symm
  subst ho1
  obtain ⟨hlt, cs, cc, hh, hlen, hcl, hcc, hci⟩ := hst.mem.at hf hE
  simp only [EV.len, EV.sz, Nat.mul_one] at hlen hcl hcc hci
  have hat : ∀ j, j < old.length → cs[j]? = some (.int .u8 ((old.getD j 0).toNat : Int)) := fun j hj => by
    have hI := hci j hj
    have hq := hcc j 0
    simp only [EV.items] at hI
    generalize cc j = cj at hI hq
    cases hI with
    | one _ cv _ _ p0 pr pI =>
      cases pr
      exact hq _ hj rfl
  have hmt : (m.take n).length = n := by rw [List.length_take]; omega
  generalize hvy : a.eval y = vy at hry
  cases hry with
  | ro0 _ h0 => simp only [EV.len] at h0; omega
  | ro1 _ _ h0 => simp only [EV.len] at h0; omega
  | ro _ bb oo n2 k2 c2 hT2 hn2 hc2 hr2 he2 hl2 ok2 hb2 =>
  simp only [EV.len, EV.sz, Nat.mul_one] at he2 hn2 hc2 hr2
  subst he2
  have hsrc : ∀ j v, (bytesC (m.take n))[j]? = some v → w.cell? ((⟨bb, oo, none⟩ : Addr).add j) = some v := fun j v hv => by
    rcases Nat.lt_or_ge j n with hj | hj
    · rw [bytesC_at (m.take n) j (by omega)] at hv
      cases hv
      have hg : (m.take n).getD j 0 = m.getD j 0 := by
        rw [List.getD_eq_getElem?_getD, List.getD_eq_getElem?_getD, List.getElem?_take_of_lt hj]
      rw [hg]
      have hI2 := hr2 j (by omega)
      have hcj := hc2 j 0
      simp only [EV.items] at hI2
      generalize c2 j = cj at hI2 hcj
      cases hI2 with
      | one _ cv _ _ p0 pr pI =>
        cases pr
        rw [Lib.addr_add]
        exact hcj _ (by omega) rfl
    · rw [List.getElem?_eq_none (by rw [bytesC_len, hmt]; exact hj)] at hv
      cases hv
  have hrun : (execOp a.eval o).run C.P w = .ok (.value (.int .i64 (n : Int))) (w.setRow b (cs.take s ++ bytesC (m.take n) ++ cs.drop (s + (bytesC (m.take n)).length)).toArray) := by
    refine exec_copy ho ?_
    rw [hvx, hvy]
    have := run_copy_row (P := C.P) w ta tb o.type elem b s n c ⟨bb, oo, none⟩ m.length k2 cs.toArray t (bytesC (m.take n)) hu hs1 hh (by rw [bytesC_len, hmt]; exact (Nat.min_eq_right hm).symm) hsrc (by rw [bytesC_len, hmt]; simp; omega) (bytesC_one _)
    rw [this]
    simp [goInt, bytesC_len, hmt]
  refine ⟨_, hrun, hst.upd_ hM hf hE hh ?_ ⟨_, fun j => [.int .u8 (((old.take s ++ m.take n ++ old.drop (s + n)).getD j 0).toNat : Int)], setRow_heap w b cs.toArray _ t (0, 0) hh, ?_, fun j _ => rfl, fun j jj v hj hv => ?_, fun j hj => .one _ _ _ _ rfl (.int _ _ (inR_byte _)) .nil⟩⟩
  · simp only [List.length_append, List.length_take, List.length_drop, bytesC_len]
    omega
  · simp only [EV.len, EV.sz, Nat.mul_one, List.length_append, List.length_take, List.length_drop, bytesC_len]
    omega
  · match jj, hv with
    | 0, hv =>
      simp only [List.getElem?_cons_zero, Option.some.injEq] at hv
      subst hv
      simp only [EV.len] at hj
      rw [splice_u8 old m s n ho2 hm] at hj
      have hnew := splice_get old (m.take n) s j (by rw [hmt]; exact ho2)
      rw [hmt] at hnew
      simp only [EV.sz, Nat.mul_one, Nat.add_zero]
      rw [splice_get cs (bytesC (m.take n)) s j (by rw [bytesC_len, hmt]; omega), bytesC_len, hmt, List.getD_eq_getElem?_getD, hnew]
      by_cases h1 : j < s
      · rw [if_pos h1, if_pos h1, hat j hj, List.getD_eq_getElem?_getD]
      · rw [if_neg h1, if_neg h1]
        by_cases h2 : j < s + n
        · rw [if_pos h2, if_pos h2, bytesC_at _ _ (by omega), List.getD_eq_getElem?_getD]
        · rw [if_neg h2, if_neg h2, hat j hj, List.getD_eq_getElem?_getD]
    | jj + 1, hv => simp at hv
theorem Sat.copyP {d : Option Tmp} {x y : Operand} {type : TypeId} {pos : String} {after : Array Edge}
    (hu : C.P.underlying ta = some (.slice elem)) (hsz : sizeF C.P elem = some 1) (hx : opd C.Γ F x = some (.row i 0 1 s n)) (hy : opd C.Γ F y = some (.ro (.u8 m))) (hf : find M i = some (.row t (.u8 old)))
    (hM : upd M i (.row t (.u8 (old.take s ++ m.take n ++ old.drop (s + n)))) = some M') (hp : putD C.N F d (some (.int .i64 (n : Int))) some = some F')
    (hn : 0 < n) (ho2 : s + n ≤ old.length) (hm : n ≤ m.length) (h : Sat C Q0 (.reg full rest F' M' ids k)) :
    Sat C Q0 (.reg full (⟨d, .call ⟨.builtin .copy, ⟨[x, y]⟩, ⟨[ta, tb]⟩⟩, type, pos, after, none⟩ :: rest) F M ids k) := by
  intro U E a w hsup hst
  obtain ⟨F1, h1, h2⟩ := putD_inv hp
  cases h1
  refine wpList_plain rfl fun K hK => ?_
  unfold Oper.wp
  obtain ⟨w', q1, q2⟩ := copyP_core hst (o := ⟨d, .call ⟨.builtin .copy, ⟨[x, y]⟩, ⟨[ta, tb]⟩⟩, type, pos, after, none⟩) rfl hu hsz hx hy hn hf ho2 hm hM
  rw [q1]
  have hlen : okLen m.length := by
    have hr := opd_rep hst.vw hy
    generalize a.eval y = vy at hr
    cases hr with
    | ro0 _ h0 => simp only [EV.len] at h0; rw [h0]; unfold okLen; omega
    | ro1 _ _ h0 => simp only [EV.len] at h0; rw [h0]; unfold okLen; omega
    | ro _ _ _ _ _ _ _ _ _ _ he hl ok _ => simp only [EV.len] at he; rw [← he]; unfold okLen at ok ⊢; omega
  unfold okLen at hlen
  exact hK _ _ (h U E _ w' hsup (q2.putD h2 fun s' hs' => by cases hs'; exact .int _ _ (inR_i64 (by omega) (by omega))))
end
end Go.Proofs.YtmmpflifajjbjaaDoor.V
end
section
namespace Go.Proofs.YtmmpflifajjbjaaDoor
open Go.RowKit V
--PURE: (intro _ _; simp [pureL, pureS, pureE]; done)
set_option maxRecDepth 100000
set_option maxHeartbeats 4000000
set_option linter.unusedSimpArgs false
def badR (n last : Int) (r : RngL) (k : Nat) : Bool := bif (bif (bif decide (r.lo ≤ last) then true else decide (r.hi - r.lo ≤ 0)) then true else decide (n < r.hi)) then true else decide ((k : Int) < r.hi - r.lo)
theorem badR_f {n last : Int} {r : RngL} {k : Nat} (h : badR n last r k = false) : last < r.lo ∧ 0 < r.hi - r.lo ∧ r.hi ≤ n ∧ r.hi - r.lo ≤ k := by
  unfold badR at h
  cases h1 : decide (r.lo ≤ last) <;> cases h2 : decide (r.hi - r.lo ≤ 0) <;> cases h3 : decide (n < r.hi) <;> cases h4 : decide ((k : Int) < r.hi - r.lo) <;> rw [h1, h2, h3, h4] at h <;> first | (cases h; done) | skip
  have h1 := of_decide_eq_false h1
  have h2 := of_decide_eq_false h2
  have h3 := of_decide_eq_false h3
  have h4 := of_decide_eq_false h4
  omega
def sprS (n : Int) : Int → List UInt8 → List RngL → List UInt8 → Option (List UInt8)
  | _, out, [], d => bif decide (d.length = 0) then some out else none
  | last, out, r :: l, d => bif badR n last r d.length then none else sprS n r.hi (out.take r.lo.toNat ++ d.take (r.hi - r.lo).toNat ++ out.drop (r.lo.toNat + (r.hi - r.lo).toNat)) l (d.drop (r.hi - r.lo).toNat)
def sprV (o : Option (List UInt8)) : SV := .tup [.ro (.u8 (o.getD [])), .int .i64 (bif o.isSome then 0 else 1)]
def Hid (p : Prop) : Prop := p
attribute [local irreducible] V.Sat V.DSat
theorem spread_spec (a : List UInt8) (ha : a.length ≤ 1000000) (l : List RngL) (d : List UInt8) (hr : ∀ i, i < l.length → -1000000 ≤ (l.getD i rng0).lo ∧ (l.getD i rng0).lo ≤ 1000000 ∧ -1000000 ≤ (l.getD i rng0).hi ∧ (l.getD i rng0).hi ≤ 1000000) :
    Fun Tryd.prog [] 21 [.ro (.u8 a), .ro (rngE l), .ro (.u8 d)] (sprV (sprS a.length (-1) a l d)) := by
  refine Fun.mkF 7 Tryd.func21 rfl Tryd.ntmps21 rfl rfl fun hf T w0 => ?_
  obtain ⟨_, ⟨hl, _⟩, ⟨hl2, _⟩, _⟩ := hf
  have hl : l.length ≤ 9223372036854775807 := hl
  have hl2 : d.length ≤ 9223372036854775807 := hl2
  have hq : (0 + (EV.u8 a).len) * (0 + 1) ≤ 140737488355328 := by show (0 + a.length) * (0 + 1) ≤ 140737488355328; omega
  repeat' (first
      | ((with_reducible apply Sat.run (X := X64)); exact rfl; (first | exact True.intro | (exact phi) | skip))
      | ((with_reducible apply Sat.drawn); kernel_rfl)
      | ((with_reducible apply DSat.run (X := X64)); exact rfl; (first | exact True.intro | (exact phi) | skip))
      | ((with_reducible apply DSat.fin); kernel_rfl)
      | ((with_reducible apply Sat.cond_t); exact rfl)
      | ((with_reducible apply Sat.cond_f); exact rfl)
      | ((with_reducible apply Sat.cond_pt); exact rfl; (try dsimp only [V.EV.sub, V.EV.len]); first | assumption | omega)
      | ((with_reducible apply Sat.cond_pf); exact rfl; (try dsimp only [V.EV.sub, V.EV.len]); first | assumption | omega)
      | ((with_reducible apply Sat.cond_p); exact rfl; all_goals intro h)
      | ((with_reducible apply Sat.cond); exact rfl; all_goals intro h)
      | ((with_reducible apply Sat.inl 7 [] Tryd.func41 Tryd.ntmps41); exact rfl; exact rfl; kernel_rfl; exact rfl; exact rfl; exact rfl; exact rfl; ((repeat' (first | exact AllP.nil | with_reducible refine AllP.cons ?_ ?_)) <;> (first | exact True.intro | exact purX)); intro _ _)
      | ((with_reducible apply Sat.out1 (C := ⟨_, _, _, _, _, _, _, _, _⟩)); exact rfl; (first | exact .inl rfl | exact .inr rfl); exact rfl; (exact phi); exact rfl)
      | ((with_reducible apply Sat.out0 (C := ⟨_, _, _, _, _, _, _, _, _⟩)); exact rfl; (first | exact .inl rfl | exact .inr rfl); exact rfl)
      | ((with_reducible apply Sat.out2 (C := ⟨_, _, _, _, _, _, _, _, _⟩)); exact rfl; (first | exact .inl rfl | exact .inr rfl); exact rfl; (exact phi); exact rfl; (exact phi); exact rfl)
      | ((with_reducible apply Sat.nilR); exact rfl; exact rfl; exact rfl; exact rfl) | fail)
  · intro h0
    have ha0 : a = [] := List.eq_nil_of_length_eq_zero h0
    repeat' (first
        | ((with_reducible apply Sat.run (X := X64)); exact rfl; (first | exact True.intro | (exact phi) | skip))
        | ((with_reducible apply Sat.drawn); kernel_rfl)
        | ((with_reducible apply DSat.run (X := X64)); exact rfl; (first | exact True.intro | (exact phi) | skip))
        | ((with_reducible apply DSat.fin); kernel_rfl)
        | ((with_reducible apply Sat.cond_t); exact rfl)
        | ((with_reducible apply Sat.cond_f); exact rfl)
        | ((with_reducible apply Sat.cond_pt); exact rfl; (try dsimp only [V.EV.sub, V.EV.len]); first | assumption | omega)
        | ((with_reducible apply Sat.cond_pf); exact rfl; (try dsimp only [V.EV.sub, V.EV.len]); first | assumption | omega)
        | ((with_reducible apply Sat.cond_p); exact rfl; all_goals intro h)
        | ((with_reducible apply Sat.cond); exact rfl; all_goals intro h)
        | ((with_reducible apply Sat.out1 (C := ⟨_, _, _, _, _, _, _, _, _⟩)); exact rfl; (first | exact .inl rfl | exact .inr rfl); exact rfl; (exact phi); exact rfl)
        | ((with_reducible apply Sat.out0 (C := ⟨_, _, _, _, _, _, _, _, _⟩)); exact rfl; (first | exact .inl rfl | exact .inr rfl); exact rfl)
        | ((with_reducible apply Sat.out2 (C := ⟨_, _, _, _, _, _, _, _, _⟩)); exact rfl; (first | exact .inl rfl | exact .inr rfl); exact rfl; (exact phi); exact rfl; (exact phi); exact rfl) | fail)
    apply Sat.loop (α := Unit) (fun _ => True) (fun _ => 0) () (fun _ => [(2, .ro (.u8 d)), (9, .int .i64 (-1)), (17, .int .i64 0)]) (fun _ => []) [] [] 0
    · intro x; exact rfl
    · intro x; exact rfl
    · exact rfl
    · exact rfl
    · (repeat' (first | exact AllP.nil | with_reducible refine AllP.cons ?_ ?_)) <;> first | exact rfl | exact trivial | exact ⟨rfl, rfl, rfl, rfl⟩ | exact purX
    · trivial
    rintro _ _
    by_cases hx : 0 < l.length
    · have hcc : (0 : Int) < ((rngE l).len : Int) := by show (0 : Int) < (l.length : Int); omega
      have q3 : -1000000 ≤ (l.getD ((0 : Int).toNat) rng0).lo ∧ (l.getD ((0 : Int).toNat) rng0).lo ≤ 1000000 ∧ -1000000 ≤ (l.getD ((0 : Int).toNat) rng0).hi ∧ (l.getD ((0 : Int).toNat) rng0).hi ≤ 1000000 := hr 0 hx
      have hal : ((EV.u8 a).len : Int) = 0 := by rw [h0]; rfl
      repeat' (first
          | ((with_reducible apply Sat.run (X := X64)); exact rfl; (first | exact True.intro | (exact phi) | skip))
          | ((with_reducible apply Sat.drawn); kernel_rfl)
          | ((with_reducible apply DSat.run (X := X64)); exact rfl; (first | exact True.intro | (exact phi) | skip))
          | ((with_reducible apply DSat.fin); kernel_rfl)
          | ((with_reducible apply Sat.cond_t); exact rfl)
          | ((with_reducible apply Sat.cond_f); exact rfl)
          | ((with_reducible apply Sat.cond_pt); exact rfl; (try dsimp only [V.EV.sub, V.EV.len]); first | assumption | omega)
          | ((with_reducible apply Sat.cond_pf); exact rfl; (try dsimp only [V.EV.sub, V.EV.len]); first | assumption | omega)
          | ((with_reducible apply Sat.cond_p); exact rfl; all_goals intro h)
          | ((with_reducible apply Sat.cond); exact rfl; all_goals intro h) | fail)
      · have h : badR a.length (-1) (l.getD 0 rng0) d.length = true := h
        have hd : l = l.getD 0 rng0 :: l.drop 1 := by
          have := List.drop_eq_getElem_cons hx
          rw [List.drop_zero] at this
          rw [List.getD_eq_getElem?_getD, List.getElem?_eq_getElem hx]
          exact this
        have hR : sprS a.length (-1) a l d = none := (congrArg (fun z => sprS a.length (-1) a z d) hd).trans (by
          show sprS a.length (-1) a (l.getD 0 rng0 :: l.drop 1) d = none
          rw [sprS, h]; rfl)
        rw [hR]
        refine Sat.fin (Sat.end2 rfl rfl rfl rfl True.intro True.intro (.nils _ rfl) (.refl _ trivial) (by first | exact .inl rfl | exact .inr rfl) (fun _ h => h)) rfl
      · exfalso
        obtain ⟨b1, b2, b3, b4⟩ := badR_f (show badR a.length (-1) (l.getD 0 rng0) d.length = false from h)
        have hal2 : (a.length : Int) = 0 := hal
        omega
    · have hl0 : l = [] := List.eq_nil_of_length_eq_zero (by omega)
      repeat' (first
          | ((with_reducible apply Sat.run (X := X64)); exact rfl; (first | exact True.intro | (exact phi) | skip))
          | ((with_reducible apply Sat.drawn); kernel_rfl)
          | ((with_reducible apply DSat.run (X := X64)); exact rfl; (first | exact True.intro | (exact phi) | skip))
          | ((with_reducible apply DSat.fin); kernel_rfl) | fail)
      with_reducible apply Sat.cond_pf
      · exact rfl
      · show ¬ (0 : Int) < (l.length : Int); omega
      repeat' (first
          | ((with_reducible apply Sat.run (X := X64)); exact rfl; (first | exact True.intro | (exact phi) | skip))
          | ((with_reducible apply Sat.drawn); kernel_rfl)
          | ((with_reducible apply DSat.run (X := X64)); exact rfl; (first | exact True.intro | (exact phi) | skip))
          | ((with_reducible apply DSat.fin); kernel_rfl)
          | ((with_reducible apply Sat.cond_t); exact rfl)
          | ((with_reducible apply Sat.cond_f); exact rfl)
          | ((with_reducible apply Sat.cond_pt); exact rfl; (try dsimp only [V.EV.sub, V.EV.len]); first | assumption | omega)
          | ((with_reducible apply Sat.cond_pf); exact rfl; (try dsimp only [V.EV.sub, V.EV.len]); first | assumption | omega)
          | ((with_reducible apply Sat.cond_p); exact rfl; all_goals intro h)
          | ((with_reducible apply Sat.cond); exact rfl; all_goals intro h) | fail)
      · have h : 0 < (d.length : Int) := h
        have hR : sprS a.length (-1) a l d = none := by rw [hl0, sprS, decide_eq_false (by omega)]; rfl
        rw [hR]
        refine Sat.fin (Sat.end2 rfl rfl rfl rfl True.intro True.intro (.nils _ rfl) (.refl _ trivial) (by first | exact .inl rfl | exact .inr rfl) (fun _ h => h)) rfl
      · have h : ¬ 0 < (d.length : Int) := h
        have hR : sprS a.length (-1) a l d = some a := by rw [hl0, sprS, decide_eq_true (by omega)]; rfl
        rw [hR]
        refine Sat.fin (Sat.end2 rfl rfl rfl rfl True.intro True.intro (.nils _ h0) (.refl _ trivial) (by first | exact .inl rfl | exact .inr rfl) (fun _ h => h)) rfl
  apply Sat.loop (α := Nat × Int × List UInt8 × List UInt8) (fun x => x.1 ≤ l.length ∧ -1 ≤ x.2.1 ∧ x.2.1 ≤ a.length ∧ x.2.2.1.length = a.length ∧ x.2.2.2.length ≤ 9223372036854775807 ∧ Hid (sprS a.length (-1) a l d = sprS a.length x.2.1 x.2.2.1 (l.drop x.1) x.2.2.2)) (fun x => l.length - x.1) (0, -1, a, d) (fun x => [(2, .ro (.u8 x.2.2.2)), (9, .int .i64 x.2.1), (17, .int .i64 (x.1 : Int))]) (fun x => [(1, .row 5 (.u8 x.2.2.1))]) [] [] 0
  · intro x; exact rfl
  · intro x; exact rfl
  · exact rfl
  · exact rfl
  · (repeat' (first | exact AllP.nil | with_reducible refine AllP.cons ?_ ?_)) <;> first | exact rfl | exact trivial | exact ⟨rfl, rfl, rfl, rfl⟩ | exact purX
  · exact ⟨Nat.zero_le _, by dsimp only; omega, by dsimp only; omega, rfl, hl2, rfl⟩
  rintro ⟨x, last, out, dd⟩ ⟨x0, x1, x2, x3, x4, x5⟩
  dsimp only at x0 x1 x2 x3 x4 x5 ⊢
  by_cases hx : x < l.length
  · have hcc : (x : Int) < ((rngE l).len : Int) := by show (x : Int) < (l.length : Int); omega
    have q3 : -1000000 ≤ (l.getD ((x : Int).toNat) rng0).lo ∧ (l.getD ((x : Int).toNat) rng0).lo ≤ 1000000 ∧ -1000000 ≤ (l.getD ((x : Int).toNat) rng0).hi ∧ (l.getD ((x : Int).toNat) rng0).hi ≤ 1000000 := hr x hx
    have hd : Hid (l.drop x = l.getD x rng0 :: l.drop (x + 1)) := by
      show l.drop x = _
      rw [List.drop_eq_getElem_cons hx, List.getD_eq_getElem?_getD, List.getElem?_eq_getElem hx]
      rfl
    repeat' (first
        | ((with_reducible apply Sat.run (X := X64)); exact rfl; (first | exact True.intro | (exact phi) | skip))
        | ((with_reducible apply Sat.drawn); kernel_rfl)
        | ((with_reducible apply DSat.run (X := X64)); exact rfl; (first | exact True.intro | (exact phi) | skip))
        | ((with_reducible apply DSat.fin); kernel_rfl)
        | ((with_reducible apply Sat.cond_t); exact rfl)
        | ((with_reducible apply Sat.cond_f); exact rfl)
        | ((with_reducible apply Sat.cond_pt); exact rfl; (try dsimp only [V.EV.sub, V.EV.len]); first | assumption | omega)
        | ((with_reducible apply Sat.cond_pf); exact rfl; (try dsimp only [V.EV.sub, V.EV.len]); first | assumption | omega)
        | ((with_reducible apply Sat.cond_p); exact rfl; all_goals intro h)
        | ((with_reducible apply Sat.cond); exact rfl; all_goals intro h) | fail)
    · have h : badR a.length last (l.getD x rng0) dd.length = true := h
      have x5 : sprS a.length (-1) a l d = sprS a.length last out (l.drop x) dd := x5
      have hd : l.drop x = l.getD x rng0 :: l.drop (x + 1) := hd
      have hR : sprS a.length (-1) a l d = none := by rw [x5, hd, sprS, h]; rfl
      rw [hR]
      refine Sat.fin (Sat.end2 rfl rfl rfl rfl True.intro True.intro (.nils _ rfl) (.refl _ trivial) (by first | exact .inl rfl | exact .inr rfl) (fun _ h => h)) rfl
    · obtain ⟨b1, b2, b3, b4⟩ := badR_f (show badR a.length last (l.getD ((x : Int).toNat) rng0) dd.length = false from h)
      refine .cons (by omega) (.cons (by omega) (.cons ⟨?_, ?_⟩ .nil))
      · show (l.getD ((x : Int).toNat) rng0).lo.toNat ≤ (l.getD ((x : Int).toNat) rng0).hi.toNat
        omega
      · show (l.getD ((x : Int).toNat) rng0).hi.toNat ≤ 0 + a.length
        omega
    · obtain ⟨b1, b2, b3, b4⟩ := badR_f (show badR a.length last (l.getD ((x : Int).toNat) rng0) dd.length = false from h)
      with_reducible apply Sat.copyP
      · exact rfl
      · exact rfl
      · exact rfl
      · exact rfl
      · exact rfl
      · exact rfl
      · exact rfl
      · show 0 < (l.getD ((x : Int).toNat) rng0).hi.toNat - (l.getD ((x : Int).toNat) rng0).lo.toNat
        omega
      · show 0 + (l.getD ((x : Int).toNat) rng0).lo.toNat + ((l.getD ((x : Int).toNat) rng0).hi.toNat - (l.getD ((x : Int).toNat) rng0).lo.toNat) ≤ out.length
        omega
      · show (l.getD ((x : Int).toNat) rng0).hi.toNat - (l.getD ((x : Int).toNat) rng0).lo.toNat ≤ dd.length
        omega
      repeat' (first
          | ((with_reducible apply Sat.run (X := X64)); exact rfl; (first | exact True.intro | (exact phi) | skip))
          | ((with_reducible apply Sat.drawn); kernel_rfl)
          | ((with_reducible apply DSat.run (X := X64)); exact rfl; (first | exact True.intro | (exact phi) | skip))
          | ((with_reducible apply DSat.fin); kernel_rfl)
          | ((with_reducible apply Sat.cond_t); exact rfl)
          | ((with_reducible apply Sat.cond_f); exact rfl)
          | ((with_reducible apply Sat.cond_pt); exact rfl; (try dsimp only [V.EV.sub, V.EV.len]); first | assumption | omega)
          | ((with_reducible apply Sat.cond_pf); exact rfl; (try dsimp only [V.EV.sub, V.EV.len]); first | assumption | omega)
          | ((with_reducible apply Sat.cond_p); exact rfl; all_goals intro h)
          | ((with_reducible apply Sat.cond); exact rfl; all_goals intro h) | fail)
      have hk : badR a.length last (l.getD x rng0) dd.length = false := h
      have c1 : last < (l.getD x rng0).lo := b1
      have c2 : 0 < (l.getD x rng0).hi - (l.getD x rng0).lo := b2
      have c3 : (l.getD x rng0).hi ≤ a.length := b3
      have c4 : (l.getD x rng0).hi - (l.getD x rng0).lo ≤ dd.length := b4
      have e1 : (l.getD x rng0).hi.toNat - (l.getD x rng0).lo.toNat = ((l.getD x rng0).hi - (l.getD x rng0).lo).toNat := by omega
      have k1 : EV.u8 (List.take (0 + (l.getD x rng0).lo.toNat) out ++ List.take ((l.getD x rng0).hi.toNat - (l.getD x rng0).lo.toNat) dd ++ List.drop (0 + (l.getD x rng0).lo.toNat + ((l.getD x rng0).hi.toNat - (l.getD x rng0).lo.toNat)) out) = EV.u8 (out.take (l.getD x rng0).lo.toNat ++ dd.take ((l.getD x rng0).hi - (l.getD x rng0).lo).toNat ++ out.drop ((l.getD x rng0).lo.toNat + ((l.getD x rng0).hi - (l.getD x rng0).lo).toNat)) := by
        rw [e1, Nat.zero_add]
      have k2 : EV.u8 (List.take (dd.length - ((l.getD x rng0).hi - (l.getD x rng0).lo).toNat) (List.drop ((l.getD x rng0).hi - (l.getD x rng0).lo).toNat dd)) = EV.u8 (dd.drop ((l.getD x rng0).hi - (l.getD x rng0).lo).toNat) := by
        rw [List.take_of_length_le (by rw [List.length_drop]; exact Nat.le_refl _)]
      refine Sat.back (x + 1, (l.getD x rng0).hi, out.take (l.getD x rng0).lo.toNat ++ dd.take ((l.getD x rng0).hi - (l.getD x rng0).lo).toNat ++ out.drop ((l.getD x rng0).lo.toNat + ((l.getD x rng0).hi - (l.getD x rng0).lo).toNat), dd.drop ((l.getD x rng0).hi - (l.getD x rng0).lo).toNat) [] rfl ?_ ?_ ?_
      · (repeat' (first | exact AllP.nil | with_reducible refine AllP.cons ?_ ?_)) <;> first | exact rfl | exact trivial | exact Int.natCast_add_one _ | exact k1 | exact k2 | exact congrArg SV.ro k2 | exact ⟨rfl, rfl, rfl, rfl⟩ | exact purX
      · refine ⟨hx, by dsimp only; omega, c3, ?_, by dsimp only; rw [List.length_drop]; omega, ?_⟩
        · show (out.take (l.getD x rng0).lo.toNat ++ dd.take ((l.getD x rng0).hi - (l.getD x rng0).lo).toNat ++ out.drop ((l.getD x rng0).lo.toNat + ((l.getD x rng0).hi - (l.getD x rng0).lo).toNat)).length = a.length
          rw [splice_u8 _ _ _ _ (by omega) (by omega), x3]
        · show sprS a.length (-1) a l d = _
          have x5 : sprS a.length (-1) a l d = sprS a.length last out (l.drop x) dd := x5
          have hd : l.drop x = l.getD x rng0 :: l.drop (x + 1) := hd
          rw [x5, hd, sprS, hk]
          rfl
      · dsimp only; omega
  · obtain rfl : x = l.length := by omega
    repeat' (first
        | ((with_reducible apply Sat.run (X := X64)); exact rfl; (first | exact True.intro | (exact phi) | skip))
        | ((with_reducible apply Sat.drawn); kernel_rfl)
        | ((with_reducible apply DSat.run (X := X64)); exact rfl; (first | exact True.intro | (exact phi) | skip))
        | ((with_reducible apply DSat.fin); kernel_rfl) | fail)
    with_reducible apply Sat.cond_pf
    · exact rfl
    · show ¬ (l.length : Int) < (l.length : Int); omega
    have x5 : sprS a.length (-1) a l d = sprS a.length last out (l.drop l.length) dd := x5
    rw [List.drop_length, sprS] at x5
    repeat' (first
        | ((with_reducible apply Sat.run (X := X64)); exact rfl; (first | exact True.intro | (exact phi) | skip))
        | ((with_reducible apply Sat.drawn); kernel_rfl)
        | ((with_reducible apply DSat.run (X := X64)); exact rfl; (first | exact True.intro | (exact phi) | skip))
        | ((with_reducible apply DSat.fin); kernel_rfl)
        | ((with_reducible apply Sat.cond_t); exact rfl)
        | ((with_reducible apply Sat.cond_f); exact rfl)
        | ((with_reducible apply Sat.cond_pt); exact rfl; (try dsimp only [V.EV.sub, V.EV.len]); first | assumption | omega)
        | ((with_reducible apply Sat.cond_pf); exact rfl; (try dsimp only [V.EV.sub, V.EV.len]); first | assumption | omega)
        | ((with_reducible apply Sat.cond_p); exact rfl; all_goals intro h)
        | ((with_reducible apply Sat.cond); exact rfl; all_goals intro h) | fail)
    · have h : 0 < (dd.length : Int) := h
      have hR : sprS a.length (-1) a l d = none := by rw [x5, decide_eq_false (by omega)]; rfl
      rw [hR]
      refine Sat.fin (Sat.end2 rfl rfl rfl rfl True.intro True.intro (.nils _ rfl) (.refl _ trivial) (by first | exact .inl rfl | exact .inr rfl) (fun _ h => h)) rfl
    · have h : ¬ 0 < (dd.length : Int) := h
      have hR : sprS a.length (-1) a l d = some out := by rw [x5, decide_eq_true (by omega)]; rfl
      rw [hR]
      refine Sat.fin (Sat.end2 rfl rfl rfl rfl True.intro True.intro (.all _ _ _ _ _ rfl rfl (by show 0 + a.length = out.length; omega) (by simp [pureL, pureS, pureE])) (.refl _ trivial) (by first | exact .inl rfl | exact .inr rfl) (fun _ h => h)) rfl
end Go.Proofs.YtmmpflifajjbjaaDoor
end
section
namespace Go.Proofs.YtmmpflifajjbjaaDoor
open Go.RowKit Go.Shelf
set_option maxRecDepth 100000
set_option maxHeartbeats 4000000
theorem bld_size : (Tryd.prog.info? 71).map (·.size) = some 2 := by kernel_rfl
theorem bld_lies : liesAt Tryd.prog Tryd.prog.depth 71 (2 / Tryd.prog.cellsOf 71) 0 71 1 = true := by kernel_rfl
theorem check_used (b : Nat) (w : World) (h0 : w.cell? ⟨b, 0, none⟩ = some (.pointer (some ⟨b, 0, none⟩))) :
    Calls Tryd.prog 44 #[.pointer (some ⟨b, 0, none⟩)] w fun e w' => e = .returned (.tuple #[]) ∧ w' = w := by
  obtain ⟨j, hj, _⟩ := Option.map_eq_some_iff.1 bld_size
  have mixed : Tryd.prog.follows .mixedOrders = true := by kernel_rfl
  have t72 := Tryd.underlying71; have a72 := Tryd.isAgg71; have z72 := Tryd.sizeOf71; have v72 := Tryd.zeroValue71; have u72 := run_underlying Tryd.underlying71
  have t70 := Tryd.underlying69; have a70 := Tryd.isAgg69; have z70 := Tryd.sizeOf69; have v70 := Tryd.zeroValue69; have u70 := run_underlying Tryd.underlying69
  have t164 := Tryd.underlying98; have a164 := Tryd.isAgg98; have z164 := Tryd.sizeOf98; have v164 := Tryd.zeroValue98; have u164 := run_underlying Tryd.underlying98
  go_enter Tryd.func44, Tryd.ntmps44
  go_wp2
  rw [Lib.run_neq_ptr_same w _ Tryd.underlying69 hj]
  go_wp2
  go_end0
  exact ⟨rfl, rfl⟩
theorem check_fresh (b : Nat) (w : World) (h0 : w.cell? ⟨b, 0, none⟩ = some (.pointer none)) (hsh : w.shape? b = some (71, 2)) (hfz : w.frozen? ⟨b, 0, none⟩ = false) :
    Calls Tryd.prog 44 #[.pointer (some ⟨b, 0, none⟩)] w fun e w' => e = .returned (.tuple #[]) ∧ w' = w.setCell ⟨b, 0, none⟩ (.pointer (some ⟨b, 0, none⟩)) := by
  obtain ⟨j, hj, hjs⟩ := Option.map_eq_some_iff.1 bld_size
  have mixed : Tryd.prog.follows .mixedOrders = true := by kernel_rfl
  have t72 := Tryd.underlying71; have a72 := Tryd.isAgg71; have z72 := Tryd.sizeOf71; have v72 := Tryd.zeroValue71; have u72 := run_underlying Tryd.underlying71
  have t70 := Tryd.underlying69; have a70 := Tryd.isAgg69; have z70 := Tryd.sizeOf69; have v70 := Tryd.zeroValue69; have u70 := run_underlying Tryd.underlying69
  have t164 := Tryd.underlying98; have a164 := Tryd.isAgg98; have z164 := Tryd.sizeOf98; have v164 := Tryd.zeroValue98; have u164 := run_underlying Tryd.underlying98
  go_enter Tryd.func44, Tryd.ntmps44
  go_wp2
  rw [Lib.run_to_unsafe w ⟨b, 0, none⟩ Tryd.underlying69 Tryd.underlying98 hj (by rw [hjs]; decide) hsh (Nat.zero_lt_succ 1)]
  simp only [Result.andThen]
  rw [Oper.upon_value]
  go_wp2
  rw [run_callFunc_extern Tryd.func52 (by kernel_rfl) (by kernel_rfl) (by kernel_rfl) (e := Extern.AbiNoEscape.same) (by kernel_rfl)]
  rw [Lib.run_noEscape]
  simp only [Result.andThen]
  rw [Oper.upon_value]
  go_wp2
  rw [Lib.run_from_unsafe w ⟨b, 0, none⟩ Tryd.underlying98 Tryd.underlying69 hj hsh bld_lies]
  simp only [Result.andThen]
  rw [Oper.upon_value]
  go_wp2
  go_end0
  exact ⟨rfl, rfl⟩
theorem bld_cells5 : Tryd.prog.cellsOf 5 = 1 := by kernel_rfl
/-- The text of a builder that holds bytes; the row may have any room. -/
theorem bld_string (B b g cap : Nat) (p : Value) (cur : Array Value) (l : List UInt8) (w : World) (hbk : w.heap[b]? = some (.cells #[p, .slice (some ⟨g, 0, none⟩) l.length cap] 71 (0, 0))) (hg : w.heap[g]? = some (.cells cur 5 (0, 0))) (hbg : B ≤ g)
    (hnc : l.length ≤ cap) (hcm : cap ≤ maxLen) (hcs : l.length ≤ cur.size) (hat : ∀ j x, l[j]? = some x → w.cell? ⟨g, j, none⟩ = some (.int .u8 x.toNat)) (h0 : l ≠ []) :
    Calls Tryd.prog 35 #[.pointer (some ⟨b, 0, none⟩)] w fun e w' => e = .returned (.string ⟨l.toArray⟩) ∧ Below B w w' := by
  have hl0 : l.length ≠ 0 := by simpa using h0
  have c1 : w.drew.cell? ⟨b, 1, none⟩ = some (.slice (some ⟨g, 0, none⟩) l.length cap) := by
    have : w.drew.heap[b]? = some (.cells #[p, .slice (some ⟨g, 0, none⟩) l.length cap] 71 (0, 0)) := hbk
    rw [Lib.cell_of_heap this]; rfl
  have hSD : (Builtin.unsafeSliceData_ #[43] 91 #[.slice (some ⟨g, 0, none⟩) l.length cap]).run Tryd.prog w.drew = .ok (.pointer (some ⟨g, 0, none⟩)) w.drew :=
    Lib.run_unsafeSliceData_row _ _ _ _ _ _ (by omega)
  have hUS : (Builtin.unsafeString_ #[91, 3] 9 #[.pointer (some ⟨g, 0, none⟩), .int .i64 l.length]).run Tryd.prog w.drew = .ok (.string ⟨l.toArray⟩) (w.drew.freeze ⟨g, 0, none⟩ l.length) := by
    refine Lib.run_unsafeString_row w.drew 91 3 9 5 Tryd.underlying91 bld_cells5 g cur.size (by have hg' : w.drew.heap[g]? = some (.cells cur 5 (0, 0)) := hg; simp [World.shape?, hg']) l h0 (by omega) (by unfold maxLen at hcm; omega) ?_
    intro j x hx
    rw [Lib.addr_add, Nat.zero_add]
    exact hat j x hx
  have mixed : Tryd.prog.follows .mixedOrders = true := by kernel_rfl
  have t72 := Tryd.underlying71; have a72 := Tryd.isAgg71; have z72 := Tryd.sizeOf71; have v72 := Tryd.zeroValue71; have u72 := run_underlying Tryd.underlying71
  have t70 := Tryd.underlying69; have a70 := Tryd.isAgg69; have z70 := Tryd.sizeOf69; have v70 := Tryd.zeroValue69; have u70 := run_underlying Tryd.underlying69
  have t37 := Tryd.underlying43; have a37 := Tryd.isAgg43; have z37 := Tryd.sizeOf43; have v37 := Tryd.zeroValue43; have u37 := run_underlying Tryd.underlying43
  have t127 := Tryd.underlying91; have a127 := Tryd.isAgg91; have z127 := Tryd.sizeOf91; have v127 := Tryd.zeroValue91; have u127 := run_underlying Tryd.underlying91
  have t3 := Tryd.underlying3; have a3 := Tryd.isAgg3; have z3 := Tryd.sizeOf3; have v3 := Tryd.zeroValue3; have u3 := run_underlying Tryd.underlying3
  have t9 := Tryd.underlying9; have a9 := Tryd.isAgg9; have z9 := Tryd.sizeOf9; have v9 := Tryd.zeroValue9; have u9 := run_underlying Tryd.underlying9
  have t5 := Tryd.underlying5; have a5 := Tryd.isAgg5; have z5 := Tryd.sizeOf5; have v5 := Tryd.zeroValue5; have u5 := run_underlying Tryd.underlying5
  go_enter Tryd.func35, Tryd.ntmps35
  go_wp2
  go_region_o
  all_goals (go_wp2; go_ret; exact ⟨rfl, Lib.below_freeze (Below.drew (Below.refl B w)) (p := ⟨g, 0, none⟩) hbg _⟩)
end Go.Proofs.YtmmpflifajjbjaaDoor
end
section
namespace Go.Proofs.YtmmpflifajjbjaaDoor.V
open Go.RowKit
/-- What the check of a builder of type t (two parts) does. -/
structure CheckOk (P : Program) (f : FuncId) (t : TypeId) : Prop where
  used : ∀ (b : Nat) (w : World), w.cell? ⟨b, 0, none⟩ = some (.pointer (some ⟨b, 0, none⟩)) → Calls P f #[.pointer (some ⟨b, 0, none⟩)] w fun e w' => e = .returned (.tuple #[]) ∧ w' = w
  fresh : ∀ (b : Nat) (w : World), w.cell? ⟨b, 0, none⟩ = some (.pointer none) → w.shape? b = some (t, 2) → w.frozen? ⟨b, 0, none⟩ = false →
    Calls P f #[.pointer (some ⟨b, 0, none⟩)] w fun e w' => e = .returned (.tuple #[]) ∧ w' = w.setCell ⟨b, 0, none⟩ (.pointer (some ⟨b, 0, none⟩))
section
variable {C : Ctx} {Q0 : Exit → Act → World → Prop} {F F' : Tr} {M M' : Mem} {ids : List Nat} {k : List Kont} {full rest : List Oper} {i : Nat} {t : TypeId} {s0 : SV}
theorem Sat.checkF {d : Option Tmp} {x : Operand} {f : FuncId} {xs : List Operand} {ats : Array TypeId} {type : TypeId} {pos : String} {after : Array Edge}
    (hspec : CheckOk C.P f t) (hx : argsF C.Γ F x xs = some (f, [.ptr i 0])) (hc : callable C.P f = true) (hf : find M i = some (.cells t [.nilp, s0])) (h1 : s0.one = true) (hM : upd M i (.cells t [.ptr i 0, s0]) = some M')
    (hp : putD C.N F d (some (.tup [])) some = some F') (h : Sat C Q0 (.reg full rest F' M' ids k)) :
    Sat C Q0 (.reg full (⟨d, .call ⟨.value x, ⟨xs⟩, ats⟩, type, pos, after, none⟩ :: rest) F M ids k) := by
  intro U E a w hsup hst
  obtain ⟨F1, e1, e2⟩ := putD_inv hp
  cases e1
  refine wpList_plain rfl fun K hK => ?_
  unfold Oper.wp
  obtain ⟨vs, ht, hex⟩ := argsF_ok hst.vw hx
  rw [hex, run_callFunc_go hc]
  cases ht with
  | cons _ v0 _ vs hr ht =>
  cases ht
  cases hr with
  | ptr _ _ b hE =>
  obtain ⟨hlt, cs, hh, hI⟩ := hst.mem.at hf hE
  cases hI with
  | one _ c0 _ cs1 p0 pr pI =>
  cases pr
  cases pI with
  | arr _ _ _ _ _ _ _ => simp [SV.one] at h1
  | one _ c1 _ cs2 q0 qr qI =>
  cases qI
  refine (hspec.fresh b w (by simp [World.cell?, hh]) (by simp [World.shape?, hh]) (by simp [World.frozen?, hh])).mono ?_
  rintro en w' ⟨rfl, rfl⟩
  have hw : w.setCell ⟨b, 0, none⟩ (.pointer (some ⟨b, 0, none⟩)) = w.setRow b ([Value.pointer (some ⟨b, 0, none⟩), c1]).toArray := by
    rw [setCell_eq_setRow w b 0 _ t (0, 0) _ hh]
    rfl
  rw [hw]
  have hst' : St C F M' U E a (w.setRow b ([Value.pointer (some ⟨b, 0, none⟩), c1]).toArray) := hst.upd_ hM hf hE hh rfl ⟨_, setRow_heap w b _ _ t (0, 0) hh, .one _ _ _ _ rfl (.ptr i 0 b hE) (upd_items hst hM hf hE hh rfl (.one _ _ _ _ h1 qr .nil))⟩
  exact hK _ _ (h U E _ _ hsup (hst'.putD e2 fun s' hs' => by cases hs'; exact .tup [] [] .nil))
theorem Sat.checkU {d : Option Tmp} {x : Operand} {f : FuncId} {xs : List Operand} {ats : Array TypeId} {type : TypeId} {pos : String} {after : Array Edge} {l : List SV}
    (hspec : CheckOk C.P f t) (hx : argsF C.Γ F x xs = some (f, [.ptr i 0])) (hc : callable C.P f = true) (hf : find M i = some (.cells t (.ptr i 0 :: l)))
    (hp : putD C.N F d (some (.tup [])) some = some F') (h : Sat C Q0 (.reg full rest F' M ids k)) :
    Sat C Q0 (.reg full (⟨d, .call ⟨.value x, ⟨xs⟩, ats⟩, type, pos, after, none⟩ :: rest) F M ids k) := by
  intro U E a w hsup hst
  obtain ⟨F1, e1, e2⟩ := putD_inv hp
  cases e1
  refine wpList_plain rfl fun K hK => ?_
  unfold Oper.wp
  obtain ⟨vs, ht, hex⟩ := argsF_ok hst.vw hx
  rw [hex, run_callFunc_go hc]
  cases ht with
  | cons _ v0 _ vs hr ht =>
  cases ht
  cases hr with
  | ptr _ _ b hE =>
  obtain ⟨hlt, cs, hh, hI⟩ := hst.mem.at hf hE
  cases hI with
  | one _ c0 _ cs1 p0 pr pI =>
  cases pr with
  | ptr _ _ b2 hE2 =>
  have hbb : b2 = b := by rw [hE] at hE2; cases hE2; rfl
  subst hbb
  refine (hspec.used b2 w (by simp [World.cell?, hh])).mono ?_
  rintro en w' ⟨rfl, rfl⟩
  exact hK _ _ (h U E _ _ hsup (hst.putD e2 fun s' hs' => by cases hs'; exact .tup [] [] .nil))
end
end Go.Proofs.YtmmpflifajjbjaaDoor.V
end
section
namespace Go.Proofs.YtmmpflifajjbjaaDoor.V
open Go.RowKit
/-- What String of a builder of type t (bytes: e) returns. -/
structure BStrOk (P : Program) (f : FuncId) (t e : TypeId) : Prop where
  row : ∀ (B b g cap : Nat) (p : Value) (cur : Array Value) (l : List UInt8) (w : World), w.heap[b]? = some (.cells #[p, .slice (some ⟨g, 0, none⟩) l.length cap] t (0, 0)) → w.heap[g]? = some (.cells cur e (0, 0)) → B ≤ g →
    l.length ≤ cap → cap ≤ maxLen → l.length ≤ cur.size → (∀ j x, l[j]? = some x → w.cell? ⟨g, j, none⟩ = some (.int .u8 x.toNat)) → l ≠ [] →
    Calls P f #[.pointer (some ⟨b, 0, none⟩)] w fun en w' => en = .returned (.string ⟨l.toArray⟩) ∧ Below B w w'
  nil : ∀ (B b : Nat) (p : Value) (w : World), (p = .pointer none ∨ p = .pointer (some ⟨b, 0, none⟩)) → w.heap[b]? = some (.cells #[p, .slice none 0 0] t (0, 0)) → B ≤ b → B ≤ w.heap.size →
    Calls P f #[.pointer (some ⟨b, 0, none⟩)] w fun en w' => en = .returned (.string ⟨#[]⟩) ∧ Below B w w'
section
variable {C : Ctx} {Q0 : Exit → Act → World → Prop} {F F' : Tr} {M : Mem} {ids : List Nat} {k : List Kont} {full rest : List Oper} {i : Nat} {t e : TypeId} {s0 : SV} {U : Nat → Prop} {E : Env} {a : Act} {w w' : World}
theorem St.forgetAll (hst : St C F M U E a w) (hh : C.hold = []) (hG : ∀ w', Below C.W0.heap.size C.W0 w' → GOk C.Γ C.T0 w') (hS : ∀ b, ¬ C.S b) (hb : Below C.W0.heap.size w w') (D : Nat) : St C (Tr.mk D) [] U E a w' where
  defers := hst.defers
  size := hst.size
  slots := fun t s h => by rw [mk_get] at h; cases h
  mem := ⟨fun id B hf => by simp [find] at hf, fun id id' b hf => by simp [find] at hf⟩
  own := fun id b hf => by simp [find] at hf
  fresh := hst.fresh
  kp := ⟨hb.os.trans hst.kp.os, hb.tape.trans hst.kp.tape, hb.output.trans hst.kp.output, ⟨Nat.le_trans hst.kp.chg.size hb.size, fun x hx hn => (hb.block x hx).trans (hst.kp.chg.keep x hx hn), fun x hx => by
    have := hst.kp.chg.shape x hx
    rw [← this]
    simp only [World.shape?, hb.block x hx]⟩⟩
  hid := hst.hid
  glob := (hG w' ⟨hb.os.trans hst.kp.os, hb.tape.trans hst.kp.tape, hb.output.trans hst.kp.output, Nat.le_trans hst.kp.chg.size hb.size, fun x hx => (hb.block x hx).trans (hst.kp.chg.keep x hx (hS x))⟩).mono (fun b _ h => by
    rcases h with ⟨id, B, hf, _⟩ | h
    · simp [find] at hf
    · exact h) (Chg.refl _ w')
  pin := fun p hp => by rw [hh] at hp; cases hp
  held := fun p hp => by rw [hh] at hp; cases hp
theorem Sat.bstr {d : Option Tmp} {x : Operand} {f : FuncId} {xs : List Operand} {ats : Array TypeId} {type : TypeId} {pos : String} {after : Array Edge} {j n : Nat} {l : List UInt8} (D : Nat)
    (hspec : BStrOk C.P f t e) (hx : argsF C.Γ F x xs = some (f, [.ptr i 0])) (hc : callable C.P f = true) (hf : find M i = some (.cells t [s0, .row j 0 1 0 n])) (h1 : s0.one = true) (hj : find M j = some (.row e (.u8 l)))
    (hh : C.hold = []) (hG : ∀ w', Below C.W0.heap.size C.W0 w' → GOk C.Γ C.T0 w') (hS : ∀ b, ¬ C.S b) (hp : putD C.N (Tr.mk D) d (some (.str l)) some = some F') (hn : n = l.length) (h0 : l ≠ []) (h : Sat C Q0 (.reg full rest F' [] ids k)) :
    Sat C Q0 (.reg full (⟨d, .call ⟨.value x, ⟨xs⟩, ats⟩, type, pos, after, none⟩ :: rest) F M ids k) := by
  intro U E a w hsup hst
  obtain ⟨F1, e1, e2⟩ := putD_inv hp
  cases e1
  refine wpList_plain rfl fun K hK => ?_
  unfold Oper.wp
  obtain ⟨vs, ht, hex⟩ := argsF_ok hst.vw hx
  rw [hex, run_callFunc_go hc]
  cases ht with
  | cons _ v0 _ vs hr ht =>
  cases ht
  cases hr with
  | ptr _ _ b hE =>
  obtain ⟨hlt, cs, hh1, hI⟩ := hst.mem.at hf hE
  have hpos : 0 < l.length := List.length_pos_iff.2 h0
  cases hI with
  | arr _ _ _ _ _ _ _ => simp [SV.one] at h1
  | one _ c0 _ cs1 p0 pr pI =>
  cases pI with
  | one _ c1 _ cs2 q0 qr qI =>
  cases qI
  cases qr with
  | row0 _ _ _ _ _ hEj hz => omega
  | row _ _ _ _ _ g o c n' t' hEj hs hoff hl ok =>
  have hc0 : c ≠ 0 := by omega
  obtain ⟨ho1, ho2⟩ := hoff hc0
  simp only [Nat.zero_mul, Nat.add_zero] at ho1
  subst ho1
  obtain ⟨hg, cur, cc, hc0', hc1, hc2, hc3, hc4⟩ := hst.mem.at hj hEj
  simp only [EV.len, EV.sz, Nat.mul_one] at hc1 hc2 hc3 hc4
  have hgo : C.W0.heap.size ≤ g := (hst.own j g (by rw [hj]; rfl) hEj).resolve_right (hS g)
  have hh2 : w.heap[b]? = some (.cells #[c0, .slice (some ⟨g, 0, none⟩) l.length c] t (0, 0)) := by rw [← hn]; exact hh1
  refine (hspec.row C.W0.heap.size b g c c0 cur.toArray l w hh2 hc0' hgo (by omega) ok (by simpa using hc1) (fun y x hx => ?_) h0).mono ?_
  · have hy : y < l.length := (List.getElem?_eq_some_iff.1 hx).1
    have hI4 := hc4 y hy
    simp only [EV.items] at hI4
    have hc5 := hc3 y 0
    generalize cc y = cx at hI4 hc5
    cases hI4 with
    | one _ cv _ _ p0 pr pI =>
      have h4 := hc5 cv hy rfl
      cases pr
      rw [List.getD_eq_getElem?_getD, hx] at h4
      simp only [World.cell?, hc0']
      simpa using h4
  · rintro en w' ⟨rfl, hb⟩
    have hokl : okLen l.length := by unfold okLen at ok ⊢; omega
    exact hK _ _ (h U E _ _ hsup ((hst.forgetAll hh hG hS hb D).putD e2 fun s' hs' => by cases hs'; exact .str l hokl))
theorem Sat.bstr0 {d : Option Tmp} {x : Operand} {f : FuncId} {xs : List Operand} {ats : Array TypeId} {type : TypeId} {pos : String} {after : Array Edge} (D : Nat)
    (hspec : BStrOk C.P f t e) (hx : argsF C.Γ F x xs = some (f, [.ptr i 0])) (hc : callable C.P f = true) (hf : find M i = some (.cells t [.nilp, .nils]))
    (hh : C.hold = []) (hG : ∀ w', Below C.W0.heap.size C.W0 w' → GOk C.Γ C.T0 w') (hS : ∀ b, ¬ C.S b) (hp : putD C.N (Tr.mk D) d (some (.str [])) some = some F') (h : Sat C Q0 (.reg full rest F' [] ids k)) :
    Sat C Q0 (.reg full (⟨d, .call ⟨.value x, ⟨xs⟩, ats⟩, type, pos, after, none⟩ :: rest) F M ids k) := by
  intro U E a w hsup hst
  obtain ⟨F1, e1, e2⟩ := putD_inv hp
  cases e1
  refine wpList_plain rfl fun K hK => ?_
  unfold Oper.wp
  obtain ⟨vs, ht, hex⟩ := argsF_ok hst.vw hx
  rw [hex, run_callFunc_go hc]
  cases ht with
  | cons _ v0 _ vs hr ht =>
  cases ht
  cases hr with
  | ptr _ _ b hE =>
  obtain ⟨hlt, cs, hh1, hI⟩ := hst.mem.at hf hE
  cases hI with
  | one _ c0 _ cs1 p0 pr pI =>
  cases pr
  cases pI with
  | one _ c1 _ cs2 q0 qr qI =>
  cases qr
  cases qI
  have hbo : C.W0.heap.size ≤ b := (hst.own i b (by rw [hf]; rfl) hE).resolve_right (hS b)
  refine (hspec.nil C.W0.heap.size b _ w (.inl rfl) hh1 hbo hst.kp.chg.size).mono ?_
  rintro en w' ⟨rfl, hb⟩
  exact hK _ _ (h U E _ _ hsup ((hst.forgetAll hh hG hS hb D).putD e2 fun s' hs' => by cases hs'; exact .str [] (by unfold okLen; simp)))
/-- A contract, by a walk; the tables stay what they are. -/
theorem Fun.mkG {P : Program} {Γ : Glob} {f : FuncId} {fn : Func} {c : Code} {N : Nat} {args : List SV} {res : SV} {F : Tr} (dep : Nat) (hf : P.funcs[f]? = some fn) (hb : fn.body = some c) (hN : fn.ntmps = N) (hle : Nat.ble args.length N = true) (hF : argT 0 args (Tr.mk dep) = some F)
    (h : factsL args → ∀ (T : Nat → Prop) (w : World), (∀ w', Below w.heap.size w w' → GOk Γ T w') → Sat ⟨P, w, fun _ => False, T, Γ, N, [], [], false⟩ (bodyPost P fn (Post T w res)) (.code c F [] ids0 [])) : Fun P Γ f args res := by
  intro T w vs hT hG ht
  have hle' := Nat.le_of_ble_eq_true hle
  have hlen := ht.len
  refine calls_of_wp hf hb (h ht.facts T w (fun w' hb => hG.mono (fun _ _ h => h) (Chg.of_below hb)) (fun _ => True) E0 _ w ?_ ⟨rfl, ?_, fun t s hs => ?_, ⟨fun id B hf => by simp [find] at hf, fun id id' b hf => by simp [find] at hf⟩, fun id b hf => by simp [find] at hf, fun _ _ => rfl, ⟨rfl, rfl, rfl, Chg.refl _ w⟩, fun b hb => .inl ⟨hT b hb, fun h => h⟩, hG.mono (fun b _ hb => by rcases hb with ⟨id, B, hf, _⟩ | h0 <;> first | (simp [find] at hf; done) | exact h0) (Chg.refl _ w), fun p hp => (by cases hp), fun p hp => (by cases hp)⟩)
  · have : ∀ (l : List Nat) (n : Nat) (U : Nat → Prop), (∀ i, i < l.length → l[i]? = some (n + i)) → (∀ k, n ≤ k → U k) → Sup l U := by
      intro l
      induction l with
      | nil => intro n _ _ _; trivial
      | cons i r ih =>
        intro n U hl hU
        have hi : i = n := by simpa using hl 0 (by simp)
        refine ⟨hU i (by omega), ih (n + 1) _ (fun j hj => ?_) fun k hk => ⟨hU k (by omega), by omega⟩⟩
        have := hl (j + 1) (by simpa using hj)
        simpa [Nat.add_assoc, Nat.add_comm 1 j] using this
    exact this ids0 0 _ (by decide) fun _ _ => trivial
  · simp only [Array.size_append, List.size_toArray, Array.size_replicate, hlen, hN]; omega
  · rcases argT_get hF ht t s hs with ⟨q1, _⟩ | ⟨_, v, q2, q3⟩ | ⟨_, q2⟩
    · omega
    · have hlt : t < vs.length := by simpa using (List.getElem?_eq_some_iff.1 q2).1
      have : (vs.toArray ++ Array.replicate (fn.ntmps - vs.toArray.size) undef).getD t undef = v := by
        rw [Array.getD_eq_getD_getElem?, Array.getElem?_append_left (by simpa using hlt)]
        simp only [Nat.sub_zero] at q2
        simp [q2]
      rw [this]
      exact q3.mono (fun _ _ h => h) (fun b _ hb => by rcases hb with ⟨id, B, hf, _⟩ | h0 <;> first | (simp [find] at hf; done) | exact h0) (Chg.refl _ w)
    · rw [mk_get] at q2; cases q2
end
end Go.Proofs.YtmmpflifajjbjaaDoor.V
end
section
namespace Go.Proofs.YtmmpflifajjbjaaDoor
open Go.RowKit V
set_option maxRecDepth 100000
set_option maxHeartbeats 8000000
/-- The tables: the powers of ten, and bytealg's MaxLen (some int). -/
@[reducible] def Γp : Glob := [(1, .ints .u64 Lib.pow10Tab), (0, .g 1 1 fun _ => [.anyi .i64])]
theorem gPow : Tryd.prog.globalNamed "internal/strconv.uint64pow10" = some 1 := by kernel_rfl
theorem tab_of {T : Nat → Prop} {w : World} (h : GOk Γp T w) : Lib.TabIs Tryd.prog w "internal/strconv.uint64pow10" .u64 Lib.pow10Tab := by
  obtain ⟨t, hs⟩ := h.shp 1 _ rfl
  have hr := h.rep 1 _ rfl
  have hcell : ∀ i, i < 20 → w.cell? ⟨1, i, none⟩ = some (.int .u64 (Lib.pow10Tab.getD i 0)) := by
    generalize hv : Value.pointer (some ⟨1, 0, none⟩) = v at hr
    cases hr with
    | rop e i j b o c hT hn hc hr hi hj hb =>
      simp at hv
      obtain ⟨rfl, rfl⟩ := hv
      intro i hi2
      have hlen : i < (EV.ints .u64 Lib.pow10Tab).len := by simpa [EV.len, Lib.pow10Tab_length] using hi2
      have hI := hr i hlen
      simp only [EV.items] at hI
      obtain ⟨cc, r, e1, hr1, _⟩ := hI.head rfl
      have := hc i 0 cc hlen (by simp [e1])
      cases hr1
      simpa [EV.sz] using this
  have hlen : (EV.ints .u64 Lib.pow10Tab).len * (EV.ints .u64 Lib.pow10Tab).sz = 20 := by simp [EV.len, EV.sz, Lib.pow10Tab_length]
  rw [hlen] at hs
  unfold World.shape? at hs
  split at hs
  · rename_i c elem fr hh
    simp only [Option.some.injEq, Prod.mk.injEq] at hs
    unfold Lib.TabIs World.var?
    simp only [gPow, Option.bind_some, hh]
    congr 1
    apply Array.ext
    · simp [hs.2, Lib.pow10Tab_length]
    · intro i h1 h2
      have := hcell i (by omega)
      unfold World.cell? at this
      rw [hh] at this
      simp only [Option.isSome_none, Bool.false_eq_true, if_false] at this
      rw [Array.getElem?_eq_getElem h1, Option.some.injEq] at this
      rw [this]
      have h3 : i < Lib.pow10Tab.length := by rw [Lib.pow10Tab_length]; omega
      simp [List.getD, List.getElem?_eq_getElem h3]
  · cases hs
theorem itoa_spec (n : Int) : Fun Tryd.prog Γp 33 [.int .i64 n] (.str (Lib.itoa n)) := by
  intro T w vs hT hG ht
  obtain ⟨hn, _⟩ := ht.facts
  cases ht with
  | cons s v l vs1 hr hl =>
    cases hl
    cases hr
    obtain ⟨h0, h1⟩ := i64_iff hn
    refine (Tryd.strconv_Itoa n h0 h1 w (tab_of hG)).mono ?_
    rintro e w' ⟨rfl, k, os, rfl⟩
    have := Lib.itoa_length_le n h0 h1
    exact ⟨_, rfl, .str _ (by unfold okLen; omega), Lib.below_grow _ _ (Nat.le_refl _) k os⟩
theorem bld_check : CheckOk Tryd.prog 44 71 := ⟨check_used, check_fresh⟩
theorem bld_text : BStrOk Tryd.prog 35 71 5 where
  row := fun B b g cap p cur l w h1 h2 h3 h4 h5 h6 h7 h8 => bld_string B b g cap p cur l w h1 h2 h3 h4 h5 h6 h7 h8
  nil := fun B b p w hp hh hb hB => by
    have h : Lib.IsBuilder 71 5 B b [] w := by
      rcases hp with rfl | rfl
      · exact .inl ⟨hb, _, hh, World.ownsRow_nil _ _ _ _, by simp [Value.ownBlock]⟩
      · exact .inr ⟨hb, _, hh, World.ownsRow_nil _ _ _ _, by simp [Value.ownBlock]⟩
    exact Tryd.Builder_String_empty B b w h hB
end Go.Proofs.YtmmpflifajjbjaaDoor
end
section
namespace Go.Proofs.YtmmpflifajjbjaaDoor
open Go.RowKit V
set_option maxRecDepth 100000
set_option maxHeartbeats 4000000
/-- The parts between separators. -/
def spl (c : UInt8) : List UInt8 → List (List UInt8)
  | [] => [[]]
  | b :: r => if b = c then [] :: spl c r else match spl c r with
    | [] => [[b]]
    | x :: y => (b :: x) :: y
theorem spl_miss (c : UInt8) : ∀ s : List UInt8, c ∉ s → spl c s = [s]
  | [], _ => rfl
  | b :: r, h => by
    simp only [List.mem_cons, not_or] at h
    rw [spl, if_neg (Ne.symm h.1), spl_miss c r h.2]
theorem spl_hit (c : UInt8) (r : List UInt8) : ∀ p : List UInt8, c ∉ p → spl c (p ++ c :: r) = p :: spl c r
  | [], _ => by rw [List.nil_append, spl, if_pos rfl]
  | b :: p, h => by
    simp only [List.mem_cons, not_or] at h
    rw [List.cons_append, spl, if_neg (Ne.symm h.1), spl_hit c r p h.2]
theorem ib_miss (c : UInt8) : ∀ s : List UInt8, c ∉ s → Lib.indexByte s c = -1
  | [], _ => rfl
  | b :: r, h => by
    simp only [List.mem_cons, not_or] at h
    have e : (b == c) = false := by simpa using Ne.symm h.1
    simp [Lib.indexByte, e, ib_miss c r h.2]
theorem ib_hit (c : UInt8) (r : List UInt8) : ∀ p : List UInt8, c ∉ p → Lib.indexByte (p ++ c :: r) c = p.length
  | [], _ => by simp [Lib.indexByte]
  | b :: p, h => by
    simp only [List.mem_cons, not_or] at h
    have e : (b == c) = false := by simpa using Ne.symm h.1
    have e2 : (((p.length : Nat) : Int) == -1) = false := by
      cases hq : (((p.length : Nat) : Int) == -1) with
      | false => rfl
      | true => have := beq_iff_eq.1 hq; omega
    simp only [List.cons_append, Lib.indexByte, e, ib_hit c r p h.2, e2, List.length_cons]
    simp
theorem at_first (c : UInt8) (s : List UInt8) : c ∉ s ∨ ∃ p r, c ∉ p ∧ s = p ++ c :: r := by
  by_cases h : c ∈ s
  · obtain ⟨p, r, h1, h2⟩ := List.eq_append_cons_of_mem h
    exact .inr ⟨p, r, h2, h1⟩
  · exact .inl h
theorem split_spl (c : UInt8) : ∀ (n : Nat) (s : List UInt8), s.length ≤ n → Lib.splitK [c] 0 (Lib.count s [c]) s = spl c s := by
  intro n
  induction n with
  | zero =>
    intro s hs
    obtain rfl : s = [] := List.eq_nil_of_length_eq_zero (by omega)
    rw [Lib.count_miss (by rw [Lib.index_one]; rfl)]
    rfl
  | succ n ih =>
    intro s hs
    rcases at_first c s with h | ⟨p, r, h, rfl⟩
    · rw [Lib.count_miss (by rw [Lib.index_one, ib_miss c s h]), spl_miss c s h]
      rfl
    · have hi : Lib.index (p ++ c :: r) [c] = (p.length : Int) := by rw [Lib.index_one, ib_hit c r p h]
      have hd : (p ++ c :: r).drop (p.length + 1) = r := by
        rw [← List.drop_drop, List.drop_left]
        rfl
      have hcount := Lib.count_hit (s := p ++ c :: r) (sub := [c]) (i := p.length) (by simp) hi
      rw [show p.length + ([c] : List UInt8).length = p.length + 1 from rfl, hd] at hcount
      rw [hcount, Nat.add_comm 1, Lib.splitK, hi]
      have e2 : (((p.length : Nat) : Int) == -1) = false := by
        cases hq : (((p.length : Nat) : Int) == -1) with
        | false => rfl
        | true => have := beq_iff_eq.1 hq; omega
      rw [e2, spl_hit c r p h, Int.toNat_natCast, show p.length + ([c] : List UInt8).length = p.length + 1 from rfl, hd, Nat.add_zero, List.take_left]
      simp only [Bool.false_eq_true, if_false]
      rw [ih r (by simp only [List.length_append, List.length_cons] at hs; omega)]
theorem cut_miss (c : UInt8) (s : List UInt8) (h : c ∉ s) : Lib.cut s [c] = (s, [], false) := by
  unfold Lib.cut
  rw [Lib.index_one, ib_miss c s h]
  rfl
theorem cut_hit (c : UInt8) (p r : List UInt8) (h : c ∉ p) : Lib.cut (p ++ c :: r) [c] = (p, r, true) := by
  unfold Lib.cut
  rw [Lib.index_one, ib_hit c r p h, if_pos (by omega), Int.toNat_natCast, List.take_left, show p.length + ([c] : List UInt8).length = p.length + 1 from rfl, ← List.drop_drop, List.drop_left]
  rfl
/-- What the parts of a text are put together again. -/
theorem spl3 (c : UInt8) (s a b d : List UInt8) (h : spl c s = [a, b, d]) : s = a ++ c :: (b ++ c :: d) := by
  rcases at_first c s with h1 | ⟨p, r, h1, rfl⟩
  · rw [spl_miss c s h1] at h; cases h
  · rw [spl_hit c r p h1] at h
    injection h with e1 e2
    subst e1
    rcases at_first c r with h2 | ⟨q, t, h2, rfl⟩
    · rw [spl_miss c r h2] at e2; cases e2
    · rw [spl_hit c t q h2] at e2
      injection e2 with e3 e4
      subst e3
      rcases at_first c t with h3 | ⟨u, v, h3, rfl⟩
      · rw [spl_miss c t h3] at e4
        injection e4 with e5
        rw [e5]
      · rw [spl_hit c v u h3] at e4
        injection e4 with e5 e6
        exfalso
        rcases at_first c v with h4 | ⟨u', v', h4, rfl⟩
        · rw [spl_miss c v h4] at e6; cases e6
        · rw [spl_hit c v' u' h4] at e6; cases e6

/-! ### Lines -/
def sufC : List UInt8 := [32, 99, 111, 100, 101]
def numV (s : List UInt8) : Int := match Lib.atoiAll s with
  | .ok v => v
  | .range => Lib.atoiSat s
  | _ => 0
def numB (s : List UInt8) : Bool := match Lib.atoiAll s with
  | .ok v => bif bif decide ((s.length : Int) ≤ 5) then decide (Lib.itoa v = s) else false then decide (0 ≤ v) else false
  | _ => false
theorem numB_t {s : List UInt8} (h : numB s = true) : Lib.itoa (numV s) = s ∧ 0 ≤ numV s := by
  unfold numB at h
  unfold numV
  split at h
  · rename_i v hv
    cases h1 : decide ((s.length : Int) ≤ 5) <;> rw [h1] at h
    · cases h
    · simp only [cond_true] at h
      cases h2 : decide (Lib.itoa v = s) <;> rw [h2] at h
      · cases h
      · simp only [cond_true] at h
        rw [hv]
        exact ⟨of_decide_eq_true h2, of_decide_eq_true h⟩
  · cases h
/-- What a line says, and whether it has the form. -/
def lineX (s : List UInt8) : SecL × Bool :=
  match spl 32 (Lib.trimSuffix s sufC) with
  | [a, b, d] => bif decide (a = []) then (sec0, false) else (⟨a, numV b, numV d, Lib.hasSuffix s sufC⟩, bif numB b then numB d else false)
  | _ => (sec0, false)
def bodyS (x : SecL) : List UInt8 := x.name ++ 32 :: (Lib.itoa x.fr ++ 32 :: (Lib.itoa x.to ++ bif x.code then sufC else []))
def lineS (x : SecL) : List UInt8 := bodyS x ++ [10]
def printS : List SecL → List UInt8
  | [] => []
  | x :: l => lineS x ++ printS l
theorem printS_app : ∀ (l m : List SecL), printS (l ++ m) = printS l ++ printS m
  | [], _ => rfl
  | x :: l, m => by rw [List.cons_append, printS, printS_app l m, printS, List.append_assoc]
theorem trim_code (s : List UInt8) : s = Lib.trimSuffix s sufC ++ bif Lib.hasSuffix s sufC then sufC else [] := by
  unfold Lib.trimSuffix
  cases h : Lib.hasSuffix s sufC with
  | false => simp
  | true =>
    simp only [if_true, cond_true]
    obtain ⟨t, ht⟩ := List.isSuffixOf_iff_suffix.1 h
    subst ht
    rw [List.length_append, Nat.add_sub_cancel, List.take_left]
theorem line_text (s : List UInt8) (h : (lineX s).2 = true) : s = bodyS (lineX s).1 := by
  unfold lineX at h ⊢
  split at h
  · rename_i a b d hs
    cases ha : decide (a = []) <;> rw [ha] at h
    · simp only [cond_false] at h
      cases hb : numB b <;> rw [hb] at h
      · cases h
      · simp only [cond_true] at h
        have h1 := numB_t hb
        have h2 := numB_t h
        have h3 := trim_code s
        rw [spl3 32 _ a b d hs] at h3
        show s = bodyS ⟨a, numV b, numV d, Lib.hasSuffix s sufC⟩
        unfold bodyS
        simp only [h1.1, h2.1]
        simpa only [List.append_assoc, List.cons_append] using h3
    · cases h
  · cases h
/-- The list with a text: its lines have the form. -/
def parseK : Nat → List UInt8 → Option (List SecL)
  | _, [] => some []
  | 0, _ :: _ => none
  | n + 1, b :: s => bif bif !(lineX (Lib.cut (b :: s) [10]).1).2 then true else !(Lib.cut (b :: s) [10]).2.2 then none else (parseK n (Lib.cut (b :: s) [10]).2.1).map ((lineX (Lib.cut (b :: s) [10]).1).1 :: ·)
theorem parse_text : ∀ (n : Nat) (s : List UInt8) (l : List SecL), parseK n s = some l → printS l = s
  | n, [], l, h => by
    cases n <;> (simp only [parseK, Option.some.injEq] at h; subst h; rfl)
  | 0, b :: s, l, h => by cases h
  | n + 1, b :: s, l, h => by
    simp only [parseK] at h
    rcases at_first 10 (b :: s) with h1 | ⟨p, r, h1, h2⟩
    · rw [cut_miss 10 _ h1] at h
      simp only [Bool.not_false] at h
      cases hx : (lineX (b :: s)).2 <;> rw [hx] at h <;> cases h
    · rw [h2, cut_hit 10 p r h1] at h
      simp only at h
      cases hx : (lineX p).2 <;> rw [hx] at h
      · cases h
      · simp only [Bool.not_true, cond_false] at h
        cases hp : parseK n r with
        | none => rw [hp] at h; cases h
        | some l' =>
          rw [hp] at h
          simp only [Option.map_some, Option.some.injEq] at h
          subst h
          rw [printS, parse_text n r l' hp, lineS, ← line_text p hx, h2, List.append_assoc]
          rfl

/-! ### The way back -/
/-- A section whose text is read again. -/
structure GoodS (x : SecL) : Prop where
  ne : x.name ≠ []
  sp : 32 ∉ x.name
  nl : 10 ∉ x.name
  fr : 0 ≤ x.fr ∧ x.fr ≤ 300
  to : 0 ≤ x.to ∧ x.to ≤ 300
def digB (n : Nat) : Bool := numB (Lib.itoa n) && decide (numV (Lib.itoa n) = n) && (Lib.itoa n).all fun c => decide (48 ≤ c.toNat) && decide (c.toNat ≤ 57)
theorem dig_all : ∀ n, n < 301 → digB n = true ∧ Lib.itoa (n : Nat) ≠ [] := by decide +kernel
theorem dig_at (n : Int) (h : 0 ≤ n ∧ n ≤ 300) : numB (Lib.itoa n) = true ∧ numV (Lib.itoa n) = n ∧ (∀ c ∈ Lib.itoa n, 48 ≤ c.toNat ∧ c.toNat ≤ 57) ∧ Lib.itoa n ≠ [] := by
  obtain ⟨h1, h2⟩ := dig_all n.toNat (by omega)
  rw [Int.toNat_of_nonneg h.1] at h2
  unfold digB at h1
  rw [Int.toNat_of_nonneg h.1] at h1
  simp only [Bool.and_eq_true, List.all_eq_true, decide_eq_true_eq] at h1
  exact ⟨h1.1.1, h1.1.2, h1.2, h2⟩
theorem dig_not (n : Int) (h : 0 ≤ n ∧ n ≤ 300) (c : UInt8) (hc : c.toNat < 48 ∨ 57 < c.toNat) : c ∉ Lib.itoa n := fun hm => by
  have := (dig_at n h).2.2.1 c hm
  omega
theorem sufC_not : (10 : UInt8) ∉ sufC := by decide
theorem body_nl (x : SecL) (h : GoodS x) : 10 ∉ bodyS x := by
  unfold bodyS
  have h1 := dig_not x.fr h.fr 10 (by decide)
  have h2 := dig_not x.to h.to 10 (by decide)
  have h3 := h.nl
  cases x.code <;> simp [h1, h2, h3, sufC_not]
theorem body_trim (x : SecL) (h : GoodS x) : Lib.trimSuffix (bodyS x) sufC = x.name ++ 32 :: (Lib.itoa x.fr ++ 32 :: Lib.itoa x.to) ∧ Lib.hasSuffix (bodyS x) sufC = x.code := by
  unfold bodyS
  cases hc : x.code with
  | true =>
    have e : x.name ++ 32 :: (Lib.itoa x.fr ++ 32 :: (Lib.itoa x.to ++ bif true then sufC else [])) = (x.name ++ 32 :: (Lib.itoa x.fr ++ 32 :: Lib.itoa x.to)) ++ sufC := by simp
    rw [e]
    have h1 : Lib.hasSuffix ((x.name ++ 32 :: (Lib.itoa x.fr ++ 32 :: Lib.itoa x.to)) ++ sufC) sufC = true := List.isSuffixOf_iff_suffix.2 ⟨_, rfl⟩
    refine ⟨?_, h1⟩
    unfold Lib.trimSuffix
    rw [h1, if_pos rfl, List.length_append, Nat.add_sub_cancel, List.take_left]
  | false =>
    have e : x.name ++ 32 :: (Lib.itoa x.fr ++ 32 :: (Lib.itoa x.to ++ bif false then sufC else [])) = x.name ++ 32 :: (Lib.itoa x.fr ++ 32 :: Lib.itoa x.to) := by simp
    rw [e]
    have h1 : Lib.hasSuffix (x.name ++ 32 :: (Lib.itoa x.fr ++ 32 :: Lib.itoa x.to)) sufC = false := by
      apply Bool.eq_false_iff.2
      intro hh
      obtain ⟨t, ht⟩ := List.isSuffixOf_iff_suffix.1 hh
      obtain ⟨q1, q2, q3, q4⟩ := dig_at x.to h.to
      obtain ⟨d, c, hd⟩ : ∃ d c, Lib.itoa x.to = d ++ [c] := by
        rcases List.eq_nil_or_concat (Lib.itoa x.to) with e | ⟨d, c, e⟩
        · exact absurd e q4
        · exact ⟨d, c, by rw [e, List.concat_eq_append]⟩
      have hc := q3 c (by rw [hd]; simp)
      rw [hd] at ht
      have : (t ++ sufC).getLast? = (x.name ++ 32 :: (Lib.itoa x.fr ++ 32 :: (d ++ [c]))).getLast? := by rw [ht]
      rw [show x.name ++ 32 :: (Lib.itoa x.fr ++ 32 :: (d ++ [c])) = (x.name ++ 32 :: (Lib.itoa x.fr ++ 32 :: d)) ++ [c] by simp, List.getLast?_concat, show t ++ sufC = (t ++ [32, 99, 111, 100]) ++ [101] by simp [sufC], List.getLast?_concat] at this
      cases this
      revert hc
      decide
    refine ⟨?_, h1⟩
    unfold Lib.trimSuffix
    rw [h1, if_neg (by decide)]
theorem line_back (x : SecL) (h : GoodS x) : lineX (bodyS x) = (x, true) := by
  obtain ⟨h1, h2⟩ := body_trim x h
  obtain ⟨f1, f2, f3, f4⟩ := dig_at x.fr h.fr
  obtain ⟨t1, t2, t3, t4⟩ := dig_at x.to h.to
  unfold lineX
  rw [h1, h2, spl_hit 32 _ _ h.sp, spl_hit 32 _ _ (dig_not x.fr h.fr 32 (by decide)), spl_miss 32 _ (dig_not x.to h.to 32 (by decide))]
  simp only [decide_eq_false h.ne, cond_false, f1, f2, t1, t2, cond_true]
theorem bodyS_ne (x : SecL) : lineS x ≠ [] := by unfold lineS; simp
theorem parse_print : ∀ (l : List SecL), (∀ x ∈ l, GoodS x) → ∀ n, (printS l).length ≤ n → parseK n (printS l) = some l
  | [], _, n, _ => by cases n <;> rfl
  | x :: l, h, n, hn => by
    have hx := h x (List.mem_cons_self ..)
    have hl : printS (x :: l) = bodyS x ++ 10 :: printS l := by rw [printS, lineS, List.append_assoc]; rfl
    have hlen : (printS l).length < (printS (x :: l)).length := by rw [hl]; simp; omega
    cases n with
    | zero => omega
    | succ n =>
      obtain ⟨b, s, hbs⟩ : ∃ b s, printS (x :: l) = b :: s := by
        cases hq : printS (x :: l) with
        | nil => rw [hq] at hlen; simp at hlen
        | cons b s => exact ⟨b, s, rfl⟩
      rw [hbs, parseK, ← hbs, hl, cut_hit 10 _ _ (body_nl x hx), line_back x hx]
      simp only [Bool.not_true, cond_false]
      rw [parse_print l (fun y hy => h y (List.mem_cons_of_mem _ hy)) n (by omega)]
      rfl
end Go.Proofs.YtmmpflifajjbjaaDoor
end
