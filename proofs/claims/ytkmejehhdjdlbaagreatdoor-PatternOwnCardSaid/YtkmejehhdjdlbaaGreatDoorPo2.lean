/- Parts of the walks and plain laws, merged: Shelf, Iter, TxtA, TxtB. Each theorem bears its own conditions; no other. -/
import Derived.Shelf.Strings.Builder1
import Derived.Shelf.Strings.Builder2
import Derived.Shelf.Strings.OnBuilder
import Derived.Shelf.Small.Wraps
import Derived.Shelf.Utf8.RuneCount
import Derived.Shelf.Strconv.Atoi
import Derived.Shelf.Strconv.Itoa0
import Derived.Shelf.Strconv.Itoa1
import Derived.Shelf.LaysM
import Derived.Shelf.Strconv.Itoa2
import Derived.Shelf.Strconv.Itoa3
import Derived.Shelf.Strconv.AtoiErrFast
import Derived.Shelf.Strconv.ParseIntEmpty
import Derived.Shelf.Strconv.AtoiFail
import Derived.Shelf.Strconv.Clone
import Derived.Shelf.Strconv.SyntaxError
import Derived.Shelf.LaysC
import Derived.Shelf.Strconv.ToError
import Derived.Shelf.Strconv.Lower
import Derived.Shelf.Strconv.ParseUint10
import Derived.Shelf.Strconv.ParseUint10Empty
import Derived.Shelf.Strconv.ParseUint10Any
import Derived.Shelf.Strconv.ParseInt10
import Derived.Shelf.Strconv.AtoiLong
import Derived.Shelf.Strconv.AtoiInnerAll
import Derived.Shelf.Strconv.RangeError
import Derived.Shelf.Strconv.ToErrorRange
import Derived.Shelf.Strconv.AtoiAll
import Derived.Shelf.Strconv.ErrVarAll
import Derived.Shelf.Strings.Search1
import Derived.Shelf.Strings.Search2
import Derived.Shelf.Strings.Search3
import Derived.Shelf.Strings.Cut
import Derived.Shelf.Strings.Count
import Derived.Shelf.Strings.Shaped
import Derived.Shelf.Sort.Plain
import Derived.Shelf.Strings.Prefix
import Derived.Shelf.Strings.Split
import Derived.Shelf.Strings.SplitShaped
import Derived.Shelf.Unicode.Decode
import Derived.Shelf.Strings.RuneCount
import Derived.Shelf.Strings.Explode
import Derived.Shelf.Unicode.DecodeSlow
import Derived.Shelf.Unicode.DecodeAny
import Derived.Shelf.Slices.Turned
import Derived.Shelf.Slices.In.SortNone
import Derived.Shelf.Spec.SlicesInsert
import Derived.Shelf.Spec.SlicesInsertGrow
import Derived.Shelf.SlGeneric
import Derived.Shelf.SlIter.Nil
import Derived.Shelf.SortM.Plain
import Derived.Shelf.SortM.SortNone
import Derived.Ground.GgzProg
import Derived.Ground.SlgmProg
import Derived.Test.YtkmejehhdjdlbaaGreatDoorProg
import Derived.Test.YtkmejehhdjdlbaaGreatDoorPo1
namespace Go.Proofs
open Go.Shelf
open Go.RowKit in
open Go.RowKit in
open Go.RowKit in
open Go.RowKit in
open Go.RowKit in
def Tryz.lays156_ren : Go.Shelf.Ren := ⟨fun | 156 => 102 | 165 => 124 | 166 => 125 | 169 => 126 | 240 => 154 | 241 => 155 | 276 => 185 | 277 => 186 | n => n, fun | 31 => 59 | 9 => 9 | 3 => 3 | 4 => 4 | 0 => 0 | 20 => 20 | 72 => 173 | 76 => 133 | 70 => 171 | 37 => 164 | 75 => 30 | 127 => 196 | 164 => 220 | 5 => 5 | 80 => 154 | n => n, fun | n => n⟩
theorem Tryz.lays156 : Go.Proofs.Lays.n156 Tryz.prog Tryz.lays156_ren := {
  mixed := by kernel_rfl
  f156 := Tryz.func102.trans (congrArg some (by kernel_rfl))
  f165 := Tryz.func124.trans (congrArg some (by kernel_rfl))
  f166 := Tryz.func125.trans (congrArg some (by kernel_rfl))
  f169 := Tryz.func126.trans (congrArg some (by kernel_rfl))
  f240 := Tryz.func154.trans (congrArg some (by kernel_rfl))
  f241 := Tryz.func155.trans (congrArg some (by kernel_rfl))
  f276 := Tryz.func185.trans (congrArg some (by kernel_rfl))
  f277 := Tryz.func186.trans (congrArg some (by kernel_rfl))
  t0 := Tryz.underlying0
  a0 := Tryz.isAgg0
  z0 := Tryz.sizeOf0
  v0 := Tryz.zeroValue0
  t3 := Tryz.underlying3
  a3 := Tryz.isAgg3
  z3 := Tryz.sizeOf3
  v3 := Tryz.zeroValue3
  t4 := Tryz.underlying4
  a4 := Tryz.isAgg4
  z4 := Tryz.sizeOf4
  v4 := Tryz.zeroValue4
  t9 := Tryz.underlying9
  a9 := Tryz.isAgg9
  z9 := Tryz.sizeOf9
  v9 := Tryz.zeroValue9
  t20 := Tryz.underlying20
  a20 := Tryz.isAgg20
  z20 := Tryz.sizeOf20
  v20 := Tryz.zeroValue20
  t31 := Tryz.underlying59
  a31 := Tryz.isAgg59
  z31 := Tryz.sizeOf59
  v31 := Tryz.zeroValue59
  t37 := Tryz.underlying164
  a37 := Tryz.isAgg164
  z37 := Tryz.sizeOf164
  v37 := Tryz.zeroValue164
  t70 := Tryz.underlying171
  a70 := Tryz.isAgg171
  z70 := Tryz.sizeOf171
  v70 := Tryz.zeroValue171
  t72 := Tryz.underlying173
  a72 := Tryz.isAgg173
  z72 := Tryz.sizeOf173
  v72 := Tryz.zeroValue173
  t75 := Tryz.underlying30
  a75 := Tryz.isAgg30
  z75 := Tryz.sizeOf30
  v75 := Tryz.zeroValue30
  t76 := Tryz.underlying133
  a76 := Tryz.isAgg133
  z76 := Tryz.sizeOf133
  v76 := Tryz.zeroValue133
  t127 := Tryz.underlying196
  a127 := Tryz.isAgg196
  z127 := Tryz.sizeOf196
  v127 := Tryz.zeroValue196
  t164 := Tryz.underlying220
  a164 := Tryz.isAgg220
  z164 := Tryz.sizeOf220
  v164 := Tryz.zeroValue220 }
theorem Tryz.Builder_Extra_156 : Builder.Extra Tryz.prog Tryz.lays156_ren := {
  sizeBuilder := by kernel_rfl
  liesBuilder := by kernel_rfl
  t5 := Tryz.underlying5
  a5 := Tryz.isAgg5
  z5 := Tryz.sizeOf5
  v5 := Tryz.zeroValue5
  infoByte := by kernel_rfl
  cellsByte := by kernel_rfl
  sizeByte := by kernel_rfl
  neB5 := by decide }
open Go.RowKit in
open Go.RowKit in
/-- strings.Join: "Join concatenates the elements of its first argument to create a single string. The separator string sep is placed between elements in the resulting string.": HOWEVER MANY ELEMENTS. Below the heap's end the world is as it was. (LAID: no walk: one application.) -/
theorem Tryz.strings_Join (bk o c : Nat) (xs : List ByteArray) (sep : ByteArray) (w : World) (hcells : ∀ (j : Nat) x, xs[j]? = some x → w.cell? ⟨bk, o + j, none⟩ = some (.string x)) (hbk : bk < w.heap.size) (hN : xs.length ≤ 140737488355328) (hcap : xs.length ≤ c) (hlen : (Lib.join (xs.map (·.data.toList)) sep.data.toList).length ≤ 140737488355328) :
    Calls Tryz.prog 102 #[.slice (some ⟨bk, o, none⟩) xs.length c, .string sep] w fun e w' => e = .returned (.string ⟨(Lib.join (xs.map (·.data.toList)) sep.data.toList).toArray⟩) ∧ Below w.heap.size w w' := Any.strings_Join Tryz.lays156 Tryz.Builder_Extra_156 bk o c xs sep w hcells hbk hN hcap hlen
open Go.RowKit in
def Tryz.lays103_ren : Go.Shelf.Ren := ⟨fun | 103 => 128 | 210 => 157 | 206 => 187 | n => n, fun | 9 => 9 | 4 => 4 | 24 => 152 | 3 => 3 | n => n, fun | n => n⟩
theorem Tryz.lays103 : Go.Proofs.Lays.n103 Tryz.prog Tryz.lays103_ren := {
  mixed := by kernel_rfl
  f103 := Tryz.func128.trans (congrArg some (by kernel_rfl))
  f206 := Tryz.func187.trans (congrArg some (by kernel_rfl))
  f210 := Tryz.func157.trans (congrArg some (by kernel_rfl))
  t3 := Tryz.underlying3
  a3 := Tryz.isAgg3
  z3 := Tryz.sizeOf3
  v3 := Tryz.zeroValue3
  t4 := Tryz.underlying4
  a4 := Tryz.isAgg4
  z4 := Tryz.sizeOf4
  v4 := Tryz.zeroValue4
  t9 := Tryz.underlying9
  a9 := Tryz.isAgg9
  z9 := Tryz.sizeOf9
  v9 := Tryz.zeroValue9
  t24 := Tryz.underlying152
  a24 := Tryz.isAgg152
  z24 := Tryz.sizeOf152
  v24 := Tryz.zeroValue152 }
open Go.RowKit in
/-- strings.CutPrefix: "CutPrefix returns s without the provided leading prefix string and reports whether it found the prefix. If s doesn't start with prefix, CutPrefix returns s, false. If prefix is the empty string, CutPrefix returns s, true.": IT RETURNS '(Lib.trimPrefix s p, Lib.hasPrefix s p)'; the world is as it was. (LAID: no walk: one application.) -/
theorem Tryz.strings_CutPrefix (s p : ByteArray) (w : World) :
    Calls Tryz.prog 128 #[.string s, .string p] w fun e w' => e = .returned (.tuple #[.string ⟨(Lib.trimPrefix s.data.toList p.data.toList).toArray⟩, .bool (Lib.hasPrefix s.data.toList p.data.toList)]) ∧ w' = w := Any.strings_CutPrefix Tryz.lays103 s p w
open Go.RowKit in
def Tryz.lays104_ren : Go.Shelf.Ren := ⟨fun | 104 => 105 | 211 => 127 | 207 => 156 | n => n, fun | 9 => 9 | 4 => 4 | 24 => 152 | 3 => 3 | n => n, fun | n => n⟩
theorem Tryz.lays104 : Go.Proofs.Lays.n104 Tryz.prog Tryz.lays104_ren := {
  mixed := by kernel_rfl
  f104 := Tryz.func105.trans (congrArg some (by kernel_rfl))
  f207 := Tryz.func156.trans (congrArg some (by kernel_rfl))
  f211 := Tryz.func127.trans (congrArg some (by kernel_rfl))
  t3 := Tryz.underlying3
  a3 := Tryz.isAgg3
  z3 := Tryz.sizeOf3
  v3 := Tryz.zeroValue3
  t4 := Tryz.underlying4
  a4 := Tryz.isAgg4
  z4 := Tryz.sizeOf4
  v4 := Tryz.zeroValue4
  t9 := Tryz.underlying9
  a9 := Tryz.isAgg9
  z9 := Tryz.sizeOf9
  v9 := Tryz.zeroValue9
  t24 := Tryz.underlying152
  a24 := Tryz.isAgg152
  z24 := Tryz.sizeOf152
  v24 := Tryz.zeroValue152 }
open Go.RowKit in
/-- strings.CutSuffix: "CutSuffix returns s without the provided ending suffix string and reports whether it found the suffix. If s doesn't end with suffix, CutSuffix returns s, false. If suffix is the empty string, CutSuffix returns s, true.": IT RETURNS '(Lib.trimSuffix s p, Lib.hasSuffix s p)'; the world is as it was. (LAID: no walk: one application.) -/
theorem Tryz.strings_CutSuffix (s p : ByteArray) (w : World) (hs : s.size ≤ 9223372036854775807) :
    Calls Tryz.prog 105 #[.string s, .string p] w fun e w' => e = .returned (.tuple #[.string ⟨(Lib.trimSuffix s.data.toList p.data.toList).toArray⟩, .bool (Lib.hasSuffix s.data.toList p.data.toList)]) ∧ w' = w := Any.strings_CutSuffix Tryz.lays104 s p w hs
open Go.RowKit in
open Go.RowKit in
open Go.RowKit in
open Go.RowKit in
open Go.Lib in
open Go.Lib in
open Go.Lib in
open Go.Lib in
open Go.RowKit Go.Sort Go.Lib in
open Go.RowKit Go.Sort Go.Lib in
open Go.RowKit Go.Sort Go.Lib in
open Go.RowKit Go.Sort Go.Lib in
open Go.RowKit Go.Sort Go.Lib in
def Tryz.laysM171_ren : Go.Shelf.Ren := ⟨fun | 171 => 93 | 243 => 118 | 246 => 141 | 283 => 174 | 284 => 175 | 285 => 176 | 286 => 177 | 129 => 152 | 317 => 201 | 318 => 202 | 319 => 203 | 320 => 204 | 337 => 210 | 338 => 211 | n => n, fun | 3 => 3 | 9 => 9 | 2 => 2 | 4 => 4 | 171 => 211 | 0 => 0 | 53 => 195 | 37 => 164 | 5 => 5 | 173 => 213 | 212 => 233 | 51 => 193 | 20 => 20 | 213 => 234 | 46 => 75 | 232 => 245 | 233 => 246 | n => n, fun | 17 => 9 | 18 => 12 | 19 => 13 | n => n⟩
theorem Tryz.laysM171 : Go.Proofs.LaysM.n171 Tryz.prog Tryz.laysM171_ren := {
  mixed := by kernel_rfl
  f129 := Tryz.func152.trans (congrArg some (by kernel_rfl))
  f171 := Tryz.func93.trans (congrArg some (by kernel_rfl))
  f243 := Tryz.func118.trans (congrArg some (by kernel_rfl))
  f246 := Tryz.func141.trans (congrArg some (by kernel_rfl))
  f283 := Tryz.func174.trans (congrArg some (by kernel_rfl))
  f284 := Tryz.func175.trans (congrArg some (by kernel_rfl))
  f285 := Tryz.func176.trans (congrArg some (by kernel_rfl))
  f286 := Tryz.func177.trans (congrArg some (by kernel_rfl))
  f317 := Tryz.func201.trans (congrArg some (by kernel_rfl))
  f318 := Tryz.func202.trans (congrArg some (by kernel_rfl))
  f319 := Tryz.func203.trans (congrArg some (by kernel_rfl))
  f320 := Tryz.func204.trans (congrArg some (by kernel_rfl))
  f337 := Tryz.func210.trans (congrArg some (by kernel_rfl))
  f338 := Tryz.func211.trans (congrArg some (by kernel_rfl))
  t0 := Tryz.underlying0
  a0 := Tryz.isAgg0
  z0 := Tryz.sizeOf0
  v0 := Tryz.zeroValue0
  t2 := Tryz.underlying2
  a2 := Tryz.isAgg2
  z2 := Tryz.sizeOf2
  v2 := Tryz.zeroValue2
  t3 := Tryz.underlying3
  a3 := Tryz.isAgg3
  z3 := Tryz.sizeOf3
  v3 := Tryz.zeroValue3
  t4 := Tryz.underlying4
  a4 := Tryz.isAgg4
  z4 := Tryz.sizeOf4
  v4 := Tryz.zeroValue4
  t5 := Tryz.underlying5
  a5 := Tryz.isAgg5
  z5 := Tryz.sizeOf5
  v5 := Tryz.zeroValue5
  t9 := Tryz.underlying9
  a9 := Tryz.isAgg9
  z9 := Tryz.sizeOf9
  v9 := Tryz.zeroValue9
  t20 := Tryz.underlying20
  a20 := Tryz.isAgg20
  z20 := Tryz.sizeOf20
  v20 := Tryz.zeroValue20
  t37 := Tryz.underlying164
  a37 := Tryz.isAgg164
  z37 := Tryz.sizeOf164
  v37 := Tryz.zeroValue164
  t46 := Tryz.underlying75
  a46 := Tryz.isAgg75
  z46 := Tryz.sizeOf75
  v46 := Tryz.zeroValue75
  t51 := Tryz.underlying193
  a51 := Tryz.isAgg193
  z51 := Tryz.sizeOf193
  v51 := Tryz.zeroValue193
  t53 := Tryz.underlying195
  a53 := Tryz.isAgg195
  z53 := Tryz.sizeOf195
  v53 := Tryz.zeroValue195
  t171 := Tryz.underlying211
  a171 := Tryz.isAgg211
  z171 := Tryz.sizeOf211
  v171 := Tryz.zeroValue211
  t173 := Tryz.underlying213
  a173 := Tryz.isAgg213
  z173 := Tryz.sizeOf213
  v173 := Tryz.zeroValue213
  t212 := Tryz.underlying233
  a212 := Tryz.isAgg233
  z212 := Tryz.sizeOf233
  v212 := Tryz.zeroValue233
  t213 := Tryz.underlying234
  a213 := Tryz.isAgg234
  z213 := Tryz.sizeOf234
  t232 := Tryz.underlying245
  a232 := Tryz.isAgg245
  z232 := Tryz.sizeOf245
  v232 := Tryz.zeroValue245
  t233 := Tryz.underlying246
  a233 := Tryz.isAgg246
  z233 := Tryz.sizeOf246
  v233 := Tryz.zeroValue246
  g17 := by kernel_rfl
  g18 := by kernel_rfl
  g19 := by kernel_rfl
  i0 := by kernel_rfl
  i2 := by kernel_rfl
  i3 := by kernel_rfl
  i4 := by kernel_rfl
  i5 := by kernel_rfl
  i9 := by kernel_rfl
  i20 := by kernel_rfl
  i37 := by kernel_rfl
  i46 := by kernel_rfl
  i51 := by kernel_rfl
  i53 := by kernel_rfl
  i171 := by kernel_rfl
  i173 := by kernel_rfl
  i212 := by kernel_rfl
  i232 := by kernel_rfl
  i233 := by kernel_rfl
  m17 := by kernel_rfl
  m18 := by kernel_rfl
  m19 := by kernel_rfl }
open Go.RowKit Go.Sort Go.Lib in
/-- strconv.Itoa: "Itoa is equivalent to FormatInt(int64(i), 10).": i's DECIMAL NUMERAL ('Lib.itoa': a '-' where i is negative, then the digits), FOR EVERY int. The world behind the call: the world before it, new blocks behind the heap (the library's 'var a [24]byte'), draws. (LAID: no walk: one application.) -/
theorem Tryz.strconv_Itoa (n : Int) (h0 : -9223372036854775808 ≤ n) (h1 : n ≤ 9223372036854775807) (w : World) (htab : Lib.TabIs Tryz.prog w "internal/strconv.uint64pow10" .u64 Lib.pow10Tab) :
    Calls Tryz.prog 93 #[.int .i64 n] w fun e w' => e = .returned (.string ⟨(Lib.itoa n).toArray⟩) ∧ ∃ k os, w' = grow (w.drewN k) os := Any.strconv_Itoa Tryz.laysM171 n h0 h1 w htab
open Go.RowKit Go.Sort Go.Lib in
open Go.RowKit in
open Go.RowKit in
open Go.RowKit in
open Go.RowKit in
open Go.RowKit in
open Go.RowKit in
open Go.RowKit in
open Go.RowKit in
open Go.RowKit in
open Go.RowKit in
open Go.RowKit in
open Go.RowKit in
open Go.RowKit in
open Go.RowKit in
open Go.RowKit in
open Go.RowKit in
def Tryz.laysC172_ren : Go.Shelf.Ren := ⟨fun | 172 => 92 | 244 => 116 | 245 => 117 | 247 => 136 | 279 => 137 | 280 => 138 | 281 => 139 | 282 => 140 | 287 => 171 | 316 => 172 | 171 => 93 | 205 => 173 | 321 => 199 | 322 => 200 | 243 => 118 | 246 => 141 | 283 => 174 | 284 => 175 | 285 => 176 | 286 => 177 | 129 => 152 | 317 => 201 | 318 => 202 | 319 => 203 | 320 => 204 | 337 => 210 | 338 => 211 | n => n, fun | 9 => 9 | 3 => 3 | 75 => 30 | 76 => 133 | 4 => 4 | 5 => 5 | 167 => 178 | 37 => 164 | 0 => 0 | 85 => 179 | 2 => 2 | 168 => 181 | 53 => 195 | 175 => 205 | 46 => 75 | 210 => 209 | 127 => 196 | 145 => 231 | 143 => 229 | 21 => 21 | 171 => 211 | 173 => 213 | 212 => 233 | 51 => 193 | 20 => 20 | 213 => 234 | 232 => 245 | 233 => 246 | 80 => 154 | n => n, fun | 15 => 6 | 16 => 7 | 17 => 9 | 18 => 12 | 19 => 13 | n => n⟩
theorem Tryz.laysC172 : Go.Proofs.LaysC.n172 Tryz.prog Tryz.laysC172_ren := {
  mixed := by kernel_rfl
  f129 := Tryz.func152.trans (congrArg some (by kernel_rfl))
  f171 := Tryz.func93.trans (congrArg some (by kernel_rfl))
  f172 := Tryz.func92.trans (congrArg some (by kernel_rfl))
  f205 := Tryz.func173.trans (congrArg some (by kernel_rfl))
  f243 := Tryz.func118.trans (congrArg some (by kernel_rfl))
  f244 := Tryz.func116.trans (congrArg some (by kernel_rfl))
  f245 := Tryz.func117.trans (congrArg some (by kernel_rfl))
  f246 := Tryz.func141.trans (congrArg some (by kernel_rfl))
  f247 := Tryz.func136.trans (congrArg some (by kernel_rfl))
  f279 := Tryz.func137.trans (congrArg some (by kernel_rfl))
  f280 := Tryz.func138.trans (congrArg some (by kernel_rfl))
  f281 := Tryz.func139.trans (congrArg some (by kernel_rfl))
  f282 := Tryz.func140.trans (congrArg some (by kernel_rfl))
  f283 := Tryz.func174.trans (congrArg some (by kernel_rfl))
  f284 := Tryz.func175.trans (congrArg some (by kernel_rfl))
  f285 := Tryz.func176.trans (congrArg some (by kernel_rfl))
  f286 := Tryz.func177.trans (congrArg some (by kernel_rfl))
  f287 := Tryz.func171.trans (congrArg some (by kernel_rfl))
  f316 := Tryz.func172.trans (congrArg some (by kernel_rfl))
  f317 := Tryz.func201.trans (congrArg some (by kernel_rfl))
  f318 := Tryz.func202.trans (congrArg some (by kernel_rfl))
  f319 := Tryz.func203.trans (congrArg some (by kernel_rfl))
  f320 := Tryz.func204.trans (congrArg some (by kernel_rfl))
  f321 := Tryz.func199.trans (congrArg some (by kernel_rfl))
  f322 := Tryz.func200.trans (congrArg some (by kernel_rfl))
  f337 := Tryz.func210.trans (congrArg some (by kernel_rfl))
  f338 := Tryz.func211.trans (congrArg some (by kernel_rfl))
  t0 := Tryz.underlying0
  a0 := Tryz.isAgg0
  z0 := Tryz.sizeOf0
  v0 := Tryz.zeroValue0
  t2 := Tryz.underlying2
  a2 := Tryz.isAgg2
  z2 := Tryz.sizeOf2
  v2 := Tryz.zeroValue2
  t3 := Tryz.underlying3
  a3 := Tryz.isAgg3
  z3 := Tryz.sizeOf3
  v3 := Tryz.zeroValue3
  t4 := Tryz.underlying4
  a4 := Tryz.isAgg4
  z4 := Tryz.sizeOf4
  v4 := Tryz.zeroValue4
  t5 := Tryz.underlying5
  a5 := Tryz.isAgg5
  z5 := Tryz.sizeOf5
  v5 := Tryz.zeroValue5
  t9 := Tryz.underlying9
  a9 := Tryz.isAgg9
  z9 := Tryz.sizeOf9
  v9 := Tryz.zeroValue9
  t20 := Tryz.underlying20
  a20 := Tryz.isAgg20
  z20 := Tryz.sizeOf20
  v20 := Tryz.zeroValue20
  t21 := Tryz.underlying21
  a21 := Tryz.isAgg21
  z21 := Tryz.sizeOf21
  v21 := Tryz.zeroValue21
  t37 := Tryz.underlying164
  a37 := Tryz.isAgg164
  z37 := Tryz.sizeOf164
  v37 := Tryz.zeroValue164
  t46 := Tryz.underlying75
  a46 := Tryz.isAgg75
  z46 := Tryz.sizeOf75
  v46 := Tryz.zeroValue75
  t51 := Tryz.underlying193
  a51 := Tryz.isAgg193
  z51 := Tryz.sizeOf193
  v51 := Tryz.zeroValue193
  t53 := Tryz.underlying195
  a53 := Tryz.isAgg195
  z53 := Tryz.sizeOf195
  v53 := Tryz.zeroValue195
  t75 := Tryz.underlying30
  a75 := Tryz.isAgg30
  z75 := Tryz.sizeOf30
  v75 := Tryz.zeroValue30
  t76 := Tryz.underlying133
  a76 := Tryz.isAgg133
  z76 := Tryz.sizeOf133
  v76 := Tryz.zeroValue133
  t85 := Tryz.underlying179
  a85 := Tryz.isAgg179
  z85 := Tryz.sizeOf179
  v85 := Tryz.zeroValue179
  t127 := Tryz.underlying196
  a127 := Tryz.isAgg196
  z127 := Tryz.sizeOf196
  v127 := Tryz.zeroValue196
  t143 := Tryz.underlying229
  a143 := Tryz.isAgg229
  z143 := Tryz.sizeOf229
  v143 := Tryz.zeroValue229
  t145 := Tryz.underlying231
  a145 := Tryz.isAgg231
  z145 := Tryz.sizeOf231
  v145 := Tryz.zeroValue231
  t167 := Tryz.underlying178
  a167 := Tryz.isAgg178
  z167 := Tryz.sizeOf178
  v167 := Tryz.zeroValue178
  t168 := Tryz.underlying181
  a168 := Tryz.isAgg181
  z168 := Tryz.sizeOf181
  v168 := Tryz.zeroValue181
  t171 := Tryz.underlying211
  a171 := Tryz.isAgg211
  z171 := Tryz.sizeOf211
  v171 := Tryz.zeroValue211
  t173 := Tryz.underlying213
  a173 := Tryz.isAgg213
  z173 := Tryz.sizeOf213
  v173 := Tryz.zeroValue213
  t175 := Tryz.underlying205
  a175 := Tryz.isAgg205
  z175 := Tryz.sizeOf205
  v175 := Tryz.zeroValue205
  t210 := Tryz.underlying209
  a210 := Tryz.isAgg209
  z210 := Tryz.sizeOf209
  v210 := Tryz.zeroValue209
  t212 := Tryz.underlying233
  a212 := Tryz.isAgg233
  z212 := Tryz.sizeOf233
  v212 := Tryz.zeroValue233
  t213 := Tryz.underlying234
  a213 := Tryz.isAgg234
  z213 := Tryz.sizeOf234
  t232 := Tryz.underlying245
  a232 := Tryz.isAgg245
  z232 := Tryz.sizeOf245
  v232 := Tryz.zeroValue245
  t233 := Tryz.underlying246
  a233 := Tryz.isAgg246
  z233 := Tryz.sizeOf246
  v233 := Tryz.zeroValue246
  g15 := by kernel_rfl
  g16 := by kernel_rfl
  g17 := by kernel_rfl
  g18 := by kernel_rfl
  g19 := by kernel_rfl
  t80 := Tryz.underlying154
  a80 := Tryz.isAgg154
  z80 := Tryz.sizeOf154
  v80 := Tryz.zeroValue154
  i0 := by kernel_rfl
  i2 := by kernel_rfl
  i3 := by kernel_rfl
  i4 := by kernel_rfl
  i5 := by kernel_rfl
  i9 := by kernel_rfl
  i20 := by kernel_rfl
  i21 := by kernel_rfl
  i37 := by kernel_rfl
  i46 := by kernel_rfl
  i51 := by kernel_rfl
  i53 := by kernel_rfl
  i75 := by kernel_rfl
  i76 := by kernel_rfl
  i80 := by kernel_rfl
  i85 := by kernel_rfl
  i127 := by kernel_rfl
  i143 := by kernel_rfl
  i145 := by kernel_rfl
  i167 := by kernel_rfl
  i168 := by kernel_rfl
  i171 := by kernel_rfl
  i173 := by kernel_rfl
  i175 := by kernel_rfl
  i210 := by kernel_rfl
  i212 := by kernel_rfl
  i232 := by kernel_rfl
  i233 := by kernel_rfl
  m15 := by kernel_rfl
  m16 := by kernel_rfl
  m17 := by kernel_rfl
  m18 := by kernel_rfl
  m19 := by kernel_rfl
  c0 := by kernel_rfl
  c2 := by kernel_rfl
  c3 := by kernel_rfl
  c4 := by kernel_rfl
  c5 := by kernel_rfl
  c9 := by kernel_rfl
  c20 := by kernel_rfl
  c21 := by kernel_rfl
  c37 := by kernel_rfl
  c46 := by kernel_rfl
  c51 := by kernel_rfl
  c53 := by kernel_rfl
  c75 := by kernel_rfl
  c76 := by kernel_rfl
  c80 := by kernel_rfl
  c85 := by kernel_rfl
  c127 := by kernel_rfl
  c143 := by kernel_rfl
  c145 := by kernel_rfl
  c167 := by kernel_rfl
  c168 := by kernel_rfl
  c171 := by kernel_rfl
  c173 := by kernel_rfl
  c175 := by kernel_rfl
  c210 := by kernel_rfl
  c212 := by kernel_rfl
  c213 := by kernel_rfl
  c232 := by kernel_rfl
  c233 := by kernel_rfl }
open Go.RowKit in
/-- strconv.Atoi, AT EVERY STRING THAT SPELLS AN int ('Lib.atoiAll .. = .ok v'; of whatever length: leading zeros count): v, AND NO ERROR. The world: as it was, or with the one new row that '[]byte(..)' lays. (LAID: no walk: one application.) -/
theorem Tryz.strconv_Atoi_ok (s : ByteArray) (hmax : s.size ≤ 9223372036854775806) (v : Int) (h : Lib.atoiAll s.data.toList = .ok v) (w : World) :
    Calls Tryz.prog 92 #[.string s] w fun e w' => e = .returned (.tuple #[.int .i64 v, .nilIface]) ∧ (w' = w ∨ ∃ t, w' = Lib.bytesWorld w 5 t) := Any.strconv_Atoi_ok Tryz.laysC172 s hmax v h w
open Go.RowKit in
/-- strconv.Atoi, AT EVERY STRING THAT IS NO DECIMAL NUMERAL ('.syntax'): 0, AND AN ERROR THAT IS NOT nil: a *NumError in a new block N: {Func: "Atoi", Num: s's bytes, Err: what the variable ErrSyntax holds}. Of what was there nothing has turned. (LAID: no walk: one application.) -/
theorem Tryz.strconv_Atoi_syntax (s : ByteArray) (hlim : s.size ≤ 281474976710656) (h : Lib.atoiAll s.data.toList = .«syntax») (ev : Value) (w : World) (hv : w.cell? ⟨6, 0, none⟩ = some ev) (hev : ev = .nilIface ∨ ∃ te pe, ev = .iface te pe) :
    Calls Tryz.prog 92 #[.string s] w fun e w' => ∃ N, e = .returned (.tuple #[.int .i64 (0), .iface 181 (.pointer (some ⟨N, 0, none⟩))]) ∧ w.heap.size ≤ N ∧ w'.heap[N]? = some (.cells #[.string ⟨#[65, 116, 111, 105]⟩, .string s, ev] 209 (0, 0)) ∧ Below w.heap.size w w' := Any.strconv_Atoi_syntax Tryz.laysC172 s hlim h ev w hv hev
open Go.RowKit in
/-- strconv.Atoi, AT EVERY NUMERAL THAT NO int HOLDS ('.range'): THE GREATEST OR THE LEAST int, BY THE SIGN ('Lib.atoiSat'), AND AN ERROR THAT IS NOT nil: a *NumError in a new block N: {Func: "Atoi", Num: s's bytes, Err: what the variable ErrRange holds}. Of what was there nothing has turned. (LAID: no walk: one application.) -/
theorem Tryz.strconv_Atoi_range (s : ByteArray) (hlim : s.size ≤ 281474976710656) (h : Lib.atoiAll s.data.toList = .range) (ev : Value) (w : World) (hv : w.cell? ⟨7, 0, none⟩ = some ev) (hev : ev = .nilIface ∨ ∃ te pe, ev = .iface te pe) :
    Calls Tryz.prog 92 #[.string s] w fun e w' => ∃ N, e = .returned (.tuple #[.int .i64 (Lib.atoiSat s.data.toList), .iface 181 (.pointer (some ⟨N, 0, none⟩))]) ∧ w.heap.size ≤ N ∧ w'.heap[N]? = some (.cells #[.string ⟨#[65, 116, 111, 105]⟩, .string s, ev] 209 (0, 0)) ∧ Below w.heap.size w w' := Any.strconv_Atoi_range Tryz.laysC172 s hlim h ev w hv hev
open Go.RowKit in
open Go.RowKit in
open Go.RowKit Go.Lib in
open Go.RowKit Go.Lib in
open Go.RowKit Go.Lib in
open Go.RowKit Go.Lib in
open Go.RowKit Go.Lib in
open Go.RowKit Go.Lib in
open Go.RowKit Go.Lib in
open Go.RowKit Go.Lib in
open Go.RowKit Go.Lib in
def Tryz.lays145_ren : Go.Shelf.Ren := ⟨fun | 145 => 111 | 220 => 132 | 219 => 161 | 217 => 191 | 225 => 192 | 224 => 193 | 267 => 194 | 266 => 207 | 314 => 208 | n => n, fun | 9 => 9 | 4 => 4 | 59 => 160 | 3 => 3 | 5 => 5 | 46 => 75 | 146 => 238 | 51 => 193 | n => n, fun | 1 => 8 | n => n⟩
theorem Tryz.lays145 : Go.Proofs.Lays.n145 Tryz.prog Tryz.lays145_ren := {
  mixed := by kernel_rfl
  f145 := Tryz.func111.trans (congrArg some (by kernel_rfl))
  f217 := Tryz.func191.trans (congrArg some (by kernel_rfl))
  f219 := Tryz.func161.trans (congrArg some (by kernel_rfl))
  f220 := Tryz.func132.trans (congrArg some (by kernel_rfl))
  f224 := Tryz.func193.trans (congrArg some (by kernel_rfl))
  f225 := Tryz.func192.trans (congrArg some (by kernel_rfl))
  f266 := Tryz.func207.trans (congrArg some (by kernel_rfl))
  f267 := Tryz.func194.trans (congrArg some (by kernel_rfl))
  f314 := Tryz.func208.trans (congrArg some (by kernel_rfl))
  t3 := Tryz.underlying3
  a3 := Tryz.isAgg3
  z3 := Tryz.sizeOf3
  v3 := Tryz.zeroValue3
  t4 := Tryz.underlying4
  a4 := Tryz.isAgg4
  z4 := Tryz.sizeOf4
  v4 := Tryz.zeroValue4
  t5 := Tryz.underlying5
  a5 := Tryz.isAgg5
  z5 := Tryz.sizeOf5
  v5 := Tryz.zeroValue5
  t9 := Tryz.underlying9
  a9 := Tryz.isAgg9
  z9 := Tryz.sizeOf9
  v9 := Tryz.zeroValue9
  t46 := Tryz.underlying75
  a46 := Tryz.isAgg75
  z46 := Tryz.sizeOf75
  v46 := Tryz.zeroValue75
  t51 := Tryz.underlying193
  a51 := Tryz.isAgg193
  z51 := Tryz.sizeOf193
  v51 := Tryz.zeroValue193
  t59 := Tryz.underlying160
  a59 := Tryz.isAgg160
  z59 := Tryz.sizeOf160
  v59 := Tryz.zeroValue160
  t146 := Tryz.underlying238
  a146 := Tryz.isAgg238
  z146 := Tryz.sizeOf238
  v146 := Tryz.zeroValue238
  g1 := by kernel_rfl }
open Go.RowKit Go.Lib in
/-- strings.Cut: "Cut slices s around the first instance of sep, returning the text before and after sep. The found result reports whether sep appears in s. If sep does not appear in s, cut returns s, "", false.": IT RETURNS 'Lib.cut s sep'; the world is as it was but for the count of draws. (LAID: no walk: one application.) -/
theorem Tryz.strings_Cut (s sep : ByteArray) (m : Int) (w : World) (hs : s.size < 4294967281) (hm : w.cell? ⟨8, 0, none⟩ = some (.int .i64 m)) :
    Calls Tryz.prog 111 #[.string s, .string sep] w fun e w' => e = .returned (.tuple #[.string ⟨(Lib.cut s.data.toList sep.data.toList).1.toArray⟩, .string ⟨(Lib.cut s.data.toList sep.data.toList).2.1.toArray⟩, .bool (Lib.cut s.data.toList sep.data.toList).2.2]) ∧ ∃ n, w' = w.drewN n := Any.strings_Cut Tryz.lays145 s sep m w hs hm
open Go.RowKit Go.Lib in
open Go.RowKit Go.Lib in
open Go.RowKit Go.Lib in
open Go.RowKit Go.Lib in
open Go.RowKit Go.Lib in
open Go.RowKit Go.Lib in
open Go.RowKit Go.Lib in
def Tryz.lays189_ren : Go.Shelf.Ren := ⟨fun | 189 => 96 | 125 => 121 | 257 => 120 | 128 => 151 | 129 => 152 | 294 => 142 | 295 => 143 | 296 => 144 | 297 => 145 | 298 => 146 | 299 => 147 | 216 => 148 | 300 => 149 | 301 => 150 | 328 => 178 | 329 => 179 | 330 => 180 | 331 => 181 | 332 => 182 | 215 => 183 | 343 => 205 | n => n, fun | 28 => 22 | 3 => 3 | 46 => 75 | 0 => 0 | 51 => 193 | 53 => 195 | 4 => 4 | 183 => 187 | 182 => 186 | 131 => 85 | 5 => 5 | 9 => 9 | 218 => 215 | 222 => 218 | 228 => 235 | 229 => 236 | n => n, fun | n => n⟩
theorem Tryz.lays189 : Go.Proofs.Lays.n189 Tryz.prog Tryz.lays189_ren := {
  mixed := by kernel_rfl
  f125 := Tryz.func121.trans (congrArg some (by kernel_rfl))
  f128 := Tryz.func151.trans (congrArg some (by kernel_rfl))
  f129 := Tryz.func152.trans (congrArg some (by kernel_rfl))
  f189 := Tryz.func96.trans (congrArg some (by kernel_rfl))
  f215 := Tryz.func183.trans (congrArg some (by kernel_rfl))
  f216 := Tryz.func148.trans (congrArg some (by kernel_rfl))
  f257 := Tryz.func120.trans (congrArg some (by kernel_rfl))
  f294 := Tryz.func142.trans (congrArg some (by kernel_rfl))
  f295 := Tryz.func143.trans (congrArg some (by kernel_rfl))
  f296 := Tryz.func144.trans (congrArg some (by kernel_rfl))
  f297 := Tryz.func145.trans (congrArg some (by kernel_rfl))
  f298 := Tryz.func146.trans (congrArg some (by kernel_rfl))
  f299 := Tryz.func147.trans (congrArg some (by kernel_rfl))
  f300 := Tryz.func149.trans (congrArg some (by kernel_rfl))
  f301 := Tryz.func150.trans (congrArg some (by kernel_rfl))
  f328 := Tryz.func178.trans (congrArg some (by kernel_rfl))
  f329 := Tryz.func179.trans (congrArg some (by kernel_rfl))
  f330 := Tryz.func180.trans (congrArg some (by kernel_rfl))
  f331 := Tryz.func181.trans (congrArg some (by kernel_rfl))
  f332 := Tryz.func182.trans (congrArg some (by kernel_rfl))
  f343 := Tryz.func205.trans (congrArg some (by kernel_rfl))
  t0 := Tryz.underlying0
  a0 := Tryz.isAgg0
  z0 := Tryz.sizeOf0
  v0 := Tryz.zeroValue0
  t3 := Tryz.underlying3
  a3 := Tryz.isAgg3
  z3 := Tryz.sizeOf3
  v3 := Tryz.zeroValue3
  t4 := Tryz.underlying4
  a4 := Tryz.isAgg4
  z4 := Tryz.sizeOf4
  v4 := Tryz.zeroValue4
  t5 := Tryz.underlying5
  a5 := Tryz.isAgg5
  z5 := Tryz.sizeOf5
  v5 := Tryz.zeroValue5
  t9 := Tryz.underlying9
  a9 := Tryz.isAgg9
  z9 := Tryz.sizeOf9
  v9 := Tryz.zeroValue9
  t28 := Tryz.underlying22
  a28 := Tryz.isAgg22
  z28 := Tryz.sizeOf22
  v28 := Tryz.zeroValue22
  t46 := Tryz.underlying75
  a46 := Tryz.isAgg75
  z46 := Tryz.sizeOf75
  v46 := Tryz.zeroValue75
  t51 := Tryz.underlying193
  a51 := Tryz.isAgg193
  z51 := Tryz.sizeOf193
  v51 := Tryz.zeroValue193
  t53 := Tryz.underlying195
  a53 := Tryz.isAgg195
  z53 := Tryz.sizeOf195
  v53 := Tryz.zeroValue195
  t131 := Tryz.underlying85
  a131 := Tryz.isAgg85
  z131 := Tryz.sizeOf85
  v131 := Tryz.zeroValue85
  t182 := Tryz.underlying186
  a182 := Tryz.isAgg186
  z182 := Tryz.sizeOf186
  v182 := Tryz.zeroValue186
  t183 := Tryz.underlying187
  a183 := Tryz.isAgg187
  z183 := Tryz.sizeOf187
  v183 := Tryz.zeroValue187
  t218 := Tryz.underlying215
  a218 := Tryz.isAgg215
  z218 := Tryz.sizeOf215
  v218 := Tryz.zeroValue215
  t222 := Tryz.underlying218
  a222 := Tryz.isAgg218
  z222 := Tryz.sizeOf218
  v222 := Tryz.zeroValue218
  t228 := Tryz.underlying235
  a228 := Tryz.isAgg235
  z228 := Tryz.sizeOf235
  v228 := Tryz.zeroValue235
  t229 := Tryz.underlying236
  a229 := Tryz.isAgg236
  z229 := Tryz.sizeOf236
  v229 := Tryz.zeroValue236 }
open Go.Sort Go.RowKit in
theorem Tryz.slices_Sort_int (blk off cap : Nat) (zs : List Int) (w : World) (hH : Holds (Value.int .i64) w blk off zs.toArray) (hblk : blk < w.heap.size) (hsz : zs.length < 4611686018427387904) :
    Calls Tryz.prog 96 #[.slice (some ⟨blk, off, none⟩) zs.length cap] w fun e w' =>
      e = .returned (.tuple #[]) ∧ ∃ n os, w' = grow (putRow (Value.int .i64) (Sort.ahead w n) blk off (zs.mergeSort fun x y => decide (x ≤ y)).toArray) os := Any.slices_Sort_int Tryz.lays189 blk off cap zs w hH hblk hsz
def Tryz.lays190_ren : Go.Shelf.Ren := ⟨fun | 190 => 114 | 125 => 121 | 258 => 135 | 128 => 151 | 129 => 152 | 302 => 162 | 303 => 163 | 304 => 164 | 305 => 165 | 306 => 166 | 307 => 167 | 308 => 168 | 309 => 169 | 310 => 170 | 333 => 195 | 329 => 179 | 330 => 180 | 334 => 196 | 335 => 197 | 336 => 198 | 344 => 209 | n => n, fun | 31 => 59 | 9 => 9 | 3 => 3 | 46 => 75 | 0 => 0 | 51 => 193 | 53 => 195 | 4 => 4 | 183 => 187 | 182 => 186 | 131 => 85 | 5 => 5 | 218 => 215 | 222 => 218 | 228 => 235 | 229 => 236 | n => n, fun | n => n⟩
theorem Tryz.lays190 : Go.Proofs.Lays.n190 Tryz.prog Tryz.lays190_ren := {
  mixed := by kernel_rfl
  f125 := Tryz.func121.trans (congrArg some (by kernel_rfl))
  f128 := Tryz.func151.trans (congrArg some (by kernel_rfl))
  f129 := Tryz.func152.trans (congrArg some (by kernel_rfl))
  f190 := Tryz.func114.trans (congrArg some (by kernel_rfl))
  f258 := Tryz.func135.trans (congrArg some (by kernel_rfl))
  f302 := Tryz.func162.trans (congrArg some (by kernel_rfl))
  f303 := Tryz.func163.trans (congrArg some (by kernel_rfl))
  f304 := Tryz.func164.trans (congrArg some (by kernel_rfl))
  f305 := Tryz.func165.trans (congrArg some (by kernel_rfl))
  f306 := Tryz.func166.trans (congrArg some (by kernel_rfl))
  f307 := Tryz.func167.trans (congrArg some (by kernel_rfl))
  f308 := Tryz.func168.trans (congrArg some (by kernel_rfl))
  f309 := Tryz.func169.trans (congrArg some (by kernel_rfl))
  f310 := Tryz.func170.trans (congrArg some (by kernel_rfl))
  f329 := Tryz.func179.trans (congrArg some (by kernel_rfl))
  f330 := Tryz.func180.trans (congrArg some (by kernel_rfl))
  f333 := Tryz.func195.trans (congrArg some (by kernel_rfl))
  f334 := Tryz.func196.trans (congrArg some (by kernel_rfl))
  f335 := Tryz.func197.trans (congrArg some (by kernel_rfl))
  f336 := Tryz.func198.trans (congrArg some (by kernel_rfl))
  f344 := Tryz.func209.trans (congrArg some (by kernel_rfl))
  t0 := Tryz.underlying0
  a0 := Tryz.isAgg0
  z0 := Tryz.sizeOf0
  v0 := Tryz.zeroValue0
  t3 := Tryz.underlying3
  a3 := Tryz.isAgg3
  z3 := Tryz.sizeOf3
  v3 := Tryz.zeroValue3
  t4 := Tryz.underlying4
  a4 := Tryz.isAgg4
  z4 := Tryz.sizeOf4
  v4 := Tryz.zeroValue4
  t5 := Tryz.underlying5
  a5 := Tryz.isAgg5
  z5 := Tryz.sizeOf5
  v5 := Tryz.zeroValue5
  t9 := Tryz.underlying9
  a9 := Tryz.isAgg9
  z9 := Tryz.sizeOf9
  v9 := Tryz.zeroValue9
  t31 := Tryz.underlying59
  a31 := Tryz.isAgg59
  z31 := Tryz.sizeOf59
  v31 := Tryz.zeroValue59
  t46 := Tryz.underlying75
  a46 := Tryz.isAgg75
  z46 := Tryz.sizeOf75
  v46 := Tryz.zeroValue75
  t51 := Tryz.underlying193
  a51 := Tryz.isAgg193
  z51 := Tryz.sizeOf193
  v51 := Tryz.zeroValue193
  t53 := Tryz.underlying195
  a53 := Tryz.isAgg195
  z53 := Tryz.sizeOf195
  v53 := Tryz.zeroValue195
  t131 := Tryz.underlying85
  a131 := Tryz.isAgg85
  z131 := Tryz.sizeOf85
  v131 := Tryz.zeroValue85
  t182 := Tryz.underlying186
  a182 := Tryz.isAgg186
  z182 := Tryz.sizeOf186
  v182 := Tryz.zeroValue186
  t183 := Tryz.underlying187
  a183 := Tryz.isAgg187
  z183 := Tryz.sizeOf187
  v183 := Tryz.zeroValue187
  t218 := Tryz.underlying215
  a218 := Tryz.isAgg215
  z218 := Tryz.sizeOf215
  v218 := Tryz.zeroValue215
  t222 := Tryz.underlying218
  a222 := Tryz.isAgg218
  z222 := Tryz.sizeOf218
  v222 := Tryz.zeroValue218
  t228 := Tryz.underlying235
  a228 := Tryz.isAgg235
  z228 := Tryz.sizeOf235
  v228 := Tryz.zeroValue235
  t229 := Tryz.underlying236
  a229 := Tryz.isAgg236
  z229 := Tryz.sizeOf236
  v229 := Tryz.zeroValue236 }
open Go.Sort Go.RowKit in
theorem Tryz.slices_Sort_string (blk off cap : Nat) (ss : List (List UInt8)) (w : World) (hH : Holds encStr w blk off ss.toArray) (hblk : blk < w.heap.size) (hsz : ss.length < 4611686018427387904) :
    Calls Tryz.prog 114 #[.slice (some ⟨blk, off, none⟩) ss.length cap] w fun e w' =>
      e = .returned (.tuple #[]) ∧ ∃ n os, w' = grow (putRow encStr (Sort.ahead w n) blk off (ss.mergeSort fun x y => decide (x ≤ y)).toArray) os := Any.slices_Sort_string Tryz.lays190 blk off cap ss w hH hblk hsz
open Go.RowKit Go.Lib in
open Go.RowKit Go.Lib in
open Go.RowKit Go.Lib in
def Tryz.lays102_ren : Go.Shelf.Ren := ⟨fun | 102 => 112 | 209 => 133 | 207 => 156 | n => n, fun | 9 => 9 | 4 => 4 | 3 => 3 | n => n, fun | n => n⟩
theorem Tryz.lays102 : Go.Proofs.Lays.n102 Tryz.prog Tryz.lays102_ren := {
  mixed := by kernel_rfl
  f102 := Tryz.func112.trans (congrArg some (by kernel_rfl))
  f207 := Tryz.func156.trans (congrArg some (by kernel_rfl))
  f209 := Tryz.func133.trans (congrArg some (by kernel_rfl))
  t3 := Tryz.underlying3
  a3 := Tryz.isAgg3
  z3 := Tryz.sizeOf3
  v3 := Tryz.zeroValue3
  t4 := Tryz.underlying4
  a4 := Tryz.isAgg4
  z4 := Tryz.sizeOf4
  v4 := Tryz.zeroValue4
  t9 := Tryz.underlying9
  a9 := Tryz.isAgg9
  z9 := Tryz.sizeOf9
  v9 := Tryz.zeroValue9 }
open Go.RowKit Go.Lib in
/-- strings.TrimSuffix: "TrimSuffix returns s without the provided trailing suffix string. If s doesn't end with suffix, s is returned unchanged.": IT RETURNS 'Lib.trimSuffix s suffix'; the world is as it was. (LAID: no walk: one application.) -/
theorem Tryz.strings_TrimSuffix (s p : ByteArray) (w : World) (hs : s.size ≤ 9223372036854775807) :
    Calls Tryz.prog 112 #[.string s, .string p] w fun e w' => e = .returned (.string ⟨(Lib.trimSuffix s.data.toList p.data.toList).toArray⟩) ∧ w' = w := Any.strings_TrimSuffix Tryz.lays102 s p w hs
open Go.RowKit Go.Lib in
def Tryz.lays221_ren : Go.Shelf.Ren := ⟨fun | 221 => 131 | 268 => 158 | 138 => 159 | 143 => 160 | 195 => 188 | 197 => 189 | 218 => 190 | 219 => 161 | 260 => 206 | 217 => 191 | 225 => 192 | 224 => 193 | 267 => 194 | 266 => 207 | 314 => 208 | n => n, fun | 9 => 9 | 3 => 3 | 31 => 59 | 4 => 4 | 0 => 0 | 105 => 223 | 21 => 21 | 5 => 5 | 46 => 75 | 119 => 241 | 139 => 244 | 138 => 243 | 146 => 238 | 51 => 193 | n => n, fun | 1 => 8 | 3 => 10 | 4 => 11 | n => n⟩
theorem Tryz.lays221 : Go.Proofs.Lays.n221 Tryz.prog Tryz.lays221_ren := {
  mixed := by kernel_rfl
  f138 := Tryz.func159.trans (congrArg some (by kernel_rfl))
  f143 := Tryz.func160.trans (congrArg some (by kernel_rfl))
  f195 := Tryz.func188.trans (congrArg some (by kernel_rfl))
  f197 := Tryz.func189.trans (congrArg some (by kernel_rfl))
  f217 := Tryz.func191.trans (congrArg some (by kernel_rfl))
  f218 := Tryz.func190.trans (congrArg some (by kernel_rfl))
  f219 := Tryz.func161.trans (congrArg some (by kernel_rfl))
  f221 := Tryz.func131.trans (congrArg some (by kernel_rfl))
  f224 := Tryz.func193.trans (congrArg some (by kernel_rfl))
  f225 := Tryz.func192.trans (congrArg some (by kernel_rfl))
  f260 := Tryz.func206.trans (congrArg some (by kernel_rfl))
  f266 := Tryz.func207.trans (congrArg some (by kernel_rfl))
  f267 := Tryz.func194.trans (congrArg some (by kernel_rfl))
  f268 := Tryz.func158.trans (congrArg some (by kernel_rfl))
  f314 := Tryz.func208.trans (congrArg some (by kernel_rfl))
  t0 := Tryz.underlying0
  a0 := Tryz.isAgg0
  z0 := Tryz.sizeOf0
  v0 := Tryz.zeroValue0
  t3 := Tryz.underlying3
  a3 := Tryz.isAgg3
  z3 := Tryz.sizeOf3
  v3 := Tryz.zeroValue3
  t4 := Tryz.underlying4
  a4 := Tryz.isAgg4
  z4 := Tryz.sizeOf4
  v4 := Tryz.zeroValue4
  t5 := Tryz.underlying5
  a5 := Tryz.isAgg5
  z5 := Tryz.sizeOf5
  v5 := Tryz.zeroValue5
  t9 := Tryz.underlying9
  a9 := Tryz.isAgg9
  z9 := Tryz.sizeOf9
  v9 := Tryz.zeroValue9
  t21 := Tryz.underlying21
  a21 := Tryz.isAgg21
  z21 := Tryz.sizeOf21
  v21 := Tryz.zeroValue21
  t31 := Tryz.underlying59
  a31 := Tryz.isAgg59
  z31 := Tryz.sizeOf59
  v31 := Tryz.zeroValue59
  t46 := Tryz.underlying75
  a46 := Tryz.isAgg75
  z46 := Tryz.sizeOf75
  v46 := Tryz.zeroValue75
  t51 := Tryz.underlying193
  a51 := Tryz.isAgg193
  z51 := Tryz.sizeOf193
  v51 := Tryz.zeroValue193
  t105 := Tryz.underlying223
  a105 := Tryz.isAgg223
  z105 := Tryz.sizeOf223
  v105 := Tryz.zeroValue223
  t119 := Tryz.underlying241
  a119 := Tryz.isAgg241
  z119 := Tryz.sizeOf241
  t138 := Tryz.underlying243
  a138 := Tryz.isAgg243
  z138 := Tryz.sizeOf243
  v138 := Tryz.zeroValue243
  t139 := Tryz.underlying244
  a139 := Tryz.isAgg244
  z139 := Tryz.sizeOf244
  v139 := Tryz.zeroValue244
  t146 := Tryz.underlying238
  a146 := Tryz.isAgg238
  z146 := Tryz.sizeOf238
  v146 := Tryz.zeroValue238
  g1 := by kernel_rfl
  g3 := by kernel_rfl
  g4 := by kernel_rfl }
open Go.RowKit Go.Lib in
theorem Tryz.strings_genSplit (s sep : ByteArray) (sv : Nat) (n : Int) (N : Nat) (m : Int) (w : World) (hs : s.size < 4294967281) (hm : w.cell? ⟨8, 0, none⟩ = some (.int .i64 m)) (h1 : 1 ≤ sep.size) (hsv : sv ≤ sep.size) (hn0 : n ≠ 0) (hn63 : n ≤ 9223372036854775807) (hN : (N : Int) = min (if n < 0 then (Lib.countB s sep : Int) + 1 else n) ((s.size : Int) + 1)) :
    Calls Tryz.prog 131 #[.string s, .string sep, .int .i64 sv, .int .i64 n] w fun e w' =>
      e = .returned (.slice (some ⟨w.heap.size, 0, none⟩) (Lib.splitB sep sv (N - 1) s).length N) ∧ w' = w.alloc (.cells (Lib.cellsOf (Lib.splitB sep sv (N - 1) s) N) 9) := Any.strings_genSplit Tryz.lays221 (by kernel_rfl) s sep sv n N m w hs hm h1 hsv hn0 hn63 hN
def Tryz.lays146_ren : Go.Shelf.Ren := ⟨fun | 146 => 129 | 221 => 131 | 268 => 158 | 138 => 159 | 143 => 160 | 195 => 188 | 197 => 189 | 218 => 190 | 219 => 161 | 260 => 206 | 217 => 191 | 225 => 192 | 224 => 193 | 267 => 194 | 266 => 207 | 314 => 208 | n => n, fun | 9 => 9 | 31 => 59 | 3 => 3 | 4 => 4 | 0 => 0 | 105 => 223 | 21 => 21 | 5 => 5 | 46 => 75 | 119 => 241 | 139 => 244 | 138 => 243 | 146 => 238 | 51 => 193 | n => n, fun | 1 => 8 | 3 => 10 | 4 => 11 | n => n⟩
theorem Tryz.lays146 : Go.Proofs.Lays.n146 Tryz.prog Tryz.lays146_ren := {
  mixed := by kernel_rfl
  f138 := Tryz.func159.trans (congrArg some (by kernel_rfl))
  f143 := Tryz.func160.trans (congrArg some (by kernel_rfl))
  f146 := Tryz.func129.trans (congrArg some (by kernel_rfl))
  f195 := Tryz.func188.trans (congrArg some (by kernel_rfl))
  f197 := Tryz.func189.trans (congrArg some (by kernel_rfl))
  f217 := Tryz.func191.trans (congrArg some (by kernel_rfl))
  f218 := Tryz.func190.trans (congrArg some (by kernel_rfl))
  f219 := Tryz.func161.trans (congrArg some (by kernel_rfl))
  f221 := Tryz.func131.trans (congrArg some (by kernel_rfl))
  f224 := Tryz.func193.trans (congrArg some (by kernel_rfl))
  f225 := Tryz.func192.trans (congrArg some (by kernel_rfl))
  f260 := Tryz.func206.trans (congrArg some (by kernel_rfl))
  f266 := Tryz.func207.trans (congrArg some (by kernel_rfl))
  f267 := Tryz.func194.trans (congrArg some (by kernel_rfl))
  f268 := Tryz.func158.trans (congrArg some (by kernel_rfl))
  f314 := Tryz.func208.trans (congrArg some (by kernel_rfl))
  t0 := Tryz.underlying0
  a0 := Tryz.isAgg0
  z0 := Tryz.sizeOf0
  v0 := Tryz.zeroValue0
  t3 := Tryz.underlying3
  a3 := Tryz.isAgg3
  z3 := Tryz.sizeOf3
  v3 := Tryz.zeroValue3
  t4 := Tryz.underlying4
  a4 := Tryz.isAgg4
  z4 := Tryz.sizeOf4
  v4 := Tryz.zeroValue4
  t5 := Tryz.underlying5
  a5 := Tryz.isAgg5
  z5 := Tryz.sizeOf5
  v5 := Tryz.zeroValue5
  t9 := Tryz.underlying9
  a9 := Tryz.isAgg9
  z9 := Tryz.sizeOf9
  v9 := Tryz.zeroValue9
  t21 := Tryz.underlying21
  a21 := Tryz.isAgg21
  z21 := Tryz.sizeOf21
  v21 := Tryz.zeroValue21
  t31 := Tryz.underlying59
  a31 := Tryz.isAgg59
  z31 := Tryz.sizeOf59
  v31 := Tryz.zeroValue59
  t46 := Tryz.underlying75
  a46 := Tryz.isAgg75
  z46 := Tryz.sizeOf75
  v46 := Tryz.zeroValue75
  t51 := Tryz.underlying193
  a51 := Tryz.isAgg193
  z51 := Tryz.sizeOf193
  v51 := Tryz.zeroValue193
  t105 := Tryz.underlying223
  a105 := Tryz.isAgg223
  z105 := Tryz.sizeOf223
  v105 := Tryz.zeroValue223
  t119 := Tryz.underlying241
  a119 := Tryz.isAgg241
  z119 := Tryz.sizeOf241
  t138 := Tryz.underlying243
  a138 := Tryz.isAgg243
  z138 := Tryz.sizeOf243
  v138 := Tryz.zeroValue243
  t139 := Tryz.underlying244
  a139 := Tryz.isAgg244
  z139 := Tryz.sizeOf244
  v139 := Tryz.zeroValue244
  t146 := Tryz.underlying238
  a146 := Tryz.isAgg238
  z146 := Tryz.sizeOf238
  v146 := Tryz.zeroValue238
  g1 := by kernel_rfl
  g3 := by kernel_rfl
  g4 := by kernel_rfl }
open Go.RowKit Go.Lib in
/-- strings.Split. (LAID: no walk: one application.) -/
theorem Tryz.strings_Split (s sep : ByteArray) (m : Int) (w : World) (hs : s.size < 4294967281) (hm : w.cell? ⟨8, 0, none⟩ = some (.int .i64 m)) (h1 : 1 ≤ sep.size) :
    Calls Tryz.prog 129 #[.string s, .string sep] w fun e w' =>
      e = .returned (.slice (some ⟨w.heap.size, 0, none⟩) (Lib.countB s sep + 1) (Lib.countB s sep + 1)) ∧ w' = w.alloc (.cells ((Lib.splitB sep 0 (Lib.countB s sep) s).map Value.string).toArray 9) := Any.strings_Split Tryz.lays146 (by kernel_rfl) s sep m w hs hm h1
open Go.RowKit Go.Lib in
open Go.RowKit Go.Lib in
open Go.RowKit Go.Lib in
open Go.RowKit Go.Lib in
open Go.RowKit Go.Lib in
open Go.RowKit Go.Lib in
open Go.RowKit Go.Lib in
open Go.RowKit Go.Lib in
open Go.Lib in
open Go.Lib in
def Tryz.lays107_ren : Go.Shelf.Ren := ⟨fun | 107 => 95 | 108 => 119 | n => n, fun | 28 => 22 | 3 => 3 | 4 => 4 | 0 => 0 | n => n, fun | n => n⟩
theorem Tryz.lays107 : Go.Proofs.Lays.n107 Tryz.prog Tryz.lays107_ren := {
  mixed := by kernel_rfl
  f107 := Tryz.func95.trans (congrArg some (by kernel_rfl))
  f108 := Tryz.func119.trans (congrArg some (by kernel_rfl))
  t0 := Tryz.underlying0
  a0 := Tryz.isAgg0
  z0 := Tryz.sizeOf0
  v0 := Tryz.zeroValue0
  t3 := Tryz.underlying3
  a3 := Tryz.isAgg3
  z3 := Tryz.sizeOf3
  v3 := Tryz.zeroValue3
  t4 := Tryz.underlying4
  a4 := Tryz.isAgg4
  z4 := Tryz.sizeOf4
  v4 := Tryz.zeroValue4
  t28 := Tryz.underlying22
  a28 := Tryz.isAgg22
  z28 := Tryz.sizeOf22
  v28 := Tryz.zeroValue22 }
open Go.Lib in
/-- slices.Contains at []int: "Contains reports whether v is present in s.": IT RETURNS 'elements.contains v'; the world is as it was. ITS CALLEE slices.Index IS MET BY ITS OWN CONTRACT OFF THE SHELF (lay that first): no loop is walked here. (LAID: no walk: one application.) -/
theorem Tryz.slices_Contains_int (b off n c : Nat) (zs : List Int) (x : Int) (w : World) (hz : n ≤ zs.length) (hbig : n ≤ 9223372036854775807) (hc : ∀ j, j < zs.length → w.cell? ⟨b, off + j, none⟩ = some (.int .i64 (zs.getD j 0))) :
    Calls Tryz.prog 95 #[.slice (some ⟨b, off, none⟩) n c, .int .i64 x] w fun e w' => e = .returned (.bool ((zs.take n).contains x)) ∧ w' = w := Any.slices_Contains_int Tryz.lays107 b off n c zs x w hz hbig hc
open Go.Lib in
/-- The same at a slice of length 0, a nil one too. (LAID: no walk: one application.) -/
theorem Tryz.slices_Contains_int_empty (a : Option Addr) (c : Nat) (x : Int) (w : World) :
    Calls Tryz.prog 95 #[.slice a 0 c, .int .i64 x] w fun e w' => e = .returned (.bool false) ∧ w' = w := Any.slices_Contains_int_empty Tryz.lays107 a c x w
open Go.RowKit Go.Sort in
/-- .. and plain. (LAID: no walk: one application.) -/
theorem Tryz.slices_Sort_string_none (p : Option Addr) (cap : Nat) (w : World) :
    Calls Tryz.prog 114 #[.slice p 0 cap] w fun e w' => e = .returned (.tuple #[]) ∧ w' = w := Any.slices_Sort_string_none Tryz.lays190 p cap w
open Go.RowKit Go.Sort in
def Tryz.lays2x21_ren : Go.Shelf.Ren := ⟨fun | 21 => 97 | 27 => 122 | 28 => 123 | 35 => 153 | 39 => 184 | n => n, fun | 22 => 22 | 3 => 3 | 4 => 4 | 0 => 0 | n => n, fun | n => n⟩
theorem Tryz.lays2x21 : Go.Proofs.Lays2.n21 Tryz.prog Tryz.lays2x21_ren := {
  mixed := by kernel_rfl
  f21 := Tryz.func97.trans (congrArg some (by kernel_rfl))
  f27 := Tryz.func122.trans (congrArg some (by kernel_rfl))
  f28 := Tryz.func123.trans (congrArg some (by kernel_rfl))
  f35 := Tryz.func153.trans (congrArg some (by kernel_rfl))
  f39 := Tryz.func184.trans (congrArg some (by kernel_rfl))
  t0 := Tryz.underlying0
  a0 := Tryz.isAgg0
  z0 := Tryz.sizeOf0
  v0 := Tryz.zeroValue0
  t3 := Tryz.underlying3
  a3 := Tryz.isAgg3
  z3 := Tryz.sizeOf3
  v3 := Tryz.zeroValue3
  t4 := Tryz.underlying4
  a4 := Tryz.isAgg4
  z4 := Tryz.sizeOf4
  v4 := Tryz.zeroValue4
  t22 := Tryz.underlying22
  a22 := Tryz.isAgg22
  z22 := Tryz.sizeOf22
  v22 := Tryz.zeroValue22
  i3 := by kernel_rfl }
def Tryz.keys80_ren : Go.Shelf.Ren := ⟨fun | 7 => 80 | 10 => 115 | n => n, fun | 23 => 116 | 26 => 9 | 3 => 114 | 28 => 123 | 0 => 0 | 27 => 122 | 33 => 50 | 4 => 4 | n => n, fun | n => n⟩
theorem Tryz.keys80 : Go.Proofs.SlLaysZ.n7 Tryz.prog Tryz.keys80_ren := {
  mixed := by kernel_rfl
  f7 := ⟨Tryz.f80.name, by decide, Tryz.func80.trans (congrArg some (by kernel_rfl))⟩
  f10 := ⟨Tryz.f115.name, by decide, Tryz.func115.trans (congrArg some (by kernel_rfl))⟩
  t0 := Tryz.underlying0
  a0 := Tryz.isAgg0
  z0 := Tryz.sizeOf0
  v0 := Tryz.zeroValue0
  t4 := Tryz.underlying4
  a4 := Tryz.isAgg4
  z4 := Tryz.sizeOf4
  v4 := Tryz.zeroValue4
  t23 := Tryz.underlying116
  a23 := Tryz.isAgg116
  z23 := Tryz.sizeOf116
  v23 := Tryz.zeroValue116
  t26 := Tryz.underlying9
  a26 := Tryz.isAgg9
  z26 := Tryz.sizeOf9
  v26 := Tryz.zeroValue9
  t27 := Tryz.underlying122
  a27 := Tryz.isAgg122
  z27 := Tryz.sizeOf122
  v27 := Tryz.zeroValue122
  t28 := Tryz.underlying123
  a28 := Tryz.isAgg123
  z28 := Tryz.sizeOf123
  v28 := Tryz.zeroValue123
  t33 := Tryz.underlying50
  a33 := Tryz.isAgg50
  z33 := Tryz.sizeOf50
  v33 := Tryz.zeroValue50 }
def Tryz.sorted79_ren : Go.Shelf.Ren := ⟨fun | 6 => 79 | 8 => 113 | 9 => 114 | 11 => 134 | 13 => 121 | 12 => 135 | 23 => 151 | 24 => 152 | 14 => 162 | 15 => 163 | 16 => 164 | 17 => 165 | 18 => 166 | 19 => 167 | 20 => 168 | 21 => 169 | 22 => 170 | 25 => 195 | 26 => 179 | 27 => 180 | 28 => 196 | 29 => 197 | 30 => 198 | 31 => 209 | n => n, fun | 26 => 9 | 28 => 123 | 24 => 59 | 0 => 0 | 3 => 3 | 37 => 75 | 48 => 193 | 50 => 195 | 4 => 4 | 40 => 187 | 39 => 186 | 45 => 85 | 5 => 5 | 9 => 9 | 51 => 215 | 55 => 218 | 57 => 235 | 58 => 236 | 33 => 50 | n => n, fun | n => n⟩
theorem Tryz.sorted79 : Go.Proofs.SlLaysZ.n6 Tryz.prog Tryz.sorted79_ren := {
  mixed := by kernel_rfl
  f6 := ⟨Tryz.f79.name, by decide, Tryz.func79.trans (congrArg some (by kernel_rfl))⟩
  f8 := ⟨Tryz.f113.name, by decide, Tryz.func113.trans (congrArg some (by kernel_rfl))⟩
  f11 := ⟨Tryz.f134.name, by decide, Tryz.func134.trans (congrArg some (by kernel_rfl))⟩
  t0 := Tryz.underlying0
  a0 := Tryz.isAgg0
  z0 := Tryz.sizeOf0
  v0 := Tryz.zeroValue0
  t24 := Tryz.underlying59
  a24 := Tryz.isAgg59
  z24 := Tryz.sizeOf59
  v24 := Tryz.zeroValue59
  t26 := Tryz.underlying9
  a26 := Tryz.isAgg9
  z26 := Tryz.sizeOf9
  v26 := Tryz.zeroValue9
  t28 := Tryz.underlying123
  a28 := Tryz.isAgg123
  z28 := Tryz.sizeOf123
  v28 := Tryz.zeroValue123
  i26 := by kernel_rfl }
def Tryz.sort114_ren : Go.Shelf.Ren := ⟨fun | 6 => 114 | 8 => 121 | 9 => 135 | 19 => 151 | 20 => 152 | 21 => 162 | 22 => 163 | 23 => 164 | 24 => 165 | 25 => 166 | 26 => 167 | 27 => 168 | 28 => 169 | 29 => 170 | 36 => 195 | 31 => 179 | 32 => 180 | 37 => 196 | 38 => 197 | 39 => 198 | 41 => 209 | n => n, fun | 27 => 59 | 29 => 9 | 3 => 3 | 32 => 75 | 26 => 59 | 0 => 0 | 44 => 193 | 46 => 195 | 4 => 4 | 36 => 187 | 35 => 186 | 41 => 85 | 5 => 5 | 9 => 9 | 53 => 215 | 57 => 218 | 63 => 235 | 64 => 236 | n => n, fun | n => n⟩
theorem Tryz.sort114 : Go.Proofs.SlLaysM.n6 Tryz.prog Tryz.sort114_ren := {
  mixed := by kernel_rfl
  f6 := ⟨Tryz.f114.name, by decide, Tryz.func114.trans (congrArg some (by kernel_rfl))⟩
  f8 := Tryz.func121.trans (congrArg some (by kernel_rfl))
  f9 := ⟨Tryz.f135.name, by decide, Tryz.func135.trans (congrArg some (by kernel_rfl))⟩
  f19 := Tryz.func151.trans (congrArg some (by kernel_rfl))
  f20 := Tryz.func152.trans (congrArg some (by kernel_rfl))
  f21 := ⟨Tryz.f162.name, by decide, Tryz.func162.trans (congrArg some (by kernel_rfl))⟩
  f22 := ⟨Tryz.f163.name, by decide, Tryz.func163.trans (congrArg some (by kernel_rfl))⟩
  f23 := ⟨Tryz.f164.name, by decide, Tryz.func164.trans (congrArg some (by kernel_rfl))⟩
  f24 := ⟨Tryz.f165.name, by decide, Tryz.func165.trans (congrArg some (by kernel_rfl))⟩
  f25 := ⟨Tryz.f166.name, by decide, Tryz.func166.trans (congrArg some (by kernel_rfl))⟩
  f26 := ⟨Tryz.f167.name, by decide, Tryz.func167.trans (congrArg some (by kernel_rfl))⟩
  f27 := ⟨Tryz.f168.name, by decide, Tryz.func168.trans (congrArg some (by kernel_rfl))⟩
  f28 := ⟨Tryz.f169.name, by decide, Tryz.func169.trans (congrArg some (by kernel_rfl))⟩
  f29 := ⟨Tryz.f170.name, by decide, Tryz.func170.trans (congrArg some (by kernel_rfl))⟩
  f31 := Tryz.func179.trans (congrArg some (by kernel_rfl))
  f32 := Tryz.func180.trans (congrArg some (by kernel_rfl))
  f36 := ⟨Tryz.f195.name, by decide, Tryz.func195.trans (congrArg some (by kernel_rfl))⟩
  f37 := ⟨Tryz.f196.name, by decide, Tryz.func196.trans (congrArg some (by kernel_rfl))⟩
  f38 := ⟨Tryz.f197.name, by decide, Tryz.func197.trans (congrArg some (by kernel_rfl))⟩
  f39 := ⟨Tryz.f198.name, by decide, Tryz.func198.trans (congrArg some (by kernel_rfl))⟩
  f41 := ⟨Tryz.f209.name, by decide, Tryz.func209.trans (congrArg some (by kernel_rfl))⟩
  t0 := Tryz.underlying0
  a0 := Tryz.isAgg0
  z0 := Tryz.sizeOf0
  v0 := Tryz.zeroValue0
  t3 := Tryz.underlying3
  a3 := Tryz.isAgg3
  z3 := Tryz.sizeOf3
  v3 := Tryz.zeroValue3
  t4 := Tryz.underlying4
  a4 := Tryz.isAgg4
  z4 := Tryz.sizeOf4
  v4 := Tryz.zeroValue4
  t5 := Tryz.underlying5
  a5 := Tryz.isAgg5
  z5 := Tryz.sizeOf5
  v5 := Tryz.zeroValue5
  t9 := Tryz.underlying9
  a9 := Tryz.isAgg9
  z9 := Tryz.sizeOf9
  v9 := Tryz.zeroValue9
  t26 := Tryz.underlying59
  a26 := Tryz.isAgg59
  z26 := Tryz.sizeOf59
  v26 := Tryz.zeroValue59
  t27 := Tryz.underlying59
  a27 := Tryz.isAgg59
  z27 := Tryz.sizeOf59
  v27 := Tryz.zeroValue59
  t29 := Tryz.underlying9
  a29 := Tryz.isAgg9
  z29 := Tryz.sizeOf9
  v29 := Tryz.zeroValue9
  t32 := Tryz.underlying75
  a32 := Tryz.isAgg75
  z32 := Tryz.sizeOf75
  v32 := Tryz.zeroValue75
  t35 := Tryz.underlying186
  a35 := Tryz.isAgg186
  z35 := Tryz.sizeOf186
  v35 := Tryz.zeroValue186
  t36 := Tryz.underlying187
  a36 := Tryz.isAgg187
  z36 := Tryz.sizeOf187
  v36 := Tryz.zeroValue187
  t41 := Tryz.underlying85
  a41 := Tryz.isAgg85
  z41 := Tryz.sizeOf85
  v41 := Tryz.zeroValue85
  t44 := Tryz.underlying193
  a44 := Tryz.isAgg193
  z44 := Tryz.sizeOf193
  v44 := Tryz.zeroValue193
  t46 := Tryz.underlying195
  a46 := Tryz.isAgg195
  z46 := Tryz.sizeOf195
  v46 := Tryz.zeroValue195
  t53 := Tryz.underlying215
  a53 := Tryz.isAgg215
  z53 := Tryz.sizeOf215
  v53 := Tryz.zeroValue215
  t57 := Tryz.underlying218
  a57 := Tryz.isAgg218
  z57 := Tryz.sizeOf218
  v57 := Tryz.zeroValue218
  t63 := Tryz.underlying235
  a63 := Tryz.isAgg235
  z63 := Tryz.sizeOf235
  v63 := Tryz.zeroValue235
  t64 := Tryz.underlying236
  a64 := Tryz.isAgg236
  z64 := Tryz.sizeOf236
  v64 := Tryz.zeroValue236 }
end Go.Proofs

namespace Go.Proofs
open Go.RowKit Go.Maps Go.Sort Go.Shelf
/-- slices.Sort's two contracts at this dump, at the fence that asks nothing. -/
theorem Tryz.sorts79 (m : Nat) : AnyZ.SortsIn Tryz.prog Tryz.sorted79_ren Fence.wide m :=
  ⟨fun blk off cap ss W hH hblk hsz => callsIn_wide.2 (AnyM.slices_Sort_string Tryz.sort114 blk off cap ss W hH hblk hsz),
   fun p cap W => callsIn_wide.2 (AnyM.slices_Sort_string_none Tryz.sort114 p cap W)⟩

/-- **maps.Keys[map[string]pintle/pattern.row,string,pintle/pattern.row], at whatever map, the nil one too:** a function value over ONE NEW BLOCK, which holds the map. -/
theorem Tryz.maps_Keys_80 (mb : Option Nat) (W : World) : CallsIn Fence.wide 5 Tryz.prog 80 #[.map mb] W fun e w' => e = .returned (.func (.func 115) #[] #[.pointer (some ⟨W.heap.size, 0, none⟩)]) ∧ w' = W.alloc (.cells #[.map mb] 116) :=
  AnyZ.keys_in Tryz.keys80 Fence.wide 5 trivial rfl mb W

set_option maxHeartbeats 1000000 in
/-- **slices.Sorted[string] AT WHAT maps.Keys[map[string]pintle/pattern.row,string,pintle/pattern.row] HANDED BACK FOR A MAP THAT IS NOT nil** ('w': the world AHEAD of maps.Keys' call): A NEW SLICE THAT HOLDS THE MAP's KEYS, SORTED; nil just where it has none; nothing that lay before has turned. -/
theorem Tryz.slices_Sorted_keys_79_80 {H : Type} (b nn : Nat) (D0 : DataW H) (R : Value → Option (DataW H × List MemPlace)) (w : World) (hown : w.ownsMap Tryz.prog 9 R b nn D0) (hmax : Maps.size D0 ≤ maxLen) (hbytes : Maps.size D0 * 16 ≤ 140737488355328) :
    CallsIn Fence.wide 5 Tryz.prog 79 #[.func (.func 115) #[] #[.pointer (some ⟨w.heap.size, 0, none⟩)]] (w.alloc (.cells #[.map (some b)] 116)) fun e w' => ∃ (v : Value) (ss : List (List UInt8)), e = .returned v ∧ ss.Perm (strKeys D0) ∧
      w'.ownsRow (w.alloc (.cells #[.map (some b)] 116)).heap.size 9 1 v ss.length ((ss.mergeSort (fun x y => decide (x ≤ y))).map encStr) ∧ (v = .slice none 0 0 ↔ ss = []) ∧ Below (w.alloc (.cells #[.map (some b)] 116)).heap.size (w.alloc (.cells #[.map (some b)] 116)) w' := by
  have hbl := hown.lt
  have hseq : SeqGives Fence.wide 2 Tryz.prog 115 #[.pointer (some ⟨w.heap.size, 0, none⟩)] encStr (fun ss => ss.Perm (strKeys D0)) (Maps.size D0) (w.alloc (.cells #[.map (some b)] 116)) :=
    AnyZ.keys_gives (ρ := Tryz.keys80_ren) { Tryz.keys80 with } Fence.wide _ trivial rfl (by omega) w.heap.size b nn D0 _ (by simp) (by simp) (by
      obtain ⟨es, clock, hb, Ft, hs, hD⟩ := hown
      exact ⟨es, clock, (Below.heap_alloc _ _ b hbl).trans hb, Ft, hs, hD⟩)
  exact AnyZ.sorted_in Tryz.sorted79 Fence.wide 5 trivial trivial trivial trivial rfl (by omega) (Tryz.sorts79 _) (enters_of Tryz.func114 (by kernel_rfl) rfl) 115 #[.pointer (some ⟨w.heap.size, 0, none⟩)] trivial (enters_of Tryz.func115 (by kernel_rfl) rfl) _ _ hmax hbytes _ hseq


end Go.Proofs

namespace Go.Proofs.YtkmejehhdjdlbaaGreatDoor
open Go.RowKit

abbrev iv' (z : Int) : Value := .int .i64 z
def wordsV : Array Value := #[.string ⟨#[]⟩, .string ⟨#[101]⟩, .string ⟨#[115]⟩, .string ⟨#[101, 101]⟩, .string ⟨#[101, 115]⟩, .string ⟨#[115, 101]⟩, .string ⟨#[115, 115]⟩, .string ⟨#[112, 115, 107]⟩]
theorem words_any (w : World) : Calls Tryz.prog 101 #[] w fun e w' => e = .returned (.agg wordsV) ∧ Kp w w' := by
  go_enter Tryz.func101, Tryz.ntmps101
  go_wp2_with fail
  refine bodyPost_ret (v := .agg wordsV) (by simp [results, Tryz.results101, go_sem, wordsV]) rfl ⟨rfl, Kp.new _ _⟩

/-- What a reader gives up with. -/
def badE : Ending := .panicked [{ v := .iface 147 (.agg #[]), recovered := false }]
theorem ask_true (w : World) : Calls Tryz.prog 107 #[.bool true] w fun e w' => e = .returned (.tuple #[]) ∧ w = w' := by
  go_enter Tryz.func107, Tryz.ntmps107
  go_wp2_with fail
  go_end0
  exact ⟨rfl, rfl⟩
theorem ask_false (w : World) : Calls Tryz.prog 107 #[.bool false] w fun e w' => e = badE ∧ w = w' := by
  go_enter Tryz.func107, Tryz.ntmps107
  go_wp2_with fail
  exact ⟨rfl, rfl, rfl⟩

/-- What reading a word leaves. -/
def TokPost (w : World) (l : Q.Bt) (e : Ending) (w' : World) : Prop := (match Q.wordT l with | some t => e = .returned (iv' t) | none => e = badE) ∧ Kp w w'
def Nots (l : Q.Bt) (k : Nat) : Prop := ∀ j : Nat, 1 ≤ j → j < k → Q.tokW (j : Int) ≠ l
theorem nots_step {l : Q.Bt} {k : Nat} (h : Nots l k) (hk : Q.tokW (k : Int) ≠ l) : Nots l (k + 1) := fun j h1 h2 => by
  rcases Nat.lt_or_ge j k with q | q
  · exact h j h1 q
  · obtain rfl : j = k := by omega
    exact hk
theorem nots_none {l : Q.Bt} (h : Nots l 8) : Q.wordT l = none := by
  cases hq : Q.wordT l with
  | none => rfl
  | some t =>
    obtain ⟨a, b, c⟩ := Q.wordT_some hq
    exact absurd (by rw [show ((t.toNat : Nat) : Int) = t by omega]; exact a) (h t.toNat (by omega) (by omega))

set_option maxHeartbeats 4000000 in
theorem token_any (s : ByteArray) (w : World) : Calls Tryz.prog 130 #[.string s] w (TokPost w s.data.toList) := by
  go_enter Tryz.func130, Tryz.ntmps130
  go_wp2_with fail
  (with_reducible refine (words_any w).mono ?_)
  rintro e w1 ⟨rfl, hk1⟩
  have Hk := Lib.hid (Kp.trans hk1 (Kp.new w1 (.cells wordsV 143)))
  unfold wordsV at Hk ⊢
  clear hk1
  go_wp2_with fail
  go_loopw [4] (fun i wr => ∃ k : Nat, 1 ≤ k ∧ k ≤ 8 ∧ i = .int .i64 (k : Nat) ∧ w1.alloc (.cells #[.string ⟨#[]⟩, .string ⟨#[101]⟩, .string ⟨#[115]⟩, .string ⟨#[101, 101]⟩, .string ⟨#[101, 115]⟩, .string ⟨#[115, 101]⟩, .string ⟨#[115, 115]⟩, .string ⟨#[112, 115, 107]⟩] 143) = wr ∧ Nots s.data.toList k) (fun i _ => 8 - (intOf i).toNat)
  case atStart => exact ⟨1, by omega, by omega, rfl, rfl, fun j h1 h2 => by omega⟩
  case round =>
    obtain ⟨k, hk1, hk8, rfl, rfl, hn⟩ := hrel
    have Hn := Lib.hid hn
    clear hn
    rcases (show k = 1 ∨ k = 2 ∨ k = 3 ∨ k = 4 ∨ k = 5 ∨ k = 6 ∨ k = 7 ∨ k = 8 by omega) with rfl | rfl | rfl | rfl | rfl | rfl | rfl | rfl
    · cases hq : ([101] == s.toList) with
      | true =>
        have Hy := Lib.hid (show TokPost w s.data.toList (.returned (iv' 1)) _ from ⟨by rw [← Lib.toList_data, ← beq_iff_eq.1 hq]; rfl, Hk.out⟩)
        go_wp2_with fail
        go_ret
        exact Hy.out
      | false =>
        have Hy := Lib.hid (nots_step (k := 1) Hn.out (fun e => by rw [← Lib.toList_data] at e; rw [← e] at hq; revert hq; decide))
        go_wp2_with fail
        go_roundw
        case rel => exact ⟨2, by omega, by omega, by go_num, trivial, Hy.out⟩
        case measure => simp [intOf]
    · cases hq : ([115] == s.toList) with
      | true =>
        have Hy := Lib.hid (show TokPost w s.data.toList (.returned (iv' 2)) _ from ⟨by rw [← Lib.toList_data, ← beq_iff_eq.1 hq]; rfl, Hk.out⟩)
        go_wp2_with fail
        go_ret
        exact Hy.out
      | false =>
        have Hy := Lib.hid (nots_step (k := 2) Hn.out (fun e => by rw [← Lib.toList_data] at e; rw [← e] at hq; revert hq; decide))
        go_wp2_with fail
        go_roundw
        case rel => exact ⟨3, by omega, by omega, by go_num, trivial, Hy.out⟩
        case measure => simp [intOf]
    · cases hq : ([101, 101] == s.toList) with
      | true =>
        have Hy := Lib.hid (show TokPost w s.data.toList (.returned (iv' 3)) _ from ⟨by rw [← Lib.toList_data, ← beq_iff_eq.1 hq]; rfl, Hk.out⟩)
        go_wp2_with fail
        go_ret
        exact Hy.out
      | false =>
        have Hy := Lib.hid (nots_step (k := 3) Hn.out (fun e => by rw [← Lib.toList_data] at e; rw [← e] at hq; revert hq; decide))
        go_wp2_with fail
        go_roundw
        case rel => exact ⟨4, by omega, by omega, by go_num, trivial, Hy.out⟩
        case measure => simp [intOf]
    · cases hq : ([101, 115] == s.toList) with
      | true =>
        have Hy := Lib.hid (show TokPost w s.data.toList (.returned (iv' 4)) _ from ⟨by rw [← Lib.toList_data, ← beq_iff_eq.1 hq]; rfl, Hk.out⟩)
        go_wp2_with fail
        go_ret
        exact Hy.out
      | false =>
        have Hy := Lib.hid (nots_step (k := 4) Hn.out (fun e => by rw [← Lib.toList_data] at e; rw [← e] at hq; revert hq; decide))
        go_wp2_with fail
        go_roundw
        case rel => exact ⟨5, by omega, by omega, by go_num, trivial, Hy.out⟩
        case measure => simp [intOf]
    · cases hq : ([115, 101] == s.toList) with
      | true =>
        have Hy := Lib.hid (show TokPost w s.data.toList (.returned (iv' 5)) _ from ⟨by rw [← Lib.toList_data, ← beq_iff_eq.1 hq]; rfl, Hk.out⟩)
        go_wp2_with fail
        go_ret
        exact Hy.out
      | false =>
        have Hy := Lib.hid (nots_step (k := 5) Hn.out (fun e => by rw [← Lib.toList_data] at e; rw [← e] at hq; revert hq; decide))
        go_wp2_with fail
        go_roundw
        case rel => exact ⟨6, by omega, by omega, by go_num, trivial, Hy.out⟩
        case measure => simp [intOf]
    · cases hq : ([115, 115] == s.toList) with
      | true =>
        have Hy := Lib.hid (show TokPost w s.data.toList (.returned (iv' 6)) _ from ⟨by rw [← Lib.toList_data, ← beq_iff_eq.1 hq]; rfl, Hk.out⟩)
        go_wp2_with fail
        go_ret
        exact Hy.out
      | false =>
        have Hy := Lib.hid (nots_step (k := 6) Hn.out (fun e => by rw [← Lib.toList_data] at e; rw [← e] at hq; revert hq; decide))
        go_wp2_with fail
        go_roundw
        case rel => exact ⟨7, by omega, by omega, by go_num, trivial, Hy.out⟩
        case measure => simp [intOf]
    · cases hq : ([112, 115, 107] == s.toList) with
      | true =>
        have Hy := Lib.hid (show TokPost w s.data.toList (.returned (iv' 7)) _ from ⟨by rw [← Lib.toList_data, ← beq_iff_eq.1 hq]; rfl, Hk.out⟩)
        go_wp2_with fail
        go_ret
        exact Hy.out
      | false =>
        have Hy := Lib.hid (nots_step (k := 7) Hn.out (fun e => by rw [← Lib.toList_data] at e; rw [← e] at hq; revert hq; decide))
        go_wp2_with fail
        go_roundw
        case rel => exact ⟨8, by omega, by omega, by go_num, trivial, Hy.out⟩
        case measure => simp [intOf]
    · have Hy := Lib.hid (show TokPost w s.data.toList badE _ from ⟨by rw [nots_none Hn.out], Hk.out⟩)
      go_wp2_with fail
      exact ⟨rfl, Hy.out⟩

/-- A byte that may stand in a name, as the walk meets it. -/
theorem nameC_eq (c : UInt8) : Q.nameC c = ((decide (65 ≤ (c.toNat : Int)) && decide ((c.toNat : Int) ≤ 90)) || (decide (97 ≤ (c.toNat : Int)) && decide ((c.toNat : Int) ≤ 122)) || (decide (48 ≤ (c.toNat : Int)) && decide ((c.toNat : Int) ≤ 57)) || decide ((c.toNat : Int) = 43)) := by
  unfold Q.nameC
  rw [Bool.eq_iff_iff]
  simp only [Bool.or_eq_true, Bool.and_eq_true, decide_eq_true_eq, beq_iff_eq, UInt8.le_iff_toNat_le, ← UInt8.toNat_inj]
  simp
  omega
theorem all_nameC {s : ByteArray} (h : ∀ j (h : j < s.size), Q.nameC (s[j]) = true) : s.data.toList.all Q.nameC = true := by
  rw [List.all_eq_true]
  intro x hx
  obtain ⟨j, hj, rfl⟩ := List.getElem_of_mem hx
  have := h j (by simpa using hj)
  rw [Array.getElem_toList]; exact this
theorem not_all_nameC {s : ByteArray} {k : Nat} (hk : k < s.size) (h : Q.nameC (s[k]) = false) : s.data.toList.all Q.nameC = false := by
  rw [List.all_eq_false]
  exact ⟨s.data.toList[k]'(by simpa using hk), List.getElem_mem _, by rw [Array.getElem_toList, Bool.not_eq_true]; exact h⟩
set_option maxHeartbeats 4000000 in
theorem named_any (s : ByteArray) (w : World) (hs : s.size ≤ 9223372036854775806) : Calls Tryz.prog 66 #[.string s] w fun e w' => e = .returned (.bool (Q.isName s.data.toList)) ∧ w = w' := by
  go_enter Tryz.func66, Tryz.ntmps66
  go_wp2_with fail
  go_loopw [7] (fun i wr => ∃ k : Nat, k ≤ s.size ∧ i = .int .i64 (k : Nat) ∧ w = wr ∧ ∀ j (h : j < s.size), j < k → Q.nameC (s[j]) = true) (fun i _ => s.size - (intOf i).toNat)
  case atStart => exact ⟨0, by omega, rfl, rfl, fun j h h' => by omega⟩
  case round =>
    obtain ⟨k, hk, rfl, rfl, hall⟩ := hrel
    have Hall := Lib.hid hall
    clear hall
    by_cases hlt : k < s.size
    · have Hc := Lib.hid (nameC_eq (s[k]))
      go_upto_region 5 with fail
      go_cut [39] (fun v wc => v = .bool (!Q.nameC s[k]) ∧ w = wc)
      case first =>
        go_wp2_with fail
        all_goals
          go_meet
          case rel => exact ⟨by rw [Hc.out]; refine congrArg Value.bool ?_; rw [Bool.eq_iff_iff]; simp; omega, rfl⟩
      case rest =>
        obtain ⟨rfl, rfl⟩ := hcut
        cases hq : Q.nameC s[k] with
        | true =>
          have Hq := Lib.hid hq
          clear hq
          go_wp2_with fail
          go_roundw
          case rel => exact ⟨k + 1, by omega, by go_num, trivial, fun j h h' => by
            rcases Nat.lt_or_ge j k with q | q
            · exact Hall.out j h q
            · obtain rfl : j = k := by omega
              exact Hq.out⟩
          case measure => simp [intOf]; omega
        | false =>
          have Hq := Lib.hid (show Q.isName s.data.toList = false by unfold Q.isName; rw [not_all_nameC hlt hq]; rfl)
          clear hq
          go_wp2_with fail
          go_ret
          exact ⟨by rw [Hq.out]; rfl, rfl⟩
    · obtain rfl : k = s.size := by omega
      have Hq := Lib.hid (all_nameC (fun j h => Hall.out j h h))
      go_wp2_with fail
      go_ret
      exact ⟨by unfold Q.isName; rw [Hq.out, Bool.true_and, ← Lib.toList_data]; rfl, rfl⟩
end Go.Proofs.YtkmejehhdjdlbaaGreatDoor

namespace Go.Proofs.YtkmejehhdjdlbaaGreatDoor
open Go.RowKit

/-- A text of these bytes. -/
def bs (l : Q.Bt) : ByteArray := ⟨l.toArray⟩
theorem bs_list (l : Q.Bt) : (bs l).data.toList = l := rfl
theorem bs_data (s : ByteArray) : bs s.data.toList = s := Lib.mk_data s
theorem bs_size (l : Q.Bt) : (bs l).size = l.length := by rw [Lib.size_eq, bs_list]
/-- The variable of the library that says how long a text it looks for at once. -/
def MaxV (w : World) (m : Int) : Prop := w.cell? ⟨8, 0, none⟩ = some (.int .i64 m)
theorem Kp.maxV {w w' : World} (h : Kp w w') {m : Int} (hm : MaxV w m) : MaxV w' m := h.cell hm
/-- What the next row leaves: the reader holds the rest. -/
def RowPost (w : World) (b : Nat) (s : Q.Bt) (e : Ending) (w' : World) : Prop := match Lib.cut s [10] with
  | (x, rest, true) => e = .returned (.string (bs x)) ∧ Fr [b] w w' ∧ w'.cell? ⟨b, 0, none⟩ = some (.string (bs rest)) ∧ w'.frozen? ⟨b, 0, none⟩ = false
  | _ => e = badE ∧ Kp w w'
set_option maxHeartbeats 2000000 in
theorem rowR_any (b : Nat) (s : ByteArray) (m : Int) (w : World) (hs : s.size < 4294967281) (hm : MaxV w m) (hc : w.cell? ⟨b, 0, none⟩ = some (.string s)) (hf : w.frozen? ⟨b, 0, none⟩ = false) :
    Calls Tryz.prog 106 #[.pointer (some ⟨b, 0, none⟩)] w (RowPost w b s.data.toList) := by
  have HC := Lib.hid (Tryz.strings_Cut s ⟨#[10]⟩ m w hs hm)
  have Hl := Lib.hid (show (⟨#[10]⟩ : ByteArray).data.toList = [10] from rfl)
  rw [Hl.out] at HC
  obtain ⟨x, hx⟩ : ∃ x, x = Lib.cut s.data.toList [10] := ⟨_, rfl⟩
  unfold RowPost
  rw [← hx] at HC ⊢
  clear hm hx
  obtain ⟨x, rest, ok⟩ := x
  cases ok with
  | true =>
    go_enter Tryz.func106, Tryz.ntmps106
    go_wp2_with fail
    (with_reducible refine HC.out.mono ?_)
    rintro e w1 ⟨rfl, n, rfl⟩
    have hk := Kp.of_drewN w n
    have hc1 := hk.cell hc
    have hf1 := (Fr.of_kp hk).free hc hf (by simp)
    have hset := Fr.set (w.drewN n) ⟨b, 0, none⟩ (.string (bs rest))
    have hcz : ((w.drewN n).setCell ⟨b, 0, none⟩ (.string (bs rest))).cell? ⟨b, 0, none⟩ = some (.string (bs rest)) := World.cell?_setCell_same _ _ _ hc1
    have hfz : ((w.drewN n).setCell ⟨b, 0, none⟩ (.string (bs rest))).frozen? ⟨b, 0, none⟩ = false := by rw [World.frozen?_setCell]; exact hf1
    have Hy := Lib.hid (And.intro (((Fr.of_kp hk).mono (by simp)).trans hset) (And.intro hcz hfz))
    clear hset hk hfz hcz
    go_wp2_with fail
    (with_reducible refine (ask_true _).mono ?_)
    rintro e w2 ⟨rfl, rfl⟩
    go_wp2_with fail
    go_ret
    exact ⟨rfl, Hy.out⟩
  | false =>
    go_enter Tryz.func106, Tryz.ntmps106
    go_wp2_with fail
    (with_reducible refine HC.out.mono ?_)
    rintro e w1 ⟨rfl, n, rfl⟩
    have Hk := Lib.hid (Kp.of_drewN w n)
    go_wp2_with fail
    (with_reducible refine (ask_false _).mono ?_)
    rintro e w2 ⟨rfl, rfl⟩
    unfold badE
    go_wp2_with fail
    exact ⟨rfl, rfl, Hk.out⟩
end Go.Proofs.YtkmejehhdjdlbaaGreatDoor
