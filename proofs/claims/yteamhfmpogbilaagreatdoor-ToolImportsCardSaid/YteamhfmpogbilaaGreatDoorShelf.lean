/- Contracts of the library, laid by a tool of the kit for this seat; cut to what the claim uses. -/
import Derived.Shelf.SlSortCmp.WholeK
import Derived.Shelf.SlSortCmp.NoneTotal
import Derived.Ground.SlsfProg
import Derived.Shelf.SlGeneric
import Derived.Shelf.Strings.Builder1
import Derived.Shelf.Strings.Builder2
import Derived.Shelf.Strings.OnBuilder
import Derived.Shelf.Small.Bits
import Derived.Shelf.Small.Strs
import Derived.Shelf.Strings.BuilderF
import Derived.Shelf.Strings.BuilderK
import Derived.Shelf.Utf8.RuneCount
import Derived.Shelf.Strings.Builder2Cap
import Derived.Shelf.Strconv.Atoi
import Derived.Shelf.Strconv.Itoa0
import Derived.Shelf.Strconv.Itoa1
import Derived.Shelf.LaysM
import Derived.Shelf.Strconv.Itoa2
import Derived.Shelf.Strconv.Itoa3
import Derived.Shelf.Strconv.AtoiErrFast
import Derived.Shelf.Strconv.ParseIntEmpty
import Derived.Shelf.Strconv.AtoiFail
import Derived.Shelf.Strconv.Clone
import Derived.Shelf.Strconv.SyntaxError
import Derived.Shelf.LaysC
import Derived.Shelf.Strconv.ToError
import Derived.Shelf.Strconv.AtoiErr
import Derived.Shelf.Strconv.Lower
import Derived.Shelf.Strconv.ParseUint10
import Derived.Shelf.Strconv.ParseUint10Empty
import Derived.Shelf.Strconv.ParseUint10Any
import Derived.Shelf.Strconv.ParseInt10
import Derived.Shelf.Strconv.AtoiLong
import Derived.Shelf.Strconv.AtoiInnerAll
import Derived.Shelf.Strconv.RangeError
import Derived.Shelf.Strconv.ToErrorRange
import Derived.Shelf.Strconv.AtoiAll
import Derived.Shelf.Strconv.ErrVarAll
import Derived.Shelf.Strconv.ParseUintEmpty
import Derived.Shelf.Strings.Search1
import Derived.Shelf.Strings.Search2
import Derived.Shelf.Strings.Search3
import Derived.Shelf.Strings.Count
import Derived.Shelf.Strings.Shaped
import Derived.Shelf.Strings.Prefix
import Derived.Shelf.Strings.Split
import Derived.Shelf.Strings.SplitShaped
import Derived.Shelf.Unicode.Decode
import Derived.Shelf.Strings.RuneCount
import Derived.Shelf.Strings.Explode
import Derived.Shelf.Bits.Mul64
import Derived.Shelf.Unicode.DecodeSlow
import Derived.Shelf.Unicode.DecodeAny
import Derived.Shelf.Strings.BuilderCap
import Derived.Test.YteamhfmpogbilaaGreatDoorProg
namespace Go.Proofs
open Go.Shelf
def Tryz.lays169_ren : Go.Shelf.Ren := ⟨fun | 169 => 72 | n => n, fun | 70 => 132 | 9 => 9 | 0 => 0 | 72 => 134 | 37 => 85 | 127 => 207 | 3 => 3 | 5 => 5 | n => n, fun | n => n⟩
theorem Tryz.lays169 : Go.Proofs.Lays.n169 Tryz.prog Tryz.lays169_ren := {
 mixed := by kernel_rfl
 f169 := Tryz.func72.trans (congrArg some (by kernel_rfl))
 t0 := Tryz.underlying0
 a0 := Tryz.isAgg0
 z0 := Tryz.sizeOf0
 v0 := Tryz.zeroValue0
 t3 := Tryz.underlying3
 a3 := Tryz.isAgg3
 z3 := Tryz.sizeOf3
 v3 := Tryz.zeroValue3
 t9 := Tryz.underlying9
 a9 := Tryz.isAgg9
 z9 := Tryz.sizeOf9
 v9 := Tryz.zeroValue9
 t37 := Tryz.underlying85
 a37 := Tryz.isAgg85
 z37 := Tryz.sizeOf85
 v37 := Tryz.zeroValue85
 t70 := Tryz.underlying132
 a70 := Tryz.isAgg132
 z70 := Tryz.sizeOf132
 v70 := Tryz.zeroValue132
 t72 := Tryz.underlying134
 a72 := Tryz.isAgg134
 z72 := Tryz.sizeOf134
 v72 := Tryz.zeroValue134
 t127 := Tryz.underlying207
 a127 := Tryz.isAgg207
 z127 := Tryz.sizeOf207
 v127 := Tryz.zeroValue207 }
theorem Tryz.Builder_Extra_169 : Builder.Extra Tryz.prog Tryz.lays169_ren := {
 sizeBuilder := by kernel_rfl
 liesBuilder := by kernel_rfl
 t5 := Tryz.underlying5
 a5 := Tryz.isAgg5
 z5 := Tryz.sizeOf5
 v5 := Tryz.zeroValue5
 infoByte := by kernel_rfl
 cellsByte := by kernel_rfl
 sizeByte := by kernel_rfl
 neB5 := by decide }
def Tryz.lays156_ren : Go.Shelf.Ren := ⟨fun | 156 => 122 | 165 => 166 | 166 => 67 | 169 => 72 | 240 => 121 | 241 => 190 | 276 => 165 | 277 => 214 | n => n, fun | 31 => 41 | 9 => 9 | 3 => 3 | 4 => 4 | 0 => 0 | 20 => 20 | 72 => 134 | 76 => 153 | 70 => 132 | 37 => 85 | 75 => 152 | 127 => 207 | 164 => 245 | 5 => 5 | 80 => 158 | n => n, fun | n => n⟩
theorem Tryz.lays156 : Go.Proofs.Lays.n156 Tryz.prog Tryz.lays156_ren := {
 mixed := by kernel_rfl
 f156 := Tryz.func122.trans (congrArg some (by kernel_rfl))
 f165 := Tryz.func166.trans (congrArg some (by kernel_rfl))
 f166 := Tryz.func67.trans (congrArg some (by kernel_rfl))
 f169 := Tryz.func72.trans (congrArg some (by kernel_rfl))
 f240 := Tryz.func121.trans (congrArg some (by kernel_rfl))
 f241 := Tryz.func190.trans (congrArg some (by kernel_rfl))
 f276 := Tryz.func165.trans (congrArg some (by kernel_rfl))
 f277 := Tryz.func214.trans (congrArg some (by kernel_rfl))
 t0 := Tryz.underlying0
 a0 := Tryz.isAgg0
 z0 := Tryz.sizeOf0
 v0 := Tryz.zeroValue0
 t3 := Tryz.underlying3
 a3 := Tryz.isAgg3
 z3 := Tryz.sizeOf3
 v3 := Tryz.zeroValue3
 t4 := Tryz.underlying4
 a4 := Tryz.isAgg4
 z4 := Tryz.sizeOf4
 v4 := Tryz.zeroValue4
 t9 := Tryz.underlying9
 a9 := Tryz.isAgg9
 z9 := Tryz.sizeOf9
 v9 := Tryz.zeroValue9
 t20 := Tryz.underlying20
 a20 := Tryz.isAgg20
 z20 := Tryz.sizeOf20
 v20 := Tryz.zeroValue20
 t31 := Tryz.underlying41
 a31 := Tryz.isAgg41
 z31 := Tryz.sizeOf41
 v31 := Tryz.zeroValue41
 t37 := Tryz.underlying85
 a37 := Tryz.isAgg85
 z37 := Tryz.sizeOf85
 v37 := Tryz.zeroValue85
 t70 := Tryz.underlying132
 a70 := Tryz.isAgg132
 z70 := Tryz.sizeOf132
 v70 := Tryz.zeroValue132
 t72 := Tryz.underlying134
 a72 := Tryz.isAgg134
 z72 := Tryz.sizeOf134
 v72 := Tryz.zeroValue134
 t75 := Tryz.underlying152
 a75 := Tryz.isAgg152
 z75 := Tryz.sizeOf152
 v75 := Tryz.zeroValue152
 t76 := Tryz.underlying153
 a76 := Tryz.isAgg153
 z76 := Tryz.sizeOf153
 v76 := Tryz.zeroValue153
 t127 := Tryz.underlying207
 a127 := Tryz.isAgg207
 z127 := Tryz.sizeOf207
 v127 := Tryz.zeroValue207
 t164 := Tryz.underlying245
 a164 := Tryz.isAgg245
 z164 := Tryz.sizeOf245
 v164 := Tryz.zeroValue245 }
theorem Tryz.Builder_Extra_156 : Builder.Extra Tryz.prog Tryz.lays156_ren := {
 sizeBuilder := by kernel_rfl
 liesBuilder := by kernel_rfl
 t5 := Tryz.underlying5
 a5 := Tryz.isAgg5
 z5 := Tryz.sizeOf5
 v5 := Tryz.zeroValue5
 infoByte := by kernel_rfl
 cellsByte := by kernel_rfl
 sizeByte := by kernel_rfl
 neB5 := by decide }
open Go.RowKit in
theorem Tryz.strings_Join_none (a : Option Addr) (c : Nat) (sep : ByteArray) (w : World) :
  Calls Tryz.prog 122 #[.slice a 0 c, .string sep] w fun e w' => e = .returned (.string ⟨#[]⟩) ∧ w' = w := Any.strings_Join_none Tryz.lays156 Tryz.Builder_Extra_156 a c sep w
open Go.RowKit in
theorem Tryz.strings_Join (bk o c : Nat) (xs : List ByteArray) (sep : ByteArray) (w : World) (hcells : ∀ (j : Nat) x, xs[j]? = some x → w.cell? ⟨bk, o + j, none⟩ = some (.string x)) (hbk : bk < w.heap.size) (hN : xs.length ≤ 140737488355328) (hcap : xs.length ≤ c) (hlen : (Lib.join (xs.map (·.data.toList)) sep.data.toList).length ≤ 140737488355328) :
  Calls Tryz.prog 122 #[.slice (some ⟨bk, o, none⟩) xs.length c, .string sep] w fun e w' => e = .returned (.string ⟨(Lib.join (xs.map (·.data.toList)) sep.data.toList).toArray⟩) ∧ Below w.heap.size w w' := Any.strings_Join Tryz.lays156 Tryz.Builder_Extra_156 bk o c xs sep w hcells hbk hN hcap hlen
def Tryz.lays137_ren : Go.Shelf.Ren := ⟨fun | 137 => 174 | 217 => 196 | 266 => 223 | n => n, fun | 9 => 9 | 5 => 5 | 3 => 3 | n => n, fun | n => n⟩
theorem Tryz.lays137 : Go.Proofs.Lays.n137 Tryz.prog Tryz.lays137_ren := {
 mixed := by kernel_rfl
 f137 := Tryz.func174.trans (congrArg some (by kernel_rfl))
 f217 := Tryz.func196.trans (congrArg some (by kernel_rfl))
 f266 := Tryz.func223.trans (congrArg some (by kernel_rfl))
 t3 := Tryz.underlying3
 a3 := Tryz.isAgg3
 z3 := Tryz.sizeOf3
 v3 := Tryz.zeroValue3
 t5 := Tryz.underlying5
 a5 := Tryz.isAgg5
 z5 := Tryz.sizeOf5
 v5 := Tryz.zeroValue5
 t9 := Tryz.underlying9
 a9 := Tryz.isAgg9
 z9 := Tryz.sizeOf9
 v9 := Tryz.zeroValue9 }
open Go.RowKit in
theorem Tryz.strings_IndexByte (s : ByteArray) (c : Int) (w : World) :
  Calls Tryz.prog 174 #[.string s, .int .u8 c] w fun e w' => e = .returned (.int .i64 (Lib.indexByte s.data.toList c.toNat.toUInt8)) ∧ w' = w := Any.strings_IndexByte Tryz.lays137 s c w
open Go.RowKit in
theorem Tryz.Builder_String_any_k (B b : Nat) (l : List UInt8) (w : World) (h : Lib.IsBuilderF 134 5 B b (Lib.byteCells l) w) (hBw : B ≤ w.heap.size) :
  Calls Tryz.prog 72 #[.pointer (some ⟨b, 0, none⟩)] w fun e w' => e = .returned (.string ⟨l.toArray⟩) ∧ (Lib.IsBuilderF 134 5 B b (Lib.byteCells l) w' ∧ Below B w w' ∧ Lib.OthersKept 5 (some b) w w') := Any.Builder_String_any_k Tryz.lays169 Tryz.Builder_Extra_169 B b l w h hBw
def Tryz.lays172_ren : Go.Shelf.Ren := ⟨fun | 172 => 140 | 244 => 175 | 245 => 176 | 247 => 200 | 279 => 201 | 280 => 202 | 281 => 203 | 282 => 204 | 287 => 225 | 316 => 171 | 171 => 123 | 205 => 226 | 321 => 242 | 322 => 243 | 243 => 167 | 246 => 191 | 283 => 215 | 284 => 216 | 285 => 217 | 286 => 218 | 129 => 150 | 317 => 238 | 318 => 239 | 319 => 240 | 320 => 241 | 337 => 251 | 338 => 252 | n => n, fun | 9 => 9 | 3 => 3 | 75 => 152 | 76 => 153 | 4 => 4 | 5 => 5 | 167 => 287 | 37 => 85 | 0 => 0 | 85 => 288 | 2 => 2 | 168 => 290 | 53 => 235 | 175 => 312 | 46 => 194 | 210 => 315 | 127 => 207 | 145 => 337 | 143 => 335 | 21 => 21 | 171 => 303 | 173 => 305 | 212 => 332 | 51 => 233 | 20 => 20 | 213 => 333 | 232 => 344 | 233 => 345 | 80 => 158 | n => n, fun | 15 => 4 | 16 => 5 | 17 => 6 | 18 => 7 | 19 => 8 | n => n⟩
def Tryz.laysM246_ren : Go.Shelf.Ren := ⟨fun | 246 => 191 | 283 => 215 | 284 => 216 | 285 => 217 | 286 => 218 | 129 => 150 | 317 => 238 | 318 => 239 | 319 => 240 | 320 => 241 | 337 => 251 | 338 => 252 | n => n, fun | 2 => 2 | 3 => 3 | 9 => 9 | 4 => 4 | 171 => 303 | 0 => 0 | 53 => 235 | 37 => 85 | 5 => 5 | 173 => 305 | 212 => 332 | 51 => 233 | 20 => 20 | 213 => 333 | 46 => 194 | 232 => 344 | 233 => 345 | n => n, fun | 17 => 6 | 18 => 7 | 19 => 8 | n => n⟩
def Tryz.laysM243_ren : Go.Shelf.Ren := ⟨fun | 243 => 167 | 246 => 191 | 283 => 215 | 284 => 216 | 285 => 217 | 286 => 218 | 129 => 150 | 317 => 238 | 318 => 239 | 319 => 240 | 320 => 241 | 337 => 251 | 338 => 252 | n => n, fun | 3 => 3 | 9 => 9 | 2 => 2 | 4 => 4 | 171 => 303 | 0 => 0 | 53 => 235 | 37 => 85 | 5 => 5 | 173 => 305 | 212 => 332 | 51 => 233 | 20 => 20 | 213 => 333 | 46 => 194 | 232 => 344 | 233 => 345 | n => n, fun | 17 => 6 | 18 => 7 | 19 => 8 | n => n⟩
def Tryz.laysM171_ren : Go.Shelf.Ren := ⟨fun | 171 => 123 | 243 => 167 | 246 => 191 | 283 => 215 | 284 => 216 | 285 => 217 | 286 => 218 | 129 => 150 | 317 => 238 | 318 => 239 | 319 => 240 | 320 => 241 | 337 => 251 | 338 => 252 | n => n, fun | 3 => 3 | 9 => 9 | 2 => 2 | 4 => 4 | 171 => 303 | 0 => 0 | 53 => 235 | 37 => 85 | 5 => 5 | 173 => 305 | 212 => 332 | 51 => 233 | 20 => 20 | 213 => 333 | 46 => 194 | 232 => 344 | 233 => 345 | n => n, fun | 17 => 6 | 18 => 7 | 19 => 8 | n => n⟩
theorem Tryz.laysM171 : Go.Proofs.LaysM.n171 Tryz.prog Tryz.laysM171_ren := {
 mixed := by kernel_rfl
 f129 := Tryz.func150.trans (congrArg some (by kernel_rfl))
 f171 := Tryz.func123.trans (congrArg some (by kernel_rfl))
 f243 := Tryz.func167.trans (congrArg some (by kernel_rfl))
 f246 := Tryz.func191.trans (congrArg some (by kernel_rfl))
 f283 := Tryz.func215.trans (congrArg some (by kernel_rfl))
 f284 := Tryz.func216.trans (congrArg some (by kernel_rfl))
 f285 := Tryz.func217.trans (congrArg some (by kernel_rfl))
 f286 := Tryz.func218.trans (congrArg some (by kernel_rfl))
 f317 := Tryz.func238.trans (congrArg some (by kernel_rfl))
 f318 := Tryz.func239.trans (congrArg some (by kernel_rfl))
 f319 := Tryz.func240.trans (congrArg some (by kernel_rfl))
 f320 := Tryz.func241.trans (congrArg some (by kernel_rfl))
 f337 := Tryz.func251.trans (congrArg some (by kernel_rfl))
 f338 := Tryz.func252.trans (congrArg some (by kernel_rfl))
 t0 := Tryz.underlying0
 a0 := Tryz.isAgg0
 z0 := Tryz.sizeOf0
 v0 := Tryz.zeroValue0
 t2 := Tryz.underlying2
 a2 := Tryz.isAgg2
 z2 := Tryz.sizeOf2
 v2 := Tryz.zeroValue2
 t3 := Tryz.underlying3
 a3 := Tryz.isAgg3
 z3 := Tryz.sizeOf3
 v3 := Tryz.zeroValue3
 t4 := Tryz.underlying4
 a4 := Tryz.isAgg4
 z4 := Tryz.sizeOf4
 v4 := Tryz.zeroValue4
 t5 := Tryz.underlying5
 a5 := Tryz.isAgg5
 z5 := Tryz.sizeOf5
 v5 := Tryz.zeroValue5
 t9 := Tryz.underlying9
 a9 := Tryz.isAgg9
 z9 := Tryz.sizeOf9
 v9 := Tryz.zeroValue9
 t20 := Tryz.underlying20
 a20 := Tryz.isAgg20
 z20 := Tryz.sizeOf20
 v20 := Tryz.zeroValue20
 t37 := Tryz.underlying85
 a37 := Tryz.isAgg85
 z37 := Tryz.sizeOf85
 v37 := Tryz.zeroValue85
 t46 := Tryz.underlying194
 a46 := Tryz.isAgg194
 z46 := Tryz.sizeOf194
 v46 := Tryz.zeroValue194
 t51 := Tryz.underlying233
 a51 := Tryz.isAgg233
 z51 := Tryz.sizeOf233
 v51 := Tryz.zeroValue233
 t53 := Tryz.underlying235
 a53 := Tryz.isAgg235
 z53 := Tryz.sizeOf235
 v53 := Tryz.zeroValue235
 t171 := Tryz.underlying303
 a171 := Tryz.isAgg303
 z171 := Tryz.sizeOf303
 v171 := Tryz.zeroValue303
 t173 := Tryz.underlying305
 a173 := Tryz.isAgg305
 z173 := Tryz.sizeOf305
 v173 := Tryz.zeroValue305
 t212 := Tryz.underlying332
 a212 := Tryz.isAgg332
 z212 := Tryz.sizeOf332
 v212 := Tryz.zeroValue332
 t213 := Tryz.underlying333
 a213 := Tryz.isAgg333
 z213 := Tryz.sizeOf333
 t232 := Tryz.underlying344
 a232 := Tryz.isAgg344
 z232 := Tryz.sizeOf344
 v232 := Tryz.zeroValue344
 t233 := Tryz.underlying345
 a233 := Tryz.isAgg345
 z233 := Tryz.sizeOf345
 v233 := Tryz.zeroValue345
 g17 := by kernel_rfl
 g18 := by kernel_rfl
 g19 := by kernel_rfl
 i0 := by kernel_rfl
 i2 := by kernel_rfl
 i3 := by kernel_rfl
 i4 := by kernel_rfl
 i5 := by kernel_rfl
 i9 := by kernel_rfl
 i20 := by kernel_rfl
 i37 := by kernel_rfl
 i46 := by kernel_rfl
 i51 := by kernel_rfl
 i53 := by kernel_rfl
 i171 := by kernel_rfl
 i173 := by kernel_rfl
 i212 := by kernel_rfl
 i232 := by kernel_rfl
 i233 := by kernel_rfl
 m17 := by kernel_rfl
 m18 := by kernel_rfl
 m19 := by kernel_rfl }
open Go.RowKit Go.Sort Go.Lib in
theorem Tryz.strconv_Itoa (n : Int) (h0 : -9223372036854775808 ≤ n) (h1 : n ≤ 9223372036854775807) (w : World) (htab : Lib.TabIs Tryz.prog w "internal/strconv.uint64pow10" .u64 Lib.pow10Tab) :
  Calls Tryz.prog 123 #[.int .i64 n] w fun e w' => e = .returned (.string ⟨(Lib.itoa n).toArray⟩) ∧ ∃ k os, w' = grow (w.drewN k) os := Any.strconv_Itoa Tryz.laysM171 n h0 h1 w htab
def Tryz.laysC172_ren : Go.Shelf.Ren := ⟨fun | 172 => 140 | 244 => 175 | 245 => 176 | 247 => 200 | 279 => 201 | 280 => 202 | 281 => 203 | 282 => 204 | 287 => 225 | 316 => 171 | 171 => 123 | 205 => 226 | 321 => 242 | 322 => 243 | 243 => 167 | 246 => 191 | 283 => 215 | 284 => 216 | 285 => 217 | 286 => 218 | 129 => 150 | 317 => 238 | 318 => 239 | 319 => 240 | 320 => 241 | 337 => 251 | 338 => 252 | n => n, fun | 9 => 9 | 3 => 3 | 75 => 152 | 76 => 153 | 4 => 4 | 5 => 5 | 167 => 287 | 37 => 85 | 0 => 0 | 85 => 288 | 2 => 2 | 168 => 290 | 53 => 235 | 175 => 312 | 46 => 194 | 210 => 315 | 127 => 207 | 145 => 337 | 143 => 335 | 21 => 21 | 171 => 303 | 173 => 305 | 212 => 332 | 51 => 233 | 20 => 20 | 213 => 333 | 232 => 344 | 233 => 345 | 80 => 158 | n => n, fun | 15 => 4 | 16 => 5 | 17 => 6 | 18 => 7 | 19 => 8 | n => n⟩
theorem Tryz.laysC172 : Go.Proofs.LaysC.n172 Tryz.prog Tryz.laysC172_ren := {
 mixed := by kernel_rfl
 f129 := Tryz.func150.trans (congrArg some (by kernel_rfl))
 f171 := Tryz.func123.trans (congrArg some (by kernel_rfl))
 f172 := Tryz.func140.trans (congrArg some (by kernel_rfl))
 f205 := Tryz.func226.trans (congrArg some (by kernel_rfl))
 f243 := Tryz.func167.trans (congrArg some (by kernel_rfl))
 f244 := Tryz.func175.trans (congrArg some (by kernel_rfl))
 f245 := Tryz.func176.trans (congrArg some (by kernel_rfl))
 f246 := Tryz.func191.trans (congrArg some (by kernel_rfl))
 f247 := Tryz.func200.trans (congrArg some (by kernel_rfl))
 f279 := Tryz.func201.trans (congrArg some (by kernel_rfl))
 f280 := Tryz.func202.trans (congrArg some (by kernel_rfl))
 f281 := Tryz.func203.trans (congrArg some (by kernel_rfl))
 f282 := Tryz.func204.trans (congrArg some (by kernel_rfl))
 f283 := Tryz.func215.trans (congrArg some (by kernel_rfl))
 f284 := Tryz.func216.trans (congrArg some (by kernel_rfl))
 f285 := Tryz.func217.trans (congrArg some (by kernel_rfl))
 f286 := Tryz.func218.trans (congrArg some (by kernel_rfl))
 f287 := Tryz.func225.trans (congrArg some (by kernel_rfl))
 f316 := Tryz.func171.trans (congrArg some (by kernel_rfl))
 f317 := Tryz.func238.trans (congrArg some (by kernel_rfl))
 f318 := Tryz.func239.trans (congrArg some (by kernel_rfl))
 f319 := Tryz.func240.trans (congrArg some (by kernel_rfl))
 f320 := Tryz.func241.trans (congrArg some (by kernel_rfl))
 f321 := Tryz.func242.trans (congrArg some (by kernel_rfl))
 f322 := Tryz.func243.trans (congrArg some (by kernel_rfl))
 f337 := Tryz.func251.trans (congrArg some (by kernel_rfl))
 f338 := Tryz.func252.trans (congrArg some (by kernel_rfl))
 t0 := Tryz.underlying0
 a0 := Tryz.isAgg0
 z0 := Tryz.sizeOf0
 v0 := Tryz.zeroValue0
 t2 := Tryz.underlying2
 a2 := Tryz.isAgg2
 z2 := Tryz.sizeOf2
 v2 := Tryz.zeroValue2
 t3 := Tryz.underlying3
 a3 := Tryz.isAgg3
 z3 := Tryz.sizeOf3
 v3 := Tryz.zeroValue3
 t4 := Tryz.underlying4
 a4 := Tryz.isAgg4
 z4 := Tryz.sizeOf4
 v4 := Tryz.zeroValue4
 t5 := Tryz.underlying5
 a5 := Tryz.isAgg5
 z5 := Tryz.sizeOf5
 v5 := Tryz.zeroValue5
 t9 := Tryz.underlying9
 a9 := Tryz.isAgg9
 z9 := Tryz.sizeOf9
 v9 := Tryz.zeroValue9
 t20 := Tryz.underlying20
 a20 := Tryz.isAgg20
 z20 := Tryz.sizeOf20
 v20 := Tryz.zeroValue20
 t21 := Tryz.underlying21
 a21 := Tryz.isAgg21
 z21 := Tryz.sizeOf21
 v21 := Tryz.zeroValue21
 t37 := Tryz.underlying85
 a37 := Tryz.isAgg85
 z37 := Tryz.sizeOf85
 v37 := Tryz.zeroValue85
 t46 := Tryz.underlying194
 a46 := Tryz.isAgg194
 z46 := Tryz.sizeOf194
 v46 := Tryz.zeroValue194
 t51 := Tryz.underlying233
 a51 := Tryz.isAgg233
 z51 := Tryz.sizeOf233
 v51 := Tryz.zeroValue233
 t53 := Tryz.underlying235
 a53 := Tryz.isAgg235
 z53 := Tryz.sizeOf235
 v53 := Tryz.zeroValue235
 t75 := Tryz.underlying152
 a75 := Tryz.isAgg152
 z75 := Tryz.sizeOf152
 v75 := Tryz.zeroValue152
 t76 := Tryz.underlying153
 a76 := Tryz.isAgg153
 z76 := Tryz.sizeOf153
 v76 := Tryz.zeroValue153
 t85 := Tryz.underlying288
 a85 := Tryz.isAgg288
 z85 := Tryz.sizeOf288
 v85 := Tryz.zeroValue288
 t127 := Tryz.underlying207
 a127 := Tryz.isAgg207
 z127 := Tryz.sizeOf207
 v127 := Tryz.zeroValue207
 t143 := Tryz.underlying335
 a143 := Tryz.isAgg335
 z143 := Tryz.sizeOf335
 v143 := Tryz.zeroValue335
 t145 := Tryz.underlying337
 a145 := Tryz.isAgg337
 z145 := Tryz.sizeOf337
 v145 := Tryz.zeroValue337
 t167 := Tryz.underlying287
 a167 := Tryz.isAgg287
 z167 := Tryz.sizeOf287
 v167 := Tryz.zeroValue287
 t168 := Tryz.underlying290
 a168 := Tryz.isAgg290
 z168 := Tryz.sizeOf290
 v168 := Tryz.zeroValue290
 t171 := Tryz.underlying303
 a171 := Tryz.isAgg303
 z171 := Tryz.sizeOf303
 v171 := Tryz.zeroValue303
 t173 := Tryz.underlying305
 a173 := Tryz.isAgg305
 z173 := Tryz.sizeOf305
 v173 := Tryz.zeroValue305
 t175 := Tryz.underlying312
 a175 := Tryz.isAgg312
 z175 := Tryz.sizeOf312
 v175 := Tryz.zeroValue312
 t210 := Tryz.underlying315
 a210 := Tryz.isAgg315
 z210 := Tryz.sizeOf315
 v210 := Tryz.zeroValue315
 t212 := Tryz.underlying332
 a212 := Tryz.isAgg332
 z212 := Tryz.sizeOf332
 v212 := Tryz.zeroValue332
 t213 := Tryz.underlying333
 a213 := Tryz.isAgg333
 z213 := Tryz.sizeOf333
 t232 := Tryz.underlying344
 a232 := Tryz.isAgg344
 z232 := Tryz.sizeOf344
 v232 := Tryz.zeroValue344
 t233 := Tryz.underlying345
 a233 := Tryz.isAgg345
 z233 := Tryz.sizeOf345
 v233 := Tryz.zeroValue345
 g15 := by kernel_rfl
 g16 := by kernel_rfl
 g17 := by kernel_rfl
 g18 := by kernel_rfl
 g19 := by kernel_rfl
 t80 := Tryz.underlying158
 a80 := Tryz.isAgg158
 z80 := Tryz.sizeOf158
 v80 := Tryz.zeroValue158
 i0 := by kernel_rfl
 i2 := by kernel_rfl
 i3 := by kernel_rfl
 i4 := by kernel_rfl
 i5 := by kernel_rfl
 i9 := by kernel_rfl
 i20 := by kernel_rfl
 i21 := by kernel_rfl
 i37 := by kernel_rfl
 i46 := by kernel_rfl
 i51 := by kernel_rfl
 i53 := by kernel_rfl
 i75 := by kernel_rfl
 i76 := by kernel_rfl
 i80 := by kernel_rfl
 i85 := by kernel_rfl
 i127 := by kernel_rfl
 i143 := by kernel_rfl
 i145 := by kernel_rfl
 i167 := by kernel_rfl
 i168 := by kernel_rfl
 i171 := by kernel_rfl
 i173 := by kernel_rfl
 i175 := by kernel_rfl
 i210 := by kernel_rfl
 i212 := by kernel_rfl
 i232 := by kernel_rfl
 i233 := by kernel_rfl
 m15 := by kernel_rfl
 m16 := by kernel_rfl
 m17 := by kernel_rfl
 m18 := by kernel_rfl
 m19 := by kernel_rfl
 c0 := by kernel_rfl
 c2 := by kernel_rfl
 c3 := by kernel_rfl
 c4 := by kernel_rfl
 c5 := by kernel_rfl
 c9 := by kernel_rfl
 c20 := by kernel_rfl
 c21 := by kernel_rfl
 c37 := by kernel_rfl
 c46 := by kernel_rfl
 c51 := by kernel_rfl
 c53 := by kernel_rfl
 c75 := by kernel_rfl
 c76 := by kernel_rfl
 c80 := by kernel_rfl
 c85 := by kernel_rfl
 c127 := by kernel_rfl
 c143 := by kernel_rfl
 c145 := by kernel_rfl
 c167 := by kernel_rfl
 c168 := by kernel_rfl
 c171 := by kernel_rfl
 c173 := by kernel_rfl
 c175 := by kernel_rfl
 c210 := by kernel_rfl
 c212 := by kernel_rfl
 c213 := by kernel_rfl
 c232 := by kernel_rfl
 c233 := by kernel_rfl }
open Go.RowKit in
theorem Tryz.strconv_Atoi_ok (s : ByteArray) (hmax : s.size ≤ 9223372036854775806) (v : Int) (h : Lib.atoiAll s.data.toList = .ok v) (w : World) :
  Calls Tryz.prog 140 #[.string s] w fun e w' => e = .returned (.tuple #[.int .i64 v, .nilIface]) ∧ (w' = w ∨ ∃ t, w' = Lib.bytesWorld w 5 t) := Any.strconv_Atoi_ok Tryz.laysC172 s hmax v h w
open Go.RowKit in
theorem Tryz.strconv_Atoi_range (s : ByteArray) (hlim : s.size ≤ 281474976710656) (h : Lib.atoiAll s.data.toList = .range) (ev : Value) (w : World) (hv : w.cell? ⟨5, 0, none⟩ = some ev) (hev : ev = .nilIface ∨ ∃ te pe, ev = .iface te pe) :
  Calls Tryz.prog 140 #[.string s] w fun e w' => ∃ N, e = .returned (.tuple #[.int .i64 (Lib.atoiSat s.data.toList), .iface 290 (.pointer (some ⟨N, 0, none⟩))]) ∧ w.heap.size ≤ N ∧ w'.heap[N]? = some (.cells #[.string ⟨#[65, 116, 111, 105]⟩, .string s, ev] 315 (0, 0)) ∧ Below w.heap.size w w' := Any.strconv_Atoi_range Tryz.laysC172 s hlim h ev w hv hev
def Tryz.lays219_ren : Go.Shelf.Ren := ⟨fun | 219 => 173 | 217 => 196 | 225 => 197 | 224 => 198 | 267 => 199 | 266 => 223 | 314 => 224 | n => n, fun | 9 => 9 | 3 => 3 | 4 => 4 | 5 => 5 | 46 => 194 | 146 => 307 | 51 => 233 | n => n, fun | 1 => 3 | n => n⟩
def Tryz.lays143_ren : Go.Shelf.Ren := ⟨fun | 143 => 138 | 219 => 173 | 217 => 196 | 225 => 197 | 224 => 198 | 267 => 199 | 266 => 223 | 314 => 224 | n => n, fun | 9 => 9 | 3 => 3 | 4 => 4 | 5 => 5 | 46 => 194 | 146 => 307 | 51 => 233 | n => n, fun | 1 => 3 | n => n⟩
theorem Tryz.lays143 : Go.Proofs.Lays.n143 Tryz.prog Tryz.lays143_ren := {
 mixed := by kernel_rfl
 f143 := Tryz.func138.trans (congrArg some (by kernel_rfl))
 f217 := Tryz.func196.trans (congrArg some (by kernel_rfl))
 f219 := Tryz.func173.trans (congrArg some (by kernel_rfl))
 f224 := Tryz.func198.trans (congrArg some (by kernel_rfl))
 f225 := Tryz.func197.trans (congrArg some (by kernel_rfl))
 f266 := Tryz.func223.trans (congrArg some (by kernel_rfl))
 f267 := Tryz.func199.trans (congrArg some (by kernel_rfl))
 f314 := Tryz.func224.trans (congrArg some (by kernel_rfl))
 t3 := Tryz.underlying3
 a3 := Tryz.isAgg3
 z3 := Tryz.sizeOf3
 v3 := Tryz.zeroValue3
 t4 := Tryz.underlying4
 a4 := Tryz.isAgg4
 z4 := Tryz.sizeOf4
 v4 := Tryz.zeroValue4
 t5 := Tryz.underlying5
 a5 := Tryz.isAgg5
 z5 := Tryz.sizeOf5
 v5 := Tryz.zeroValue5
 t9 := Tryz.underlying9
 a9 := Tryz.isAgg9
 z9 := Tryz.sizeOf9
 v9 := Tryz.zeroValue9
 t46 := Tryz.underlying194
 a46 := Tryz.isAgg194
 z46 := Tryz.sizeOf194
 v46 := Tryz.zeroValue194
 t51 := Tryz.underlying233
 a51 := Tryz.isAgg233
 z51 := Tryz.sizeOf233
 v51 := Tryz.zeroValue233
 t146 := Tryz.underlying307
 a146 := Tryz.isAgg307
 z146 := Tryz.sizeOf307
 v146 := Tryz.zeroValue307
 g1 := by kernel_rfl }
open Go.RowKit Go.Lib in
theorem Tryz.strings_Index_one (s : ByteArray) (c : UInt8) (w : World) :
  Calls Tryz.prog 138 #[.string s, .string ⟨#[c]⟩] w fun e w' => e = .returned (.int .i64 (Lib.indexByte s.data.toList c)) ∧ w' = w := Any.strings_Index_one Tryz.lays143 s c w
def Tryz.lays206_ren : Go.Shelf.Ren := ⟨fun | 206 => 168 | n => n, fun | 9 => 9 | 4 => 4 | 3 => 3 | n => n, fun | n => n⟩
def Tryz.lays99_ren : Go.Shelf.Ren := ⟨fun | 99 => 130 | 206 => 168 | n => n, fun | 9 => 9 | 4 => 4 | 3 => 3 | n => n, fun | n => n⟩
theorem Tryz.lays99 : Go.Proofs.Lays.n99 Tryz.prog Tryz.lays99_ren := {
 mixed := by kernel_rfl
 f99 := Tryz.func130.trans (congrArg some (by kernel_rfl))
 f206 := Tryz.func168.trans (congrArg some (by kernel_rfl))
 t3 := Tryz.underlying3
 a3 := Tryz.isAgg3
 z3 := Tryz.sizeOf3
 v3 := Tryz.zeroValue3
 t4 := Tryz.underlying4
 a4 := Tryz.isAgg4
 z4 := Tryz.sizeOf4
 v4 := Tryz.zeroValue4
 t9 := Tryz.underlying9
 a9 := Tryz.isAgg9
 z9 := Tryz.sizeOf9
 v9 := Tryz.zeroValue9 }
open Go.RowKit Go.Lib in
theorem Tryz.strings_HasPrefix (s p : ByteArray) (w : World) :
  Calls Tryz.prog 130 #[.string s, .string p] w fun e w' => e = .returned (.bool (Lib.hasPrefix s.data.toList p.data.toList)) ∧ w' = w := Any.strings_HasPrefix Tryz.lays99 s p w
def Tryz.lays221_ren : Go.Shelf.Ren := ⟨fun | 221 => 169 | 268 => 192 | 138 => 193 | 143 => 138 | 195 => 219 | 197 => 137 | 218 => 220 | 219 => 173 | 260 => 172 | 217 => 196 | 225 => 197 | 224 => 198 | 267 => 199 | 266 => 223 | 314 => 224 | n => n, fun | 9 => 9 | 3 => 3 | 31 => 41 | 4 => 4 | 0 => 0 | 105 => 220 | 21 => 21 | 5 => 5 | 46 => 194 | 119 => 282 | 139 => 285 | 138 => 284 | 146 => 307 | 51 => 233 | n => n, fun | 1 => 3 | 3 => 1 | 4 => 2 | n => n⟩
def Tryz.lays146_ren : Go.Shelf.Ren := ⟨fun | 146 => 131 | 221 => 169 | 268 => 192 | 138 => 193 | 143 => 138 | 195 => 219 | 197 => 137 | 218 => 220 | 219 => 173 | 260 => 172 | 217 => 196 | 225 => 197 | 224 => 198 | 267 => 199 | 266 => 223 | 314 => 224 | n => n, fun | 9 => 9 | 31 => 41 | 3 => 3 | 4 => 4 | 0 => 0 | 105 => 220 | 21 => 21 | 5 => 5 | 46 => 194 | 119 => 282 | 139 => 285 | 138 => 284 | 146 => 307 | 51 => 233 | n => n, fun | 1 => 3 | 3 => 1 | 4 => 2 | n => n⟩
theorem Tryz.lays146 : Go.Proofs.Lays.n146 Tryz.prog Tryz.lays146_ren := {
 mixed := by kernel_rfl
 f138 := Tryz.func193.trans (congrArg some (by kernel_rfl))
 f143 := Tryz.func138.trans (congrArg some (by kernel_rfl))
 f146 := Tryz.func131.trans (congrArg some (by kernel_rfl))
 f195 := Tryz.func219.trans (congrArg some (by kernel_rfl))
 f197 := Tryz.func137.trans (congrArg some (by kernel_rfl))
 f217 := Tryz.func196.trans (congrArg some (by kernel_rfl))
 f218 := Tryz.func220.trans (congrArg some (by kernel_rfl))
 f219 := Tryz.func173.trans (congrArg some (by kernel_rfl))
 f221 := Tryz.func169.trans (congrArg some (by kernel_rfl))
 f224 := Tryz.func198.trans (congrArg some (by kernel_rfl))
 f225 := Tryz.func197.trans (congrArg some (by kernel_rfl))
 f260 := Tryz.func172.trans (congrArg some (by kernel_rfl))
 f266 := Tryz.func223.trans (congrArg some (by kernel_rfl))
 f267 := Tryz.func199.trans (congrArg some (by kernel_rfl))
 f268 := Tryz.func192.trans (congrArg some (by kernel_rfl))
 f314 := Tryz.func224.trans (congrArg some (by kernel_rfl))
 t0 := Tryz.underlying0
 a0 := Tryz.isAgg0
 z0 := Tryz.sizeOf0
 v0 := Tryz.zeroValue0
 t3 := Tryz.underlying3
 a3 := Tryz.isAgg3
 z3 := Tryz.sizeOf3
 v3 := Tryz.zeroValue3
 t4 := Tryz.underlying4
 a4 := Tryz.isAgg4
 z4 := Tryz.sizeOf4
 v4 := Tryz.zeroValue4
 t5 := Tryz.underlying5
 a5 := Tryz.isAgg5
 z5 := Tryz.sizeOf5
 v5 := Tryz.zeroValue5
 t9 := Tryz.underlying9
 a9 := Tryz.isAgg9
 z9 := Tryz.sizeOf9
 v9 := Tryz.zeroValue9
 t21 := Tryz.underlying21
 a21 := Tryz.isAgg21
 z21 := Tryz.sizeOf21
 v21 := Tryz.zeroValue21
 t31 := Tryz.underlying41
 a31 := Tryz.isAgg41
 z31 := Tryz.sizeOf41
 v31 := Tryz.zeroValue41
 t46 := Tryz.underlying194
 a46 := Tryz.isAgg194
 z46 := Tryz.sizeOf194
 v46 := Tryz.zeroValue194
 t51 := Tryz.underlying233
 a51 := Tryz.isAgg233
 z51 := Tryz.sizeOf233
 v51 := Tryz.zeroValue233
 t105 := Tryz.underlying220
 a105 := Tryz.isAgg220
 z105 := Tryz.sizeOf220
 v105 := Tryz.zeroValue220
 t119 := Tryz.underlying282
 a119 := Tryz.isAgg282
 z119 := Tryz.sizeOf282
 t138 := Tryz.underlying284
 a138 := Tryz.isAgg284
 z138 := Tryz.sizeOf284
 v138 := Tryz.zeroValue284
 t139 := Tryz.underlying285
 a139 := Tryz.isAgg285
 z139 := Tryz.sizeOf285
 v139 := Tryz.zeroValue285
 t146 := Tryz.underlying307
 a146 := Tryz.isAgg307
 z146 := Tryz.sizeOf307
 v146 := Tryz.zeroValue307
 g1 := by kernel_rfl
 g3 := by kernel_rfl
 g4 := by kernel_rfl }
open Go.RowKit Go.Lib in
theorem Tryz.strings_Split (s sep : ByteArray) (m : Int) (w : World) (hs : s.size < 4294967281) (hm : w.cell? ⟨3, 0, none⟩ = some (.int .i64 m)) (h1 : 1 ≤ sep.size) :
  Calls Tryz.prog 131 #[.string s, .string sep] w fun e w' =>
   e = .returned (.slice (some ⟨w.heap.size, 0, none⟩) (Lib.countB s sep + 1) (Lib.countB s sep + 1)) ∧ w' = w.alloc (.cells ((Lib.splitB sep 0 (Lib.countB s sep) s).map Value.string).toArray 9) := Any.strings_Split Tryz.lays146 (by kernel_rfl) s sep m w hs hm h1
def Tryz.sortL_ren : Go.Shelf.Ren := ⟨fun | 6 => 54 | 15 => 101 | 14 => 100 | 28 => 149 | 29 => 150 | 20 => 141 | 21 => 142 | 22 => 143 | 23 => 144 | 24 => 145 | 25 => 146 | 26 => 147 | 27 => 148 | 46 => 177 | 47 => 178 | 48 => 179 | 49 => 180 | 50 => 181 | 57 => 205 | n => n, fun | 22 => 37 | 24 => 40 | 25 => 125 | 3 => 3 | 39 => 194 | 0 => 0 | 53 => 233 | 55 => 235 | 4 => 4 | 46 => 226 | 45 => 225 | 50 => 230 | 5 => 5 | 9 => 9 | 66 => 259 | 70 => 171 | 76 => 293 | 77 => 294 | n => n, fun | n => n⟩
theorem Tryz.sortL : Go.Proofs.SlLaysF0.n6 Tryz.prog Tryz.sortL_ren := {
 mixed := by kernel_rfl
 f6 := ⟨Tryz.f54.name, by decide, Tryz.func54.trans (congrArg some (by kernel_rfl))⟩
 f14 := ⟨Tryz.f100.name, by decide, Tryz.func100.trans (congrArg some (by kernel_rfl))⟩
 f15 := Tryz.func101.trans (congrArg some (by kernel_rfl))
 f20 := ⟨Tryz.f141.name, by decide, Tryz.func141.trans (congrArg some (by kernel_rfl))⟩
 f21 := ⟨Tryz.f142.name, by decide, Tryz.func142.trans (congrArg some (by kernel_rfl))⟩
 f22 := ⟨Tryz.f143.name, by decide, Tryz.func143.trans (congrArg some (by kernel_rfl))⟩
 f23 := ⟨Tryz.f144.name, by decide, Tryz.func144.trans (congrArg some (by kernel_rfl))⟩
 f24 := ⟨Tryz.f145.name, by decide, Tryz.func145.trans (congrArg some (by kernel_rfl))⟩
 f25 := ⟨Tryz.f146.name, by decide, Tryz.func146.trans (congrArg some (by kernel_rfl))⟩
 f26 := ⟨Tryz.f147.name, by decide, Tryz.func147.trans (congrArg some (by kernel_rfl))⟩
 f27 := ⟨Tryz.f148.name, by decide, Tryz.func148.trans (congrArg some (by kernel_rfl))⟩
 f28 := Tryz.func149.trans (congrArg some (by kernel_rfl))
 f29 := Tryz.func150.trans (congrArg some (by kernel_rfl))
 f46 := ⟨Tryz.f177.name, by decide, Tryz.func177.trans (congrArg some (by kernel_rfl))⟩
 f47 := Tryz.func178.trans (congrArg some (by kernel_rfl))
 f48 := Tryz.func179.trans (congrArg some (by kernel_rfl))
 f49 := ⟨Tryz.f180.name, by decide, Tryz.func180.trans (congrArg some (by kernel_rfl))⟩
 f50 := ⟨Tryz.f181.name, by decide, Tryz.func181.trans (congrArg some (by kernel_rfl))⟩
 f57 := ⟨Tryz.f205.name, by decide, Tryz.func205.trans (congrArg some (by kernel_rfl))⟩
 t0 := Tryz.underlying0
 a0 := Tryz.isAgg0
 z0 := Tryz.sizeOf0
 v0 := Tryz.zeroValue0
 t3 := Tryz.underlying3
 a3 := Tryz.isAgg3
 z3 := Tryz.sizeOf3
 v3 := Tryz.zeroValue3
 t4 := Tryz.underlying4
 a4 := Tryz.isAgg4
 z4 := Tryz.sizeOf4
 v4 := Tryz.zeroValue4
 t5 := Tryz.underlying5
 a5 := Tryz.isAgg5
 z5 := Tryz.sizeOf5
 v5 := Tryz.zeroValue5
 t9 := Tryz.underlying9
 a9 := Tryz.isAgg9
 z9 := Tryz.sizeOf9
 v9 := Tryz.zeroValue9
 t22 := Tryz.underlying37
 a22 := Tryz.isAgg37
 z22 := Tryz.sizeOf37
 v22 := Tryz.zeroValue37
 t25 := Tryz.underlying125
 a25 := Tryz.isAgg125
 z25 := Tryz.sizeOf125
 v25 := Tryz.zeroValue125
 t39 := Tryz.underlying194
 a39 := Tryz.isAgg194
 z39 := Tryz.sizeOf194
 v39 := Tryz.zeroValue194
 t45 := Tryz.underlying225
 a45 := Tryz.isAgg225
 z45 := Tryz.sizeOf225
 v45 := Tryz.zeroValue225
 t46 := Tryz.underlying226
 a46 := Tryz.isAgg226
 z46 := Tryz.sizeOf226
 v46 := Tryz.zeroValue226
 t50 := Tryz.underlying230
 a50 := Tryz.isAgg230
 z50 := Tryz.sizeOf230
 v50 := Tryz.zeroValue230
 t53 := Tryz.underlying233
 a53 := Tryz.isAgg233
 z53 := Tryz.sizeOf233
 v53 := Tryz.zeroValue233
 t55 := Tryz.underlying235
 a55 := Tryz.isAgg235
 z55 := Tryz.sizeOf235
 v55 := Tryz.zeroValue235
 t66 := Tryz.underlying259
 a66 := Tryz.isAgg259
 z66 := Tryz.sizeOf259
 v66 := Tryz.zeroValue259
 t70 := Tryz.underlying171
 a70 := Tryz.isAgg171
 z70 := Tryz.sizeOf171
 v70 := Tryz.zeroValue171
 t76 := Tryz.underlying293
 a76 := Tryz.isAgg293
 z76 := Tryz.sizeOf293
 v76 := Tryz.zeroValue293
 t77 := Tryz.underlying294
 a77 := Tryz.isAgg294
 z77 := Tryz.sizeOf294
 v77 := Tryz.zeroValue294 }
end Go.Proofs
