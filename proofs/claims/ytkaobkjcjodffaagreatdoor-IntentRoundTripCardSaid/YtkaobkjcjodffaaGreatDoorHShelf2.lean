/-
 The contracts of the library functions that the code calls, laid at this translation by the shelf's own program, in plain words; what is not needed is left out.
 Decimal numbers as strconv writes them, and the texts of addresses and prefixes.
 Lists of ranges: canonical ones with the same members are equal; merging a sorted list makes one.
 Layings of library functions at this seat: slices.SortFunc and slices.Grow at ranges; printed by a program of mine.
-/
import Derived.Shelf.Strings.BuilderK
import Derived.Shelf.Strings.OnBuilder
import Derived.Shelf.Strconv.Itoa3
import Derived.Test.YtkaobkjcjodffaaGreatDoorProg
import Derived.Lib.AppendIntMem
import Derived.Test.YtkaobkjcjodffaaGreatDoorHP3
import Derived.Test.YtkaobkjcjodffaaGreatDoorHLib
import Derived.Test.YtkaobkjcjodffaaGreatDoorGPwGlob
import Derived.Test.YtkaobkjcjodffaaGreatDoorHTab
import Derived.Test.YtkaobkjcjodffaaGreatDoorHB6
import Derived.Shelf.SlSortCmp.WholeK
import Derived.Shelf.Spec.SlicesGrow
set_option maxHeartbeats 20000000
set_option maxRecDepth 100000
namespace Go.Proofs
open Go.Shelf
def Tryz.lays169_ren : Go.Shelf.Ren := ⟨fun | 169 => 116 | n => n, fun | 70 => 162 | 9 => 9 | 0 => 0 | 72 => 164 | 37 => 107 | 127 => 205 | 3 => 3 | 5 => 5 | n => n, fun | n => n⟩
theorem Tryz.lays169 : Go.Proofs.Lays.n169 Tryz.prog Tryz.lays169_ren := {
 mixed := by kernel_rfl
 f169 := Tryz.func116.trans (congrArg some (by kernel_rfl))
 t0 := Tryz.underlying0
 a0 := Tryz.isAgg0
 z0 := Tryz.sizeOf0
 v0 := Tryz.zeroValue0
 t3 := Tryz.underlying3
 a3 := Tryz.isAgg3
 z3 := Tryz.sizeOf3
 v3 := Tryz.zeroValue3
 t9 := Tryz.underlying9
 a9 := Tryz.isAgg9
 z9 := Tryz.sizeOf9
 v9 := Tryz.zeroValue9
 t37 := Tryz.underlying107
 a37 := Tryz.isAgg107
 z37 := Tryz.sizeOf107
 v37 := Tryz.zeroValue107
 t70 := Tryz.underlying162
 a70 := Tryz.isAgg162
 z70 := Tryz.sizeOf162
 v70 := Tryz.zeroValue162
 t72 := Tryz.underlying164
 a72 := Tryz.isAgg164
 z72 := Tryz.sizeOf164
 v72 := Tryz.zeroValue164
 t127 := Tryz.underlying205
 a127 := Tryz.isAgg205
 z127 := Tryz.sizeOf205
 v127 := Tryz.zeroValue205 }
theorem Tryz.Builder_Extra_169 : Builder.Extra Tryz.prog Tryz.lays169_ren := {
 sizeBuilder := by kernel_rfl
 liesBuilder := by kernel_rfl
 t5 := Tryz.underlying5
 a5 := Tryz.isAgg5
 z5 := Tryz.sizeOf5
 v5 := Tryz.zeroValue5
 infoByte := by kernel_rfl
 cellsByte := by kernel_rfl
 sizeByte := by kernel_rfl
 neB5 := by decide }
def Tryz.lays156_ren : Go.Shelf.Ren := ⟨fun | 156 => 114 | 165 => 155 | 166 => 113 | 169 => 116 | 240 => 154 | 241 => 191 | 276 => 190 | 277 => 216 | n => n, fun | 31 => 49 | 9 => 9 | 3 => 3 | 4 => 4 | 0 => 0 | 20 => 20 | 72 => 164 | 76 => 167 | 70 => 162 | 37 => 107 | 75 => 166 | 127 => 205 | 164 => 233 | 5 => 5 | 80 => 117 | n => n, fun | n => n⟩
theorem Tryz.lays156 : Go.Proofs.Lays.n156 Tryz.prog Tryz.lays156_ren := {
 mixed := by kernel_rfl
 f156 := Tryz.func114.trans (congrArg some (by kernel_rfl))
 f165 := Tryz.func155.trans (congrArg some (by kernel_rfl))
 f166 := Tryz.func113.trans (congrArg some (by kernel_rfl))
 f169 := Tryz.func116.trans (congrArg some (by kernel_rfl))
 f240 := Tryz.func154.trans (congrArg some (by kernel_rfl))
 f241 := Tryz.func191.trans (congrArg some (by kernel_rfl))
 f276 := Tryz.func190.trans (congrArg some (by kernel_rfl))
 f277 := Tryz.func216.trans (congrArg some (by kernel_rfl))
 t0 := Tryz.underlying0
 a0 := Tryz.isAgg0
 z0 := Tryz.sizeOf0
 v0 := Tryz.zeroValue0
 t3 := Tryz.underlying3
 a3 := Tryz.isAgg3
 z3 := Tryz.sizeOf3
 v3 := Tryz.zeroValue3
 t4 := Tryz.underlying4
 a4 := Tryz.isAgg4
 z4 := Tryz.sizeOf4
 v4 := Tryz.zeroValue4
 t9 := Tryz.underlying9
 a9 := Tryz.isAgg9
 z9 := Tryz.sizeOf9
 v9 := Tryz.zeroValue9
 t20 := Tryz.underlying20
 a20 := Tryz.isAgg20
 z20 := Tryz.sizeOf20
 v20 := Tryz.zeroValue20
 t31 := Tryz.underlying49
 a31 := Tryz.isAgg49
 z31 := Tryz.sizeOf49
 v31 := Tryz.zeroValue49
 t37 := Tryz.underlying107
 a37 := Tryz.isAgg107
 z37 := Tryz.sizeOf107
 v37 := Tryz.zeroValue107
 t70 := Tryz.underlying162
 a70 := Tryz.isAgg162
 z70 := Tryz.sizeOf162
 v70 := Tryz.zeroValue162
 t72 := Tryz.underlying164
 a72 := Tryz.isAgg164
 z72 := Tryz.sizeOf164
 v72 := Tryz.zeroValue164
 t75 := Tryz.underlying166
 a75 := Tryz.isAgg166
 z75 := Tryz.sizeOf166
 v75 := Tryz.zeroValue166
 t76 := Tryz.underlying167
 a76 := Tryz.isAgg167
 z76 := Tryz.sizeOf167
 v76 := Tryz.zeroValue167
 t127 := Tryz.underlying205
 a127 := Tryz.isAgg205
 z127 := Tryz.sizeOf205
 v127 := Tryz.zeroValue205
 t164 := Tryz.underlying233
 a164 := Tryz.isAgg233
 z164 := Tryz.sizeOf233
 v164 := Tryz.zeroValue233 }
theorem Tryz.Builder_Extra_156 : Builder.Extra Tryz.prog Tryz.lays156_ren := {
 sizeBuilder := by kernel_rfl
 liesBuilder := by kernel_rfl
 t5 := Tryz.underlying5
 a5 := Tryz.isAgg5
 z5 := Tryz.sizeOf5
 v5 := Tryz.zeroValue5
 infoByte := by kernel_rfl
 cellsByte := by kernel_rfl
 sizeByte := by kernel_rfl
 neB5 := by decide }
open Go.RowKit in
theorem Tryz.strings_Join (bk o c : Nat) (xs : List ByteArray) (sep : ByteArray) (w : World) (hcells : ∀ (j : Nat) x, xs[j]? = some x → w.cell? ⟨bk, o + j, none⟩ = some (.string x)) (hbk : bk < w.heap.size) (hN : xs.length ≤ 140737488355328) (hcap : xs.length ≤ c) (hlen : (Lib.join (xs.map (·.data.toList)) sep.data.toList).length ≤ 140737488355328) :
  Calls Tryz.prog 114 #[.slice (some ⟨bk, o, none⟩) xs.length c, .string sep] w fun e w' => e = .returned (.string ⟨(Lib.join (xs.map (·.data.toList)) sep.data.toList).toArray⟩) ∧ Below w.heap.size w w' := Any.strings_Join Tryz.lays156 Tryz.Builder_Extra_156 bk o c xs sep w hcells hbk hN hcap hlen
open Go.RowKit in
theorem Tryz.Builder_String_any_k (B b : Nat) (l : List UInt8) (w : World) (h : Lib.IsBuilderF 164 5 B b (Lib.byteCells l) w) (hBw : B ≤ w.heap.size) :
  Calls Tryz.prog 116 #[.pointer (some ⟨b, 0, none⟩)] w fun e w' => e = .returned (.string ⟨l.toArray⟩) ∧ (Lib.IsBuilderF 164 5 B b (Lib.byteCells l) w' ∧ Below B w w' ∧ Lib.OthersKept 5 (some b) w w') := Any.Builder_String_any_k Tryz.lays169 Tryz.Builder_Extra_169 B b l w h hBw
def Tryz.laysM284_ren : Go.Shelf.Ren := ⟨fun | 284 => 187 | 129 => 212 | 317 => 211 | 318 => 213 | n => n, fun | 53 => 138 | 3 => 3 | 212 => 248 | 0 => 0 | 4 => 4 | 46 => 115 | 5 => 5 | 9 => 9 | n => n, fun | 17 => 1 | n => n⟩
theorem Tryz.laysM284 : Go.Proofs.LaysM.n284 Tryz.prog Tryz.laysM284_ren := {
 mixed := by kernel_rfl
 f129 := Tryz.func212.trans (congrArg some (by kernel_rfl))
 f284 := Tryz.func187.trans (congrArg some (by kernel_rfl))
 f317 := Tryz.func211.trans (congrArg some (by kernel_rfl))
 f318 := Tryz.func213.trans (congrArg some (by kernel_rfl))
 t0 := Tryz.underlying0
 a0 := Tryz.isAgg0
 z0 := Tryz.sizeOf0
 v0 := Tryz.zeroValue0
 t3 := Tryz.underlying3
 a3 := Tryz.isAgg3
 z3 := Tryz.sizeOf3
 v3 := Tryz.zeroValue3
 t4 := Tryz.underlying4
 a4 := Tryz.isAgg4
 z4 := Tryz.sizeOf4
 v4 := Tryz.zeroValue4
 t5 := Tryz.underlying5
 a5 := Tryz.isAgg5
 z5 := Tryz.sizeOf5
 v5 := Tryz.zeroValue5
 t9 := Tryz.underlying9
 a9 := Tryz.isAgg9
 z9 := Tryz.sizeOf9
 v9 := Tryz.zeroValue9
 t46 := Tryz.underlying115
 a46 := Tryz.isAgg115
 z46 := Tryz.sizeOf115
 v46 := Tryz.zeroValue115
 t53 := Tryz.underlying138
 a53 := Tryz.isAgg138
 z53 := Tryz.sizeOf138
 v53 := Tryz.zeroValue138
 t212 := Tryz.underlying248
 a212 := Tryz.isAgg248
 z212 := Tryz.sizeOf248
 v212 := Tryz.zeroValue248
 g17 := by kernel_rfl
 i0 := by kernel_rfl
 i3 := by kernel_rfl
 i4 := by kernel_rfl
 i5 := by kernel_rfl
 i9 := by kernel_rfl
 i46 := by kernel_rfl
 i53 := by kernel_rfl
 i212 := by kernel_rfl
 m17 := by kernel_rfl }
open Go.Lib in
theorem Tryz.internal_strconv_numDigits (u : Nat) (h1 : 1 ≤ u) (h2 : u < 18446744073709551616) (w : World) (htab : Lib.TabIs Tryz.prog w "internal/strconv.uint64pow10" .u64 Lib.pow10Tab) :
  Calls Tryz.prog 187 #[.int .u64 u] w fun e w' => e = .returned (.int .i64 (Lib.nDigits u)) ∧ w' = w := Any.internal_strconv_numDigits Tryz.laysM284 u h1 h2 w htab
def Tryz.laysM171_ren : Go.Shelf.Ren := ⟨fun | 171 => 64 | 243 => 112 | 246 => 153 | 283 => 186 | 284 => 187 | 285 => 188 | 286 => 189 | 129 => 212 | 317 => 211 | 318 => 213 | 319 => 214 | 320 => 215 | 337 => 227 | 338 => 228 | n => n, fun | 3 => 3 | 9 => 9 | 2 => 2 | 4 => 4 | 171 => 228 | 0 => 0 | 53 => 138 | 37 => 107 | 5 => 5 | 173 => 231 | 212 => 248 | 51 => 79 | 20 => 20 | 213 => 249 | 46 => 115 | 232 => 270 | 233 => 271 | n => n, fun | 17 => 1 | 18 => 5 | 19 => 6 | n => n⟩
theorem Tryz.laysM171 : Go.Proofs.LaysM.n171 Tryz.prog Tryz.laysM171_ren := {
 mixed := by kernel_rfl
 f129 := Tryz.func212.trans (congrArg some (by kernel_rfl))
 f171 := Tryz.func64.trans (congrArg some (by kernel_rfl))
 f243 := Tryz.func112.trans (congrArg some (by kernel_rfl))
 f246 := Tryz.func153.trans (congrArg some (by kernel_rfl))
 f283 := Tryz.func186.trans (congrArg some (by kernel_rfl))
 f284 := Tryz.func187.trans (congrArg some (by kernel_rfl))
 f285 := Tryz.func188.trans (congrArg some (by kernel_rfl))
 f286 := Tryz.func189.trans (congrArg some (by kernel_rfl))
 f317 := Tryz.func211.trans (congrArg some (by kernel_rfl))
 f318 := Tryz.func213.trans (congrArg some (by kernel_rfl))
 f319 := Tryz.func214.trans (congrArg some (by kernel_rfl))
 f320 := Tryz.func215.trans (congrArg some (by kernel_rfl))
 f337 := Tryz.func227.trans (congrArg some (by kernel_rfl))
 f338 := Tryz.func228.trans (congrArg some (by kernel_rfl))
 t0 := Tryz.underlying0
 a0 := Tryz.isAgg0
 z0 := Tryz.sizeOf0
 v0 := Tryz.zeroValue0
 t2 := Tryz.underlying2
 a2 := Tryz.isAgg2
 z2 := Tryz.sizeOf2
 v2 := Tryz.zeroValue2
 t3 := Tryz.underlying3
 a3 := Tryz.isAgg3
 z3 := Tryz.sizeOf3
 v3 := Tryz.zeroValue3
 t4 := Tryz.underlying4
 a4 := Tryz.isAgg4
 z4 := Tryz.sizeOf4
 v4 := Tryz.zeroValue4
 t5 := Tryz.underlying5
 a5 := Tryz.isAgg5
 z5 := Tryz.sizeOf5
 v5 := Tryz.zeroValue5
 t9 := Tryz.underlying9
 a9 := Tryz.isAgg9
 z9 := Tryz.sizeOf9
 v9 := Tryz.zeroValue9
 t20 := Tryz.underlying20
 a20 := Tryz.isAgg20
 z20 := Tryz.sizeOf20
 v20 := Tryz.zeroValue20
 t37 := Tryz.underlying107
 a37 := Tryz.isAgg107
 z37 := Tryz.sizeOf107
 v37 := Tryz.zeroValue107
 t46 := Tryz.underlying115
 a46 := Tryz.isAgg115
 z46 := Tryz.sizeOf115
 v46 := Tryz.zeroValue115
 t51 := Tryz.underlying79
 a51 := Tryz.isAgg79
 z51 := Tryz.sizeOf79
 v51 := Tryz.zeroValue79
 t53 := Tryz.underlying138
 a53 := Tryz.isAgg138
 z53 := Tryz.sizeOf138
 v53 := Tryz.zeroValue138
 t171 := Tryz.underlying228
 a171 := Tryz.isAgg228
 z171 := Tryz.sizeOf228
 v171 := Tryz.zeroValue228
 t173 := Tryz.underlying231
 a173 := Tryz.isAgg231
 z173 := Tryz.sizeOf231
 v173 := Tryz.zeroValue231
 t212 := Tryz.underlying248
 a212 := Tryz.isAgg248
 z212 := Tryz.sizeOf248
 v212 := Tryz.zeroValue248
 t213 := Tryz.underlying249
 a213 := Tryz.isAgg249
 z213 := Tryz.sizeOf249
 t232 := Tryz.underlying270
 a232 := Tryz.isAgg270
 z232 := Tryz.sizeOf270
 v232 := Tryz.zeroValue270
 t233 := Tryz.underlying271
 a233 := Tryz.isAgg271
 z233 := Tryz.sizeOf271
 v233 := Tryz.zeroValue271
 g17 := by kernel_rfl
 g18 := by kernel_rfl
 g19 := by kernel_rfl
 i0 := by kernel_rfl
 i2 := by kernel_rfl
 i3 := by kernel_rfl
 i4 := by kernel_rfl
 i5 := by kernel_rfl
 i9 := by kernel_rfl
 i20 := by kernel_rfl
 i37 := by kernel_rfl
 i46 := by kernel_rfl
 i51 := by kernel_rfl
 i53 := by kernel_rfl
 i171 := by kernel_rfl
 i173 := by kernel_rfl
 i212 := by kernel_rfl
 i232 := by kernel_rfl
 i233 := by kernel_rfl
 m17 := by kernel_rfl
 m18 := by kernel_rfl
 m19 := by kernel_rfl }
open Go.RowKit Go.Sort Go.Lib in
theorem Tryz.strconv_Itoa (n : Int) (h0 : -9223372036854775808 ≤ n) (h1 : n ≤ 9223372036854775807) (w : World) (htab : Lib.TabIs Tryz.prog w "internal/strconv.uint64pow10" .u64 Lib.pow10Tab) :
  Calls Tryz.prog 64 #[.int .i64 n] w fun e w' => e = .returned (.string ⟨(Lib.itoa n).toArray⟩) ∧ ∃ k os, w' = grow (w.drewN k) os := Any.strconv_Itoa Tryz.laysM171 n h0 h1 w htab
def Tryz.lays166_ren : Go.Shelf.Ren := ⟨fun | 166 => 113 | 240 => 154 | 276 => 190 | n => n, fun | 20 => 20 | 70 => 162 | 72 => 164 | 37 => 107 | 75 => 166 | 80 => 117 | 164 => 233 | 127 => 205 | n => n, fun n => n⟩
theorem Tryz.lays166 : Go.Proofs.Lays.n166 Tryz.prog Tryz.lays166_ren := {
 mixed := by kernel_rfl
 f166 := Tryz.func113.trans (congrArg some (by kernel_rfl))
 f240 := Tryz.func154.trans (congrArg some (by kernel_rfl))
 f276 := Tryz.func190.trans (congrArg some (by kernel_rfl))
 t0 := Tryz.underlying0
 a0 := Tryz.isAgg0
 z0 := Tryz.sizeOf0
 v0 := Tryz.zeroValue0
 t3 := Tryz.underlying3
 a3 := Tryz.isAgg3
 z3 := Tryz.sizeOf3
 v3 := Tryz.zeroValue3
 t4 := Tryz.underlying4
 a4 := Tryz.isAgg4
 z4 := Tryz.sizeOf4
 v4 := Tryz.zeroValue4
 t9 := Tryz.underlying9
 a9 := Tryz.isAgg9
 z9 := Tryz.sizeOf9
 v9 := Tryz.zeroValue9
 t20 := Tryz.underlying20
 a20 := Tryz.isAgg20
 z20 := Tryz.sizeOf20
 v20 := Tryz.zeroValue20
 t37 := Tryz.underlying107
 a37 := Tryz.isAgg107
 z37 := Tryz.sizeOf107
 v37 := Tryz.zeroValue107
 t70 := Tryz.underlying162
 a70 := Tryz.isAgg162
 z70 := Tryz.sizeOf162
 v70 := Tryz.zeroValue162
 t72 := Tryz.underlying164
 a72 := Tryz.isAgg164
 z72 := Tryz.sizeOf164
 v72 := Tryz.zeroValue164
 t75 := Tryz.underlying166
 a75 := Tryz.isAgg166
 z75 := Tryz.sizeOf166
 v75 := Tryz.zeroValue166
 t164 := Tryz.underlying233
 a164 := Tryz.isAgg233
 z164 := Tryz.sizeOf233
 v164 := Tryz.zeroValue233
}
def Tryz.lays167_ren : Go.Shelf.Ren := ⟨fun | 167 => 115 | 240 => 154 | 276 => 190 | n => n, fun | 20 => 20 | 70 => 162 | 72 => 164 | 37 => 107 | 75 => 166 | 80 => 117 | 164 => 233 | 127 => 205 | n => n, fun n => n⟩
theorem Tryz.lays167 : Go.Proofs.Lays.n167 Tryz.prog Tryz.lays167_ren := {
 mixed := by kernel_rfl
 f167 := Tryz.func115.trans (congrArg some (by kernel_rfl))
 f240 := Tryz.func154.trans (congrArg some (by kernel_rfl))
 f276 := Tryz.func190.trans (congrArg some (by kernel_rfl))
 t0 := Tryz.underlying0
 a0 := Tryz.isAgg0
 z0 := Tryz.sizeOf0
 v0 := Tryz.zeroValue0
 t4 := Tryz.underlying4
 a4 := Tryz.isAgg4
 z4 := Tryz.sizeOf4
 v4 := Tryz.zeroValue4
 t5 := Tryz.underlying5
 a5 := Tryz.isAgg5
 z5 := Tryz.sizeOf5
 v5 := Tryz.zeroValue5
 t9 := Tryz.underlying9
 a9 := Tryz.isAgg9
 z9 := Tryz.sizeOf9
 v9 := Tryz.zeroValue9
 t20 := Tryz.underlying20
 a20 := Tryz.isAgg20
 z20 := Tryz.sizeOf20
 v20 := Tryz.zeroValue20
 t37 := Tryz.underlying107
 a37 := Tryz.isAgg107
 z37 := Tryz.sizeOf107
 v37 := Tryz.zeroValue107
 t70 := Tryz.underlying162
 a70 := Tryz.isAgg162
 z70 := Tryz.sizeOf162
 v70 := Tryz.zeroValue162
 t72 := Tryz.underlying164
 a72 := Tryz.isAgg164
 z72 := Tryz.sizeOf164
 v72 := Tryz.zeroValue164
 t75 := Tryz.underlying166
 a75 := Tryz.isAgg166
 z75 := Tryz.sizeOf166
 v75 := Tryz.zeroValue166
 t164 := Tryz.underlying233
 a164 := Tryz.isAgg233
 z164 := Tryz.sizeOf233
 v164 := Tryz.zeroValue233
}
theorem Tryz.Builder_Extra_166 : Builder.Extra Tryz.prog Tryz.lays166_ren := {
 sizeBuilder := by kernel_rfl
 liesBuilder := by kernel_rfl
 t5 := Tryz.underlying5
 a5 := Tryz.isAgg5
 z5 := Tryz.sizeOf5
 v5 := Tryz.zeroValue5
 infoByte := by kernel_rfl
 cellsByte := by kernel_rfl
 sizeByte := by kernel_rfl
 neB5 := by decide 
}
theorem Tryz.Builder_Extra_167 : Builder.Extra Tryz.prog Tryz.lays167_ren := {
 sizeBuilder := by kernel_rfl
 liesBuilder := by kernel_rfl
 t5 := Tryz.underlying5
 a5 := Tryz.isAgg5
 z5 := Tryz.sizeOf5
 v5 := Tryz.zeroValue5
 infoByte := by kernel_rfl
 cellsByte := by kernel_rfl
 sizeByte := by kernel_rfl
 neB5 := by decide 
}
open Go.RowKit in
theorem Tryz.Builder_WriteByte_k (B b : Nat) (bs : List Value) (c : Int) (w : World) (h : Lib.IsBuilderF 164 5 B b bs w) (hlen : bs.length + 1 ≤ 140737488355328) (hBw : B ≤ w.heap.size) :
  Calls Tryz.prog 115 #[.pointer (some ⟨b, 0, none⟩), .int .u8 c] w fun e w' => e = .returned .nilIface ∧ (Lib.BuilderAtF 164 5 B b (.pointer (some ⟨b, 0, none⟩)) (bs ++ [.int .u8 c]) w' ∧ Below B w w' ∧ Lib.OthersKept 5 (some b) w w') := Any.Builder_WriteByte_k Tryz.lays167 Tryz.Builder_Extra_167 B b bs c w h hlen hBw
open Go.RowKit in
theorem Tryz.Builder_WriteString_k (B b : Nat) (bs : List Value) (s : ByteArray) (w : World) (h : Lib.IsBuilderF 164 5 B b bs w) (hlen : bs.length + s.size ≤ 140737488355328) (hBw : B ≤ w.heap.size) :
  Calls Tryz.prog 113 #[.pointer (some ⟨b, 0, none⟩), .string s] w fun e w' => e = .returned (.tuple #[.int .i64 s.size, .nilIface]) ∧ (Lib.BuilderAtF 164 5 B b (.pointer (some ⟨b, 0, none⟩)) (bs ++ Lib.strCells s) w' ∧ Below B w w' ∧ Lib.OthersKept 5 (some b) w w') := Any.Builder_WriteString_k Tryz.lays166 Tryz.Builder_Extra_166 B b bs s w h hlen hBw
end Go.Proofs
namespace Go.Proofs.YtkaobkjcjodffaaGreatDoor
open Go Go.Pw Go.RowKit
variable {Gl : Glob}
attribute [local irreducible] PW PWL OpP PCalls PWO
def GT (Gl : Glob) : Prop := ∀ w, GlobW Gl w → Lib.TabIs Tryz.prog w "internal/strconv.uint64pow10" .u64 Lib.pow10Tab
theorem itoa_nat (n : Nat) : Lib.itoa (n : Int) = dec n := by
 unfold Lib.itoa
 rw [if_neg (by omega)]; rfl
theorem c78 (hG : GT Gl) (n : Nat) (hn : n < 10000) : PFun Tryz.prog Gl 64 [.int .i64 n] fun r => r = .str (dec n) := by
 refine PFun.lib rfl fun w hw => ?_
 refine (Tryz.strconv_Itoa n (by omega) (by omega) w (hG w hw)).mono ?_
 rintro e w' ⟨rfl, k, os, rfl⟩
 exact ⟨.str (dec n), by rw [itoa_nat]; rfl, rfl, rfl, Lib.below_grow _ _ (Nat.le_refl _) _ _⟩
theorem nDig3 {u : Nat} (h1 : 100 ≤ u) (h2 : u < 1000) : Lib.nDigits u = 3 := by
 rw [Lib.nDigits, dif_neg (by omega), Lib.nDigits, dif_neg (by omega), Lib.nDigits, dif_pos (by omega)]
theorem c150 (hG : GT Gl) (u : Nat) (h1 : 100 ≤ u) (h2 : u < 1000) : PFun Tryz.prog Gl 187 [.int .u64 u] fun r => r = .int .i64 3 := by
 refine PFun.lib rfl fun w hw => ?_
 refine (Tryz.internal_strconv_numDigits u (by omega) (by omega) w (hG w hw)).mono ?_
 rintro e w' ⟨rfl, rfl⟩
 exact ⟨.int .i64 3, by rw [nDig3 h1 h2]; rfl, rfl, rfl, Below.refl _ _⟩
def s36 : Str := [48, 49, 50, 51, 52, 53, 54, 55, 56, 57, 97, 98, 99, 100, 101, 102, 103, 104, 105, 106, 107, 108, 109, 110, 111, 112, 113, 114, 115, 116, 117, 118, 119, 120, 121, 122]
def s200 : Str := [48, 48, 48, 49, 48, 50, 48, 51, 48, 52, 48, 53, 48, 54, 48, 55, 48, 56, 48, 57, 49, 48, 49, 49, 49, 50, 49, 51, 49, 52, 49, 53, 49, 54, 49, 55, 49, 56, 49, 57, 50, 48, 50, 49, 50, 50, 50, 51, 50, 52, 50, 53, 50, 54, 50, 55, 50, 56, 50, 57, 51, 48, 51, 49, 51, 50, 51, 51, 51, 52, 51, 53, 51, 54, 51, 55, 51, 56, 51, 57, 52, 48, 52, 49, 52, 50, 52, 51, 52, 52, 52, 53, 52, 54, 52, 55, 52, 56, 52, 57, 53, 48, 53, 49, 53, 50, 53, 51, 53, 52, 53, 53, 53, 54, 53, 55, 53, 56, 53, 57, 54, 48, 54, 49, 54, 50, 54, 51, 54, 52, 54, 53, 54, 54, 54, 55, 54, 56, 54, 57, 55, 48, 55, 49, 55, 50, 55, 51, 55, 52, 55, 53, 55, 54, 55, 55, 55, 56, 55, 57, 56, 48, 56, 49, 56, 50, 56, 51, 56, 52, 56, 53, 56, 54, 56, 55, 56, 56, 56, 57, 57, 48, 57, 49, 57, 50, 57, 51, 57, 52, 57, 53, 57, 54, 57, 55, 57, 56, 57, 57]
theorem s36_at : ∀ i : Fin 10, (s36.take (i.val + 1)).drop i.val = [UInt8.ofNat (48 + i.val)] := by decide
theorem s200_sub : ∀ i : Fin 100, (s200.take (i.val * 2 + 2)).drop (i.val * 2) = [UInt8.ofNat (48 + i.val / 10), UInt8.ofNat (48 + i.val % 10)] := by decide +kernel
theorem s200_at0 : ∀ i : Fin 100, s200[2 * i.val]? = some (UInt8.ofNat (48 + i.val / 10)) := by decide +kernel
theorem s200_at1 : ∀ i : Fin 100, s200[2 * i.val + 1]? = some (UInt8.ofNat (48 + i.val % 10)) := by decide +kernel
theorem dec_two {i : Nat} (h1 : ¬ i < 10) (h2 : i < 100) : dec i = [UInt8.ofNat (48 + i / 10), UInt8.ofNat (48 + i % 10)] := by rw [dec_ge h1, dec_lt (by omega)]; rfl
theorem dec_three {i : Nat} (h1 : 100 ≤ i) (h2 : i < 1000) : dec i = [UInt8.ofNat (48 + i / 100), UInt8.ofNat (48 + i % 100 / 10), UInt8.ofNat (48 + i % 100 % 10)] := by
 rw [dec_ge (by omega), dec_two (by omega) (by omega)]
 rw [show i / 10 / 10 = i / 100 by omega, show i / 10 % 10 = i % 100 / 10 by omega, show i % 10 = i % 100 % 10 by omega]
 rfl
theorem c149 (i : Nat) (hi : i < 100) : PFun Tryz.prog Gl 186 [.int .i64 i] fun r => r = .str (dec i) := by
 refine PFun.of hT Tryz.func186 rfl fun B hD => ?_
 refine pw_norm rfl ?_
 (refine zGo ?_)
 refine pw_cond rfl (fun h => ?_) (fun h => ?_)
 ·have h10 : i < 10 := by simp only [decide_eq_true_eq] at h; omega
  (refine zGo ?_)
  (refine pl_op rfl (op_of (v_substr (s := s36) (l := (i : Int)) (h := ((i + 1 : Nat) : Int)) hT rfl rfl rfl rfl rfl (by omega) (by omega) (by show ((i + 1 : Nat) : Int) ≤ 36; omega)) ?_); (refine zNp ?_))
  (refine zGo ?_)
  refine ret1 _ rfl ?_ rfl
  rw [dec_lt h10, ← s36_at ⟨i, h10⟩]; rfl
 ·have h10 : ¬ i < 10 := by simp only [decide_eq_false_iff_not] at h; omega
  (refine zGo ?_)
  (refine pl_op rfl (op_of (v_substr (s := s200) (l := (i : Int) * 2) (h := (i : Int) * 2 + 2) hT rfl rfl rfl rfl rfl (by omega) (by omega) (by show (i : Int) * 2 + 2 ≤ 200; omega)) ?_); (refine zNp ?_))
  (refine zGo ?_)
  refine ret1 _ rfl ?_ rfl
  rw [dec_two h10 hi, ← s200_sub ⟨i, hi⟩]; rfl
def zeros (n : Nat) : Str := List.replicate n 0
theorem c151 (u : Nat) (h1 : 100 ≤ u) (h2 : u < 1000) : PCalls Tryz.prog Gl 188 [.msl 1 0 0 3 24, .int .u64 u] [.box ((zeros 24).map eByte)] fun r s => r = .tup [] ∧ ∃ x0 x1 x2 : UInt8, dec u = [x0, x1, x2] ∧ s = [.box (([x0, x1, x2] ++ zeros 21 : Str).map eByte)] := by
 refine PCalls.of hT Tryz.func188 rfl 1 (Nat.le_refl _) fun B hD => ?_
 refine pw_boxArr 0 (cs := (zeros 24).map eByte) rfl (bytes_cell _) (bytes_refs _) (by unfold maxLen; decide) ?_
 refine pw_norm rfl ?_
 rw [dec_three h1 h2]
 obtain ⟨q, hq⟩ : ∃ q, q = u % 100 := ⟨_, rfl⟩
 obtain ⟨d, hd⟩ : ∃ d, d = u / 100 := ⟨_, rfl⟩
 rw [← hq, ← hd]
 have hql : q < 100 := by omega
 have hdl : d < 10 := by omega
 obtain ⟨x0, e0⟩ : ∃ x, x = UInt8.ofNat (48 + q / 10) := ⟨_, rfl⟩
 obtain ⟨x1, e1⟩ : ∃ x, x = UInt8.ofNat (48 + q % 10) := ⟨_, rfl⟩
 have g0 : s200[2 * q]? = some x0 := by rw [e0]; exact s200_at0 ⟨q, hql⟩
 have g1 : s200[2 * q + 1]? = some x1 := by rw [e1]; exact s200_at1 ⟨q, hql⟩
 rw [← e0, ← e1]
 (refine zGo ?_)
 refine pw_for hD (fun _ : Unit => [(1, .int .u64 u), (4, .int .i64 3)]) (fun _ => [.arr 1 ((zeros 24).map eByte) 24]) (fun _ => True) (fun _ => 0) () trivial 1 rfl (fun _ => rfl) zLes (fun _ => rfl) (fun _ => rfl) zLe ?_
 intro _ _
 (refine zGo ?_)
 (refine pl_op rfl (op_of (v_conv (c := (u : Int)) hT rfl rfl rfl rfl (IntWalk.u32_in _ (by omega))) ?_); (refine zNp ?_))
 (refine zGo ?_)
 (refine pl_op rfl (op_of (v_rem (c := (q : Int)) rfl rfl rfl (by decide) (by rw [Int.tmod_eq_emod_of_nonneg (by omega)]; omega)) ?_); (refine zNp ?_))
 (refine pl_op rfl (op_of (v_arith (c := ((2 * q : Nat) : Int)) rfl rfl rfl rfl ((IntWalk.u32_in _ (by omega)).trans (by omega))) ?_); (refine zNp ?_))
 (refine zGo ?_)
 (refine pl_op rfl (op_of (v_quo (c := (d : Int)) rfl rfl rfl (by decide) (by rw [Int.tdiv_eq_ediv_of_nonneg (by omega), IntWalk.u32_in _ (by omega)]; omega)) ?_); (refine zNp ?_))
 (refine zGo ?_)
 refine zDr [[0,1,2,3,4,5,6,7,8,9,10,11],[12],[13],[14]] ?_
 (refine zDgo ?_)
 (refine po_val rfl rfl (v_arith (c := ((2 * q + 1 : Nat) : Int)) rfl rfl rfl rfl ((IntWalk.u32_in _ (by omega)).trans (by omega))) ?_; refine zDn ?_)
 (refine zDgo ?_)
 (refine po_val rfl rfl (v_indexs (c := x1) hT rfl rfl rfl rfl (by omega) g1) ?_; refine zDn ?_)
 (refine zDgo ?_)
 (refine po_val rfl rfl (v_indexs (c := x0) hT rfl rfl rfl rfl (by omega) g0) ?_; refine zDn ?_)
 (refine zDgo ?_)
 (refine po_val rfl rfl (v_indexm hT rfl rfl rfl rfl rfl (by decide) (by decide) (by decide)) ?_; refine zDn ?_)
 (refine zDgo ?_)
 (refine po_step rfl rfl (op_storeE' (x0 := eByte 0) (x1 := eByte x1) (xs' := (([0, 0, x1] ++ zeros 21 : Str)).map eByte) hT rfl rfl rfl rfl rfl (by decide) (rfl) rfl rfl rfl rfl (Nat.le_of_ble_eq_true rfl) rfl (rfl) ⟨zLok, ?_⟩); refine zDn ?_)
 (refine zDgo ?_)
 (refine po_val rfl rfl (v_indexm hT rfl rfl rfl rfl rfl (by decide) (by decide) (by decide)) ?_; refine zDn ?_)
 (refine zDgo ?_)
 (refine po_step rfl rfl (op_storeE' (x0 := eByte 0) (x1 := eByte x0) (xs' := (([0, x0, x1] ++ zeros 21 : Str)).map eByte) hT rfl rfl rfl rfl rfl (by decide) (rfl) rfl rfl rfl rfl (Nat.le_of_ble_eq_true rfl) rfl (rfl) ⟨zLok, ?_⟩); refine zDn ?_)
 (refine zDgo ?_)
 (refine zGo ?_)
 (refine pl_op rfl (op_of (v_arith (c := ((48 + d : Nat) : Int)) rfl rfl rfl rfl ((IntWalk.u32_in _ (by omega)).trans (by omega))) ?_); (refine zNp ?_))
 (refine zGo ?_)
 (refine pl_op rfl (op_of (v_conv (c := ((UInt8.ofNat (48 + d)).toNat : Int)) hT rfl rfl rfl rfl (by rw [← dig_wrap d hdl]; congr 1)) ?_); (refine zNp ?_))
 (refine zGo ?_)
 (refine pl_op rfl (op_of (v_indexm hT rfl rfl rfl rfl rfl (by decide) (by decide) (by decide)) ?_); (refine zNp ?_))
 (refine zGo ?_)
 (refine pl_op rfl (op_storeE' (x0 := eByte 0) (x1 := eByte (UInt8.ofNat (48 + d))) (xs' := (([UInt8.ofNat (48 + d), x0, x1] ++ zeros 21 : Str)).map eByte) hT rfl rfl rfl rfl rfl (by decide) (rfl) rfl rfl rfl rfl (Nat.le_of_ble_eq_true rfl) rfl (rfl) ?_); (refine zNp ?_))
 refine pl_arrBox 0 (cs := ([UInt8.ofNat (48 + d), x0, x1] ++ zeros 21 : Str).map eByte) rfl rfl (by decide) (bytes_cell _) ?_
 (refine zNp ?_)
 (refine zGo ?_)
 exact ⟨_, _, _, rfl, ⟨rfl, _, _, _, rfl, rfl⟩, .inr (.inl rfl), ⟨.inr (.inl rfl), trivial⟩, rfl, rfl⟩
end Go.Proofs.YtkaobkjcjodffaaGreatDoor
namespace Go.Proofs.YtkaobkjcjodffaaGreatDoor
open Go Go.Pw
theorem e26 : Enters Tryz.prog 26 := Enters.of Tryz.func26 (by kernel_rfl) rfl
theorem e54 : Enters Tryz.prog 54 := Enters.of Tryz.func54 (by kernel_rfl) rfl
theorem e107 : Enters Tryz.prog 107 := Enters.of Tryz.func107 (by kernel_rfl) rfl
end Go.Proofs.YtkaobkjcjodffaaGreatDoor
namespace Go.Proofs.YtkaobkjcjodffaaGreatDoor
open Go Go.Pw
def mem (l : List TRng) (v : Int) : Prop := ∃ r ∈ l, r.lo ≤ v ∧ v ≤ r.hi
theorem mem_nil (v : Int) : ¬ mem [] v := by rintro ⟨r, h, _⟩; cases h
theorem mem_cons {r : TRng} {l : List TRng} {v : Int} : mem (r :: l) v ↔ (r.lo ≤ v ∧ v ≤ r.hi) ∨ mem l v := by
 constructor
 ·rintro ⟨x, hx, h⟩
  rcases List.mem_cons.1 hx with rfl | hx
  ·exact .inl h
  ·exact .inr ⟨x, hx, h⟩
 ·rintro (h | ⟨x, hx, h⟩)
  ·exact ⟨r, List.mem_cons_self .., h⟩
  ·exact ⟨x, List.mem_cons_of_mem _ hx, h⟩
theorem mem_append {a b : List TRng} {v : Int} : mem (a ++ b) v ↔ mem a v ∨ mem b v := by
 constructor
 ·rintro ⟨x, hx, h⟩
  rcases List.mem_append.1 hx with hx | hx
  ·exact .inl ⟨x, hx, h⟩
  ·exact .inr ⟨x, hx, h⟩
 ·rintro (⟨x, hx, h⟩ | ⟨x, hx, h⟩)
  ·exact ⟨x, List.mem_append_left _ hx, h⟩
  ·exact ⟨x, List.mem_append_right _ hx, h⟩
theorem mem_snoc {r : TRng} {l : List TRng} {v : Int} : mem (l ++ [r]) v ↔ mem l v ∨ (r.lo ≤ v ∧ v ≤ r.hi) := by
 rw [mem_append, mem_cons]; simp [mem_nil]
inductive Can : List TRng → Prop
 | nil : Can []
 | cons (r : TRng) (l : List TRng) : r.lo ≤ r.hi → (∀ x ∈ l, r.hi + 2 ≤ x.lo) → Can l → Can (r :: l)
theorem Can.low {r : TRng} {l : List TRng} (h : Can (r :: l)) {v : Int} (hv : mem (r :: l) v) : r.lo ≤ v := by
 cases h with
 | cons _ _ h1 h2 h3 =>
  rcases mem_cons.1 hv with h | ⟨x, hx, h⟩
  ·exact h.1
  ·have := h2 x hx; omega
theorem Can.uniq : ∀ {a b : List TRng}, Can a → Can b → (∀ v, mem a v ↔ mem b v) → a = b
 | [], [], _, _, _ => rfl
 | [], r :: l, _, hb, h => by
  cases hb with
  | cons _ _ h1 h2 h3 => exact absurd ((h r.lo).2 (mem_cons.2 (.inl ⟨Int.le_refl _, h1⟩))) (mem_nil _)
 | r :: l, [], ha, _, h => by
  cases ha with
  | cons _ _ h1 h2 h3 => exact absurd ((h r.lo).1 (mem_cons.2 (.inl ⟨Int.le_refl _, h1⟩))) (mem_nil _)
 | r :: l, s :: m, ha, hb, h => by
  have ha' := ha
  have hb' := hb
  cases ha with
  | cons _ _ a1 a2 a3 =>
   cases hb with
   | cons _ _ b1 b2 b3 =>
    have e1 : r.lo = s.lo := by
     have x1 := hb'.low ((h r.lo).1 (mem_cons.2 (.inl ⟨Int.le_refl _, a1⟩)))
     have x2 := ha'.low ((h s.lo).2 (mem_cons.2 (.inl ⟨Int.le_refl _, b1⟩)))
     omega
    have gap : ∀ {r : TRng} {l : List TRng}, (∀ x ∈ l, r.hi + 2 ≤ x.lo) → ¬ mem (r :: l) (r.hi + 1) := by
     intro r l hg hm
     rcases mem_cons.1 hm with hm | ⟨x, hx, hm⟩
     ·omega
     ·have := hg x hx; omega
    have e2 : r.hi = s.hi := by
     rcases Int.lt_trichotomy r.hi s.hi with h4 | h4 | h4
     ·exact absurd ((h (r.hi + 1)).2 (mem_cons.2 (.inl ⟨by omega, by omega⟩))) (gap a2)
     ·exact h4
     ·exact absurd ((h (s.hi + 1)).1 (mem_cons.2 (.inl ⟨by omega, by omega⟩))) (gap b2)
    have e : r = s := by cases r; cases s; simp_all
    subst e
    have : l = m := Can.uniq a3 b3 fun v => by
     have hv := h v
     rw [mem_cons, mem_cons] at hv
     constructor
     ·rintro ⟨x, hx, h5⟩
      rcases hv.1 (.inr ⟨x, hx, h5⟩) with h6 | h6
      ·have := a2 x hx; omega
      ·exact h6
     ·rintro ⟨x, hx, h5⟩
      rcases hv.2 (.inr ⟨x, hx, h5⟩) with h6 | h6
      ·have := b2 x hx; omega
      ·exact h6
    rw [this]
theorem Can.append : ∀ {a b : List TRng}, Can a → Can b → (∀ x ∈ a, ∀ y ∈ b, x.hi + 2 ≤ y.lo) → Can (a ++ b)
 | [], _, _, hb, _ => hb
 | r :: l, b, ha, hb, h => by
  cases ha with
  | cons _ _ a1 a2 a3 =>
   refine .cons r (l ++ b) a1 (fun x hx => ?_) (Can.append a3 hb fun x hx => h x (List.mem_cons_of_mem _ hx))
   rcases List.mem_append.1 hx with hx | hx
   ·exact a2 x hx
   ·exact h r (List.mem_cons_self ..) x hx
theorem Can.one {r : TRng} (h : r.lo ≤ r.hi) : Can [r] := .cons r [] h (by simp) .nil
theorem Can.left : ∀ {a b : List TRng}, Can (a ++ b) → Can a
 | [], _, _ => .nil
 | r :: l, b, h => by
  cases h with
  | cons _ _ a1 a2 a3 => exact .cons r l a1 (fun x hx => a2 x (List.mem_append_left _ hx)) (Can.left a3)
theorem Can.snoc_inv {a : List TRng} {r : TRng} (h : Can (a ++ [r])) : Can a ∧ r.lo ≤ r.hi ∧ ∀ x ∈ a, x.hi + 2 ≤ r.lo := by
 induction a with
 | nil => cases h with | cons _ _ a1 _ _ => exact ⟨.nil, a1, by simp⟩
 | cons s l ih =>
  cases h with
  | cons _ _ a1 a2 a3 =>
   obtain ⟨h1, h2, h3⟩ := ih a3
   refine ⟨.cons s l a1 (fun x hx => a2 x (List.mem_append_left _ hx)) h1, h2, fun x hx => ?_⟩
   rcases List.mem_cons.1 hx with rfl | hx
   ·exact a2 r (by simp)
   ·exact h3 x hx
def mstep (out : List TRng) (r : TRng) : List TRng :=
 match out.getLast? with
 | some q => if r.lo ≤ q.hi + 1 then out.dropLast ++ [⟨q.lo, max q.hi r.hi⟩] else out ++ [r]
 | none => [r]
theorem mstep_nil (r : TRng) : mstep [] r = [r] := rfl
theorem mstep_snoc (a : List TRng) (q r : TRng) : mstep (a ++ [q]) r = if r.lo ≤ q.hi + 1 then a ++ [⟨q.lo, max q.hi r.hi⟩] else a ++ [q] ++ [r] := by
 unfold mstep
 rw [List.getLast?_append]
 simp
theorem mstep_ok {out : List TRng} {r : TRng} (h : Can out) (hr : r.lo ≤ r.hi) (hs : ∀ x ∈ out, x.lo ≤ r.lo) :
  Can (mstep out r) ∧ (∀ v, mem (mstep out r) v ↔ mem out v ∨ (r.lo ≤ v ∧ v ≤ r.hi)) ∧ ∀ x ∈ mstep out r, x.lo ≤ r.lo := by
 rcases List.eq_nil_or_concat out with rfl | ⟨a, q, rfl⟩
 ·rw [mstep_nil]
  exact ⟨.one hr, fun v => by rw [mem_cons]; simp [mem_nil], by simp⟩
 ·rw [List.concat_eq_append] at *
  obtain ⟨h1, h2, h3⟩ := h.snoc_inv
  have hq := hs q (by simp)
  rw [mstep_snoc]
  split
  ·rename_i hle
   refine ⟨Can.append h1 (.one (by show q.lo ≤ max q.hi r.hi; omega)) (fun x hx y hy => by rw [List.mem_singleton] at hy; subst hy; exact h3 x hx), fun v => ?_, fun x hx => ?_⟩
   ·rw [mem_snoc, mem_snoc]
    show mem a v ∨ (q.lo ≤ v ∧ v ≤ max q.hi r.hi) ↔ _
    constructor
    ·rintro (h | h)
     ·exact .inl (.inl h)
     ·by_cases hv : v ≤ q.hi
      ·exact .inl (.inr ⟨h.1, hv⟩)
      ·exact .inr (by omega)
    ·rintro ((h | h) | h)
     ·exact .inl h
     ·exact .inr (by omega)
     ·exact .inr (by omega)
   ·rcases List.mem_append.1 hx with hx | hx
    ·exact hs x (by simp [hx])
    ·rw [List.mem_singleton] at hx; subst hx; exact hq
  ·rename_i hgt
   refine ⟨Can.append h (.one hr) (fun x hx y hy => ?_), fun v => mem_snoc, fun x hx => ?_⟩
   ·rw [List.mem_singleton] at hy; subst hy
    rcases List.mem_append.1 hx with hx | hx
    ·have := h3 x hx; omega
    ·rw [List.mem_singleton] at hx; subst hx; omega
   ·rcases List.mem_append.1 hx with hx | hx
    ·exact hs x hx
    ·rw [List.mem_singleton] at hx; subst hx; exact Int.le_refl _
def mergeAll (d : List TRng) : List TRng := d.foldl mstep []
theorem mergeAll_ok {d : List TRng} (hd : d.Pairwise fun a b => a.lo ≤ b.lo) (hn : ∀ r ∈ d, r.lo ≤ r.hi) : Can (mergeAll d) ∧ ∀ v, mem (mergeAll d) v ↔ mem d v := by
 have key : ∀ (d out : List TRng), (d.Pairwise fun a b => a.lo ≤ b.lo) → (∀ r ∈ d, r.lo ≤ r.hi) → Can out → (∀ x ∈ out, ∀ y ∈ d, x.lo ≤ y.lo) → Can (d.foldl mstep out) ∧ ∀ v, mem (d.foldl mstep out) v ↔ mem out v ∨ mem d v := by
  intro d
  induction d with
  | nil => intro out _ _ h _; exact ⟨h, fun v => by simp [mem_nil]⟩
  | cons r d ih =>
   intro out hp hn h hs
   rw [List.pairwise_cons] at hp
   obtain ⟨h1, h2, h3⟩ := mstep_ok h (hn r (by simp)) (fun x hx => hs x hx r (by simp))
   obtain ⟨h4, h5⟩ := ih (mstep out r) hp.2 (fun x hx => hn x (by simp [hx])) h1 (fun x hx y hy => by have := h3 x hx; have := hp.1 y hy; omega)
   refine ⟨h4, fun v => ?_⟩
   rw [List.foldl_cons, h5, h2, mem_cons, or_assoc]
 obtain ⟨h1, h2⟩ := key d [] hd hn .nil (by simp)
 exact ⟨h1, fun v => by rw [mergeAll, h2]; simp [mem_nil]⟩
def canon (l : List TRng) : List TRng := mergeAll ((l.filter fun r => decide (r.lo ≤ r.hi)).mergeSort fun a b => decide (a.lo ≤ b.lo))
theorem mem_filter {l : List TRng} {v : Int} : mem (l.filter fun r => decide (r.lo ≤ r.hi)) v ↔ mem l v := by
 constructor
 ·rintro ⟨r, hr, h⟩
  exact ⟨r, (List.mem_filter.1 hr).1, h⟩
 ·rintro ⟨r, hr, h⟩
  exact ⟨r, List.mem_filter.2 ⟨hr, by simp; omega⟩, h⟩
theorem mem_perm {a b : List TRng} (h : a.Perm b) (v : Int) : mem a v ↔ mem b v :=
 ⟨fun ⟨r, hr, h1⟩ => ⟨r, h.mem_iff.1 hr, h1⟩, fun ⟨r, hr, h1⟩ => ⟨r, h.mem_iff.2 hr, h1⟩⟩
theorem canon_ok (l : List TRng) : Can (canon l) ∧ ∀ v, mem (canon l) v ↔ mem l v := by
 have hp := List.mergeSort_perm (l.filter fun r => decide (r.lo ≤ r.hi)) (fun a b => decide (a.lo ≤ b.lo))
 obtain ⟨h1, h2⟩ := mergeAll_ok (d := (l.filter fun r : TRng => decide (r.lo ≤ r.hi)).mergeSort fun a b : TRng => decide (a.lo ≤ b.lo))
  ((List.pairwise_mergeSort (le := fun a b : TRng => decide (a.lo ≤ b.lo)) (fun a b c h1 h2 => by simp only [decide_eq_true_eq] at *; omega) (fun a b => by simp only [Bool.or_eq_true, decide_eq_true_eq]; omega) _).imp fun h => by simpa using h)
  (fun r hr => by have := List.mem_filter.1 (hp.mem_iff.1 hr); simpa using this.2)
 exact ⟨h1, fun v => by rw [canon, h2, mem_perm hp, mem_filter]⟩
theorem canon_uniq {a l : List TRng} (h : Can a) (hm : ∀ v, mem a v ↔ mem l v) : a = canon l :=
 h.uniq (canon_ok l).1 fun v => (hm v).trans ((canon_ok l).2 v).symm
theorem merge_canon {d l : List TRng} (hp : d.Perm (l.filter fun r => decide (r.lo ≤ r.hi))) (hd : d.Pairwise fun a b => a.lo ≤ b.lo) : mergeAll d = canon l := by
 obtain ⟨h1, h2⟩ := mergeAll_ok hd (fun r hr => by have := List.mem_filter.1 (hp.mem_iff.1 hr); simpa using this.2)
 exact canon_uniq h1 fun v => by rw [h2, mem_perm hp, mem_filter]
theorem canon_self {l : List TRng} (h : Can l) : canon l = l := (canon_uniq h fun _ => Iff.rfl).symm
def isect (a b : List TRng) : List TRng := canon (a.flatMap fun r => b.map fun s => ⟨max r.lo s.lo, min r.hi s.hi⟩)
theorem isect_mem (a b : List TRng) (v : Int) : mem (isect a b) v ↔ mem a v ∧ mem b v := by
 unfold isect
 rw [(canon_ok _).2]
 constructor
 ·rintro ⟨x, hx, h⟩
  simp only [List.mem_flatMap, List.mem_map] at hx
  obtain ⟨r, hr, s, hs, rfl⟩ := hx
  dsimp only at h
  exact ⟨⟨r, hr, by omega⟩, ⟨s, hs, by omega⟩⟩
 ·rintro ⟨⟨r, hr, h⟩, ⟨s, hs, h'⟩⟩
  exact ⟨⟨max r.lo s.lo, min r.hi s.hi⟩, by simp only [List.mem_flatMap, List.mem_map]; exact ⟨r, hr, s, hs, rfl⟩, by show max r.lo s.lo ≤ v; omega, by show v ≤ min r.hi s.hi; omega⟩
theorem isect_uniq {a b c : List TRng} (h : Can c) (hm : ∀ v, mem c v ↔ mem a v ∧ mem b v) : c = isect a b :=
 h.uniq (canon_ok _).1 fun v => (hm v).trans (isect_mem a b v).symm
end Go.Proofs.YtkaobkjcjodffaaGreatDoor
namespace Go.Proofs
open Go.Shelf
def Tryz.laysSort_ren : Go.Shelf.Ren := ⟨fun | 6 => 204 | 14 => 222 | 15 => 223 | 20 => 231 | 21 => 232 | 22 => 233 | 23 => 234 | 24 => 235 | 25 => 236 | 26 => 237 | 27 => 238 | 28 => 239 | 29 => 212 | 46 => 242 | 47 => 243 | 48 => 244 | 49 => 245 | 50 => 246 | 57 => 247 | n => n, fun | 0 => 0 | 3 => 3 | 4 => 4 | 5 => 5 | 9 => 9 | 22 => 74 | 24 => 85 | 25 => 243 | 39 => 115 | 45 => 263 | 46 => 264 | 50 => 152 | 53 => 79 | 55 => 138 | 66 => 272 | 70 => 276 | 76 => 278 | 77 => 177 | n => n, fun n => n⟩
theorem Tryz.laysSort : Go.Proofs.SlLaysF0.n6 Tryz.prog Tryz.laysSort_ren := {
 mixed := by kernel_rfl
 f6 := ⟨Tryz.f204.name, by kernel_rfl, Tryz.func204.trans (congrArg some (by kernel_rfl))⟩
 f14 := ⟨Tryz.f222.name, by kernel_rfl, Tryz.func222.trans (congrArg some (by kernel_rfl))⟩
 f15 := Tryz.func223.trans (congrArg some (by kernel_rfl))
 f20 := ⟨Tryz.f231.name, by kernel_rfl, Tryz.func231.trans (congrArg some (by kernel_rfl))⟩
 f21 := ⟨Tryz.f232.name, by kernel_rfl, Tryz.func232.trans (congrArg some (by kernel_rfl))⟩
 f22 := ⟨Tryz.f233.name, by kernel_rfl, Tryz.func233.trans (congrArg some (by kernel_rfl))⟩
 f23 := ⟨Tryz.f234.name, by kernel_rfl, Tryz.func234.trans (congrArg some (by kernel_rfl))⟩
 f24 := ⟨Tryz.f235.name, by kernel_rfl, Tryz.func235.trans (congrArg some (by kernel_rfl))⟩
 f25 := ⟨Tryz.f236.name, by kernel_rfl, Tryz.func236.trans (congrArg some (by kernel_rfl))⟩
 f26 := ⟨Tryz.f237.name, by kernel_rfl, Tryz.func237.trans (congrArg some (by kernel_rfl))⟩
 f27 := ⟨Tryz.f238.name, by kernel_rfl, Tryz.func238.trans (congrArg some (by kernel_rfl))⟩
 f28 := Tryz.func239.trans (congrArg some (by kernel_rfl))
 f29 := Tryz.func212.trans (congrArg some (by kernel_rfl))
 f46 := ⟨Tryz.f242.name, by kernel_rfl, Tryz.func242.trans (congrArg some (by kernel_rfl))⟩
 f47 := Tryz.func243.trans (congrArg some (by kernel_rfl))
 f48 := Tryz.func244.trans (congrArg some (by kernel_rfl))
 f49 := ⟨Tryz.f245.name, by kernel_rfl, Tryz.func245.trans (congrArg some (by kernel_rfl))⟩
 f50 := ⟨Tryz.f246.name, by kernel_rfl, Tryz.func246.trans (congrArg some (by kernel_rfl))⟩
 f57 := ⟨Tryz.f247.name, by kernel_rfl, Tryz.func247.trans (congrArg some (by kernel_rfl))⟩
 t0 := Tryz.underlying0
 a0 := Tryz.isAgg0
 z0 := Tryz.sizeOf0
 v0 := Tryz.zeroValue0
 t3 := Tryz.underlying3
 a3 := Tryz.isAgg3
 z3 := Tryz.sizeOf3
 v3 := Tryz.zeroValue3
 t4 := Tryz.underlying4
 a4 := Tryz.isAgg4
 z4 := Tryz.sizeOf4
 v4 := Tryz.zeroValue4
 t5 := Tryz.underlying5
 a5 := Tryz.isAgg5
 z5 := Tryz.sizeOf5
 v5 := Tryz.zeroValue5
 t9 := Tryz.underlying9
 a9 := Tryz.isAgg9
 z9 := Tryz.sizeOf9
 v9 := Tryz.zeroValue9
 t22 := Tryz.underlying74
 a22 := Tryz.isAgg74
 z22 := Tryz.sizeOf74
 v22 := Tryz.zeroValue74
 t25 := Tryz.underlying243
 a25 := Tryz.isAgg243
 z25 := Tryz.sizeOf243
 v25 := Tryz.zeroValue243
 t39 := Tryz.underlying115
 a39 := Tryz.isAgg115
 z39 := Tryz.sizeOf115
 v39 := Tryz.zeroValue115
 t45 := Tryz.underlying263
 a45 := Tryz.isAgg263
 z45 := Tryz.sizeOf263
 v45 := Tryz.zeroValue263
 t46 := Tryz.underlying264
 a46 := Tryz.isAgg264
 z46 := Tryz.sizeOf264
 v46 := Tryz.zeroValue264
 t50 := Tryz.underlying152
 a50 := Tryz.isAgg152
 z50 := Tryz.sizeOf152
 v50 := Tryz.zeroValue152
 t53 := Tryz.underlying79
 a53 := Tryz.isAgg79
 z53 := Tryz.sizeOf79
 v53 := Tryz.zeroValue79
 t55 := Tryz.underlying138
 a55 := Tryz.isAgg138
 z55 := Tryz.sizeOf138
 v55 := Tryz.zeroValue138
 t66 := Tryz.underlying272
 a66 := Tryz.isAgg272
 z66 := Tryz.sizeOf272
 v66 := Tryz.zeroValue272
 t70 := Tryz.underlying276
 a70 := Tryz.isAgg276
 z70 := Tryz.sizeOf276
 v70 := Tryz.zeroValue276
 t76 := Tryz.underlying278
 a76 := Tryz.isAgg278
 z76 := Tryz.sizeOf278
 v76 := Tryz.zeroValue278
 t77 := Tryz.underlying177
 a77 := Tryz.isAgg177
 z77 := Tryz.sizeOf177
 v77 := Tryz.zeroValue177
}
def Tryz.laysGrow_ren : Go.Shelf.Ren := ⟨fun | 4 => 207 | n => n, fun | 0 => 0 | 3 => 3 | 4 => 4 | 9 => 9 | 20 => 20 | 22 => 74 | 25 => 85 | n => n, fun n => n⟩
theorem Tryz.laysGrow : Go.Proofs.Lays8.n4 Tryz.prog Tryz.laysGrow_ren := {
 mixed := by kernel_rfl
 f4 := ⟨Tryz.f207.name, by kernel_rfl, Tryz.func207.trans (congrArg some (by kernel_rfl))⟩
 t0 := Tryz.underlying0
 a0 := Tryz.isAgg0
 z0 := Tryz.sizeOf0
 v0 := Tryz.zeroValue0
 t3 := Tryz.underlying3
 a3 := Tryz.isAgg3
 z3 := Tryz.sizeOf3
 v3 := Tryz.zeroValue3
 t4 := Tryz.underlying4
 a4 := Tryz.isAgg4
 z4 := Tryz.sizeOf4
 v4 := Tryz.zeroValue4
 t9 := Tryz.underlying9
 a9 := Tryz.isAgg9
 z9 := Tryz.sizeOf9
 v9 := Tryz.zeroValue9
 t20 := Tryz.underlying20
 a20 := Tryz.isAgg20
 z20 := Tryz.sizeOf20
 v20 := Tryz.zeroValue20
 t22 := Tryz.underlying74
 a22 := Tryz.isAgg74
 z22 := Tryz.sizeOf74
 v22 := Tryz.zeroValue74
}
end Go.Proofs
