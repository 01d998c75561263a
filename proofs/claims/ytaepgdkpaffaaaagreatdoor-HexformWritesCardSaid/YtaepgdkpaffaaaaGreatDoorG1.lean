import Derived.Shelf.Small.Bits
import Derived.Shelf.Bits.Mul64
import Derived.Test.YtaepgdkpaffaaaaGreatDoorProg
import Derived.Shelf.Strings.Builder1
import Derived.Shelf.Strings.Builder2
import Derived.Shelf.Strings.OnBuilder
import Derived.Shelf.Strings.Trim
import Derived.Shelf.Small.Strs
import Derived.Shelf.Small.Wraps
import Derived.Shelf.Strings.BuilderF
import Derived.Shelf.Strconv.Itoa0
import Derived.Shelf.Strconv.Itoa1
import Derived.Shelf.LaysM
import Derived.Shelf.Strconv.Itoa2
import Derived.Shelf.Strconv.Itoa3
import Derived.Shelf.Strings.Search1
import Derived.Shelf.Strings.Prefix
import Derived.Shelf.Strings.Repeat
import Derived.Shelf.Slices.ReverseS
import Derived.Shelf.Slices.Cells
import Derived.Below
import Derived.Test.YtaepgdkpaffaaaaGreatDoorWWords
import Derived.WalkKit
import Derived.KernelRfl
import Derived.WalkSpells
import Derived.Lib.Hide
import Derived.Lib.LazyBuf
import Derived.Deep.Quiet
import Derived.Deep.QuietTactic
import Derived.BigQuiet
import Derived.Laws.Externs
set_option linter.unusedVariables false
set_option linter.unusedSimpArgs false
/- The library's contracts for math/bits.Len64, LeadingZeros64 and Mul64, laid at this translation by the kit's tools lay-shelf and lay-plain. -/
namespace Go.Proofs
open Go.Shelf
def Tryz.lays134_ren : Go.Shelf.Ren := ⟨fun | 134 => 188 | 129 => 93 | n => n, fun | 53 => 22 | 3 => 3 | 4 => 4 | 46 => 61 | 5 => 5 | 9 => 9 | n => n, fun | n => n⟩
theorem Tryz.lays134 : Go.Proofs.Lays.n134 Tryz.prog Tryz.lays134_ren := {
  mixed := by kernel_rfl
  f129 := Tryz.func93.trans (congrArg some (by kernel_rfl))
  f134 := Tryz.func188.trans (congrArg some (by kernel_rfl))
  t3 := Tryz.underlying3
  a3 := Tryz.isAgg3
  z3 := Tryz.sizeOf3
  v3 := Tryz.zeroValue3
  t4 := Tryz.underlying4
  a4 := Tryz.isAgg4
  z4 := Tryz.sizeOf4
  v4 := Tryz.zeroValue4
  t5 := Tryz.underlying5
  a5 := Tryz.isAgg5
  z5 := Tryz.sizeOf5
  v5 := Tryz.zeroValue5
  t9 := Tryz.underlying9
  a9 := Tryz.isAgg9
  z9 := Tryz.sizeOf9
  v9 := Tryz.zeroValue9
  t46 := Tryz.underlying61
  a46 := Tryz.isAgg61
  z46 := Tryz.sizeOf61
  v46 := Tryz.zeroValue61
  t53 := Tryz.underlying22
  a53 := Tryz.isAgg22
  z53 := Tryz.sizeOf22
  v53 := Tryz.zeroValue22 }
theorem Tryz.bits_LeadingZeros64 (x : Int) (w : World) (h0 : 0 ≤ x) (h1 : x ≤ 18446744073709551615) :
    Calls Tryz.prog 188 #[.int .u64 x] w fun e w' => e = .returned (.int .i64 (64 - (Lib.bitLen x.toNat : Int))) ∧ w' = w := Any.bits_LeadingZeros64 Tryz.lays134 x w h0 h1
def Tryz.lays129_ren : Go.Shelf.Ren := ⟨fun | 129 => 93 | n => n, fun | 53 => 22 | 3 => 3 | 4 => 4 | 46 => 61 | 5 => 5 | 9 => 9 | n => n, fun | n => n⟩
theorem Tryz.lays129 : Go.Proofs.Lays.n129 Tryz.prog Tryz.lays129_ren := {
  mixed := by kernel_rfl
  f129 := Tryz.func93.trans (congrArg some (by kernel_rfl))
  t3 := Tryz.underlying3
  a3 := Tryz.isAgg3
  z3 := Tryz.sizeOf3
  v3 := Tryz.zeroValue3
  t4 := Tryz.underlying4
  a4 := Tryz.isAgg4
  z4 := Tryz.sizeOf4
  v4 := Tryz.zeroValue4
  t5 := Tryz.underlying5
  a5 := Tryz.isAgg5
  z5 := Tryz.sizeOf5
  v5 := Tryz.zeroValue5
  t9 := Tryz.underlying9
  a9 := Tryz.isAgg9
  z9 := Tryz.sizeOf9
  v9 := Tryz.zeroValue9
  t46 := Tryz.underlying61
  a46 := Tryz.isAgg61
  z46 := Tryz.sizeOf61
  v46 := Tryz.zeroValue61
  t53 := Tryz.underlying22
  a53 := Tryz.isAgg22
  z53 := Tryz.sizeOf22
  v53 := Tryz.zeroValue22 }
theorem Tryz.bits_Len64 (x : Int) (w : World) (h0 : 0 ≤ x) (h1 : x ≤ 18446744073709551615) :
    Calls Tryz.prog 93 #[.int .u64 x] w fun e w' => e = .returned (.int .i64 (Lib.bitLen x.toNat)) ∧ w' = w := Any.bits_Len64 Tryz.lays129 x w h0 h1
def Tryz.lays264_ren : Go.Shelf.Ren := ⟨fun | 264 => 84 | n => n, fun | 53 => 22 | 46 => 61 | n => n, fun | n => n⟩
theorem Tryz.lays264 : Go.Proofs.Lays.n264 Tryz.prog Tryz.lays264_ren := {
  mixed := by kernel_rfl
  f264 := Tryz.func84.trans (congrArg some (by kernel_rfl))
  t46 := Tryz.underlying61
  a46 := Tryz.isAgg61
  z46 := Tryz.sizeOf61
  v46 := Tryz.zeroValue61
  t53 := Tryz.underlying22
  a53 := Tryz.isAgg22
  z53 := Tryz.sizeOf22
  v53 := Tryz.zeroValue22 }
open Go.RowKit Go.Lib in
theorem Tryz.bits_Mul64 (x y : Nat) (hx : x < 18446744073709551616) (hy : y < 18446744073709551616) (w : World) :
    Calls Tryz.prog 84 #[.int .u64 x, .int .u64 y] w fun e w' => e = .returned (.tuple #[.int .u64 ((x * y / 18446744073709551616 : Nat) : Int), .int .u64 ((x * y % 18446744073709551616 : Nat) : Int)]) ∧ w' = w := Any.bits_Mul64 Tryz.lays264 x y hx hy w
end Go.Proofs

/- The library's contracts, laid at this translation by the kit's tools lay-shelf and lay-plain: strconv_Itoa, internal_strconv_small, internal_strconv_numDigits, internal_strconv_formatBase10, strings_Join, strings_Join_none, strings_Repeat, strings_TrimLeft_one, slices_Reverse_string, slices_Reverse_string_empty. -/
namespace Go.Proofs
open Go.Shelf
def Tryz.lays156_ren : Go.Shelf.Ren := ⟨fun | 156 => 113 | 165 => 164 | 166 => 165 | 169 => 167 | 240 => 199 | 241 => 200 | 276 => 219 | 277 => 220 | n => n, fun | 31 => 135 | 9 => 9 | 3 => 3 | 4 => 4 | 0 => 0 | 20 => 20 | 72 => 182 | 76 => 184 | 70 => 180 | 37 => 116 | 75 => 165 | 127 => 206 | 164 => 220 | 5 => 5 | 80 => 187 | n => n, fun | n => n⟩
theorem Tryz.lays156 : Go.Proofs.Lays.n156 Tryz.prog Tryz.lays156_ren := {
  mixed := by kernel_rfl
  f156 := Tryz.func113.trans (congrArg some (by kernel_rfl))
  f165 := Tryz.func164.trans (congrArg some (by kernel_rfl))
  f166 := Tryz.func165.trans (congrArg some (by kernel_rfl))
  f169 := Tryz.func167.trans (congrArg some (by kernel_rfl))
  f240 := Tryz.func199.trans (congrArg some (by kernel_rfl))
  f241 := Tryz.func200.trans (congrArg some (by kernel_rfl))
  f276 := Tryz.func219.trans (congrArg some (by kernel_rfl))
  f277 := Tryz.func220.trans (congrArg some (by kernel_rfl))
  t0 := Tryz.underlying0
  a0 := Tryz.isAgg0
  z0 := Tryz.sizeOf0
  v0 := Tryz.zeroValue0
  t3 := Tryz.underlying3
  a3 := Tryz.isAgg3
  z3 := Tryz.sizeOf3
  v3 := Tryz.zeroValue3
  t4 := Tryz.underlying4
  a4 := Tryz.isAgg4
  z4 := Tryz.sizeOf4
  v4 := Tryz.zeroValue4
  t9 := Tryz.underlying9
  a9 := Tryz.isAgg9
  z9 := Tryz.sizeOf9
  v9 := Tryz.zeroValue9
  t20 := Tryz.underlying20
  a20 := Tryz.isAgg20
  z20 := Tryz.sizeOf20
  v20 := Tryz.zeroValue20
  t31 := Tryz.underlying135
  a31 := Tryz.isAgg135
  z31 := Tryz.sizeOf135
  v31 := Tryz.zeroValue135
  t37 := Tryz.underlying116
  a37 := Tryz.isAgg116
  z37 := Tryz.sizeOf116
  v37 := Tryz.zeroValue116
  t70 := Tryz.underlying180
  a70 := Tryz.isAgg180
  z70 := Tryz.sizeOf180
  v70 := Tryz.zeroValue180
  t72 := Tryz.underlying182
  a72 := Tryz.isAgg182
  z72 := Tryz.sizeOf182
  v72 := Tryz.zeroValue182
  t75 := Tryz.underlying165
  a75 := Tryz.isAgg165
  z75 := Tryz.sizeOf165
  v75 := Tryz.zeroValue165
  t76 := Tryz.underlying184
  a76 := Tryz.isAgg184
  z76 := Tryz.sizeOf184
  v76 := Tryz.zeroValue184
  t127 := Tryz.underlying206
  a127 := Tryz.isAgg206
  z127 := Tryz.sizeOf206
  v127 := Tryz.zeroValue206
  t164 := Tryz.underlying220
  a164 := Tryz.isAgg220
  z164 := Tryz.sizeOf220
  v164 := Tryz.zeroValue220 }
theorem Tryz.Builder_Extra_156 : Builder.Extra Tryz.prog Tryz.lays156_ren := {
  sizeBuilder := by kernel_rfl
  liesBuilder := by kernel_rfl
  t5 := Tryz.underlying5
  a5 := Tryz.isAgg5
  z5 := Tryz.sizeOf5
  v5 := Tryz.zeroValue5
  infoByte := by kernel_rfl
  cellsByte := by kernel_rfl
  sizeByte := by kernel_rfl
  neB5 := by decide }
open Go.RowKit in
theorem Tryz.strings_Join_none (a : Option Addr) (c : Nat) (sep : ByteArray) (w : World) :
    Calls Tryz.prog 113 #[.slice a 0 c, .string sep] w fun e w' => e = .returned (.string ⟨#[]⟩) ∧ w' = w := Any.strings_Join_none Tryz.lays156 Tryz.Builder_Extra_156 a c sep w
open Go.RowKit in
theorem Tryz.strings_Join (bk o c : Nat) (xs : List ByteArray) (sep : ByteArray) (w : World) (hcells : ∀ (j : Nat) x, xs[j]? = some x → w.cell? ⟨bk, o + j, none⟩ = some (.string x)) (hbk : bk < w.heap.size) (hN : xs.length ≤ 140737488355328) (hcap : xs.length ≤ c) (hlen : (Lib.join (xs.map (·.data.toList)) sep.data.toList).length ≤ 140737488355328) :
    Calls Tryz.prog 113 #[.slice (some ⟨bk, o, none⟩) xs.length c, .string sep] w fun e w' => e = .returned (.string ⟨(Lib.join (xs.map (·.data.toList)) sep.data.toList).toArray⟩) ∧ Below w.heap.size w w' := Any.strings_Join Tryz.lays156 Tryz.Builder_Extra_156 bk o c xs sep w hcells hbk hN hcap hlen
def Tryz.lays161_ren : Go.Shelf.Ren := ⟨fun | 161 => 174 | 231 => 179 | 227 => 115 | 233 => 180 | 235 => 181 | 228 => 168 | 197 => 202 | 151 => 170 | 260 => 221 | 152 => 203 | 137 => 222 | 119 => 223 | 224 => 224 | 225 => 225 | 217 => 236 | 266 => 238 | n => n, fun | 9 => 9 | 4 => 4 | 3 => 3 | 5 => 5 | 117 => 145 | 116 => 144 | 0 => 0 | 124 => 148 | 105 => 189 | 21 => 21 | 119 => 235 | 46 => 61 | 139 => 238 | 138 => 237 | n => n, fun | 3 => 6 | 4 => 7 | n => n⟩
theorem Tryz.lays161 : Go.Proofs.Lays.n161 Tryz.prog Tryz.lays161_ren := {
  mixed := by kernel_rfl
  f119 := Tryz.func223.trans (congrArg some (by kernel_rfl))
  f137 := Tryz.func222.trans (congrArg some (by kernel_rfl))
  f151 := Tryz.func170.trans (congrArg some (by kernel_rfl))
  f152 := Tryz.func203.trans (congrArg some (by kernel_rfl))
  f161 := Tryz.func174.trans (congrArg some (by kernel_rfl))
  f197 := Tryz.func202.trans (congrArg some (by kernel_rfl))
  f217 := Tryz.func236.trans (congrArg some (by kernel_rfl))
  f224 := Tryz.func224.trans (congrArg some (by kernel_rfl))
  f225 := Tryz.func225.trans (congrArg some (by kernel_rfl))
  f227 := Tryz.func115.trans (congrArg some (by kernel_rfl))
  f228 := Tryz.func168.trans (congrArg some (by kernel_rfl))
  f231 := Tryz.func179.trans (congrArg some (by kernel_rfl))
  f233 := Tryz.func180.trans (congrArg some (by kernel_rfl))
  f235 := Tryz.func181.trans (congrArg some (by kernel_rfl))
  f260 := Tryz.func221.trans (congrArg some (by kernel_rfl))
  f266 := Tryz.func238.trans (congrArg some (by kernel_rfl))
  t0 := Tryz.underlying0
  a0 := Tryz.isAgg0
  z0 := Tryz.sizeOf0
  v0 := Tryz.zeroValue0
  t3 := Tryz.underlying3
  a3 := Tryz.isAgg3
  z3 := Tryz.sizeOf3
  v3 := Tryz.zeroValue3
  t4 := Tryz.underlying4
  a4 := Tryz.isAgg4
  z4 := Tryz.sizeOf4
  v4 := Tryz.zeroValue4
  t5 := Tryz.underlying5
  a5 := Tryz.isAgg5
  z5 := Tryz.sizeOf5
  v5 := Tryz.zeroValue5
  t9 := Tryz.underlying9
  a9 := Tryz.isAgg9
  z9 := Tryz.sizeOf9
  v9 := Tryz.zeroValue9
  t21 := Tryz.underlying21
  a21 := Tryz.isAgg21
  z21 := Tryz.sizeOf21
  v21 := Tryz.zeroValue21
  t46 := Tryz.underlying61
  a46 := Tryz.isAgg61
  z46 := Tryz.sizeOf61
  v46 := Tryz.zeroValue61
  t105 := Tryz.underlying189
  a105 := Tryz.isAgg189
  z105 := Tryz.sizeOf189
  v105 := Tryz.zeroValue189
  t116 := Tryz.underlying144
  a116 := Tryz.isAgg144
  z116 := Tryz.sizeOf144
  t117 := Tryz.underlying145
  a117 := Tryz.isAgg145
  z117 := Tryz.sizeOf145
  v117 := Tryz.zeroValue145
  t119 := Tryz.underlying235
  a119 := Tryz.isAgg235
  z119 := Tryz.sizeOf235
  t124 := Tryz.underlying148
  a124 := Tryz.isAgg148
  z124 := Tryz.sizeOf148
  v124 := Tryz.zeroValue148
  t138 := Tryz.underlying237
  a138 := Tryz.isAgg237
  z138 := Tryz.sizeOf237
  v138 := Tryz.zeroValue237
  t139 := Tryz.underlying238
  a139 := Tryz.isAgg238
  z139 := Tryz.sizeOf238
  v139 := Tryz.zeroValue238
  g3 := by kernel_rfl
  g4 := by kernel_rfl }
open Go.RowKit in
theorem Tryz.strings_TrimLeft_one (s : ByteArray) (c : UInt8) (hc : c.toNat < 128) (w : World) :
    Calls Tryz.prog 174 #[.string s, .string ⟨#[c]⟩] w fun e w' => e = .returned (.string ⟨(Lib.trimLeftB s.data.toList c).toArray⟩) ∧ w' = w := Any.strings_TrimLeft_one Tryz.lays161 s c hc w
def Tryz.lays283_ren : Go.Shelf.Ren := ⟨fun | 283 => 191 | n => n, fun | 3 => 3 | 9 => 9 | 4 => 4 | n => n, fun | n => n⟩
theorem Tryz.lays283 : Go.Proofs.Lays.n283 Tryz.prog Tryz.lays283_ren := {
  mixed := by kernel_rfl
  f283 := Tryz.func191.trans (congrArg some (by kernel_rfl))
  t3 := Tryz.underlying3
  a3 := Tryz.isAgg3
  z3 := Tryz.sizeOf3
  v3 := Tryz.zeroValue3
  t4 := Tryz.underlying4
  a4 := Tryz.isAgg4
  z4 := Tryz.sizeOf4
  v4 := Tryz.zeroValue4
  t9 := Tryz.underlying9
  a9 := Tryz.isAgg9
  z9 := Tryz.sizeOf9
  v9 := Tryz.zeroValue9 }
open Go.Lib in
theorem Tryz.internal_strconv_small (i : Nat) (h : i < 100) (w : World) :
    Calls Tryz.prog 191 #[.int .i64 i] w fun e w' => e = .returned (.string ⟨(Lib.decDigits i).toArray⟩) ∧ w' = w := Any.internal_strconv_small Tryz.lays283 i h w
def Tryz.laysM284_ren : Go.Shelf.Ren := ⟨fun | 284 => 192 | 129 => 93 | 317 => 215 | 318 => 216 | n => n, fun | 53 => 22 | 3 => 3 | 212 => 217 | 0 => 0 | 4 => 4 | 46 => 61 | 5 => 5 | 9 => 9 | n => n, fun | 17 => 2 | n => n⟩
theorem Tryz.laysM284 : Go.Proofs.LaysM.n284 Tryz.prog Tryz.laysM284_ren := {
  mixed := by kernel_rfl
  f129 := Tryz.func93.trans (congrArg some (by kernel_rfl))
  f284 := Tryz.func192.trans (congrArg some (by kernel_rfl))
  f317 := Tryz.func215.trans (congrArg some (by kernel_rfl))
  f318 := Tryz.func216.trans (congrArg some (by kernel_rfl))
  t0 := Tryz.underlying0
  a0 := Tryz.isAgg0
  z0 := Tryz.sizeOf0
  v0 := Tryz.zeroValue0
  t3 := Tryz.underlying3
  a3 := Tryz.isAgg3
  z3 := Tryz.sizeOf3
  v3 := Tryz.zeroValue3
  t4 := Tryz.underlying4
  a4 := Tryz.isAgg4
  z4 := Tryz.sizeOf4
  v4 := Tryz.zeroValue4
  t5 := Tryz.underlying5
  a5 := Tryz.isAgg5
  z5 := Tryz.sizeOf5
  v5 := Tryz.zeroValue5
  t9 := Tryz.underlying9
  a9 := Tryz.isAgg9
  z9 := Tryz.sizeOf9
  v9 := Tryz.zeroValue9
  t46 := Tryz.underlying61
  a46 := Tryz.isAgg61
  z46 := Tryz.sizeOf61
  v46 := Tryz.zeroValue61
  t53 := Tryz.underlying22
  a53 := Tryz.isAgg22
  z53 := Tryz.sizeOf22
  v53 := Tryz.zeroValue22
  t212 := Tryz.underlying217
  a212 := Tryz.isAgg217
  z212 := Tryz.sizeOf217
  v212 := Tryz.zeroValue217
  g17 := by kernel_rfl
  i0 := by kernel_rfl
  i3 := by kernel_rfl
  i4 := by kernel_rfl
  i5 := by kernel_rfl
  i9 := by kernel_rfl
  i46 := by kernel_rfl
  i53 := by kernel_rfl
  i212 := by kernel_rfl
  m17 := by kernel_rfl }
open Go.Lib in
theorem Tryz.internal_strconv_numDigits (u : Nat) (h1 : 1 ≤ u) (h2 : u < 18446744073709551616) (w : World) (htab : Lib.TabIs Tryz.prog w "internal/strconv.uint64pow10" .u64 Lib.pow10Tab) :
    Calls Tryz.prog 192 #[.int .u64 u] w fun e w' => e = .returned (.int .i64 (Lib.nDigits u)) ∧ w' = w := Any.internal_strconv_numDigits Tryz.laysM284 u h1 h2 w htab
def Tryz.lays285_ren : Go.Shelf.Ren := ⟨fun | 285 => 193 | n => n, fun | 37 => 116 | 53 => 22 | 3 => 3 | 4 => 4 | 51 => 203 | 9 => 9 | 5 => 5 | 0 => 0 | n => n, fun | n => n⟩
theorem Tryz.lays285 : Go.Proofs.Lays.n285 Tryz.prog Tryz.lays285_ren := {
  mixed := by kernel_rfl
  f285 := Tryz.func193.trans (congrArg some (by kernel_rfl))
  t0 := Tryz.underlying0
  a0 := Tryz.isAgg0
  z0 := Tryz.sizeOf0
  v0 := Tryz.zeroValue0
  t3 := Tryz.underlying3
  a3 := Tryz.isAgg3
  z3 := Tryz.sizeOf3
  v3 := Tryz.zeroValue3
  t4 := Tryz.underlying4
  a4 := Tryz.isAgg4
  z4 := Tryz.sizeOf4
  v4 := Tryz.zeroValue4
  t5 := Tryz.underlying5
  a5 := Tryz.isAgg5
  z5 := Tryz.sizeOf5
  v5 := Tryz.zeroValue5
  t9 := Tryz.underlying9
  a9 := Tryz.isAgg9
  z9 := Tryz.sizeOf9
  v9 := Tryz.zeroValue9
  t37 := Tryz.underlying116
  a37 := Tryz.isAgg116
  z37 := Tryz.sizeOf116
  v37 := Tryz.zeroValue116
  t51 := Tryz.underlying203
  a51 := Tryz.isAgg203
  z51 := Tryz.sizeOf203
  v51 := Tryz.zeroValue203
  t53 := Tryz.underlying22
  a53 := Tryz.isAgg22
  z53 := Tryz.sizeOf22
  v53 := Tryz.zeroValue22 }
open Go.RowKit Go.Sort Go.Lib in
theorem Tryz.internal_strconv_formatBase10 (blk off cap : Nat) (u : Nat) (d : Array UInt8) (w : World) (hH : Holds (fun (b : UInt8) => Value.int .u8 (b.toNat : Int)) w blk off d) (hu : u < 10 ^ d.size) (hu64 : u < 18446744073709551616) (hsz : d.size < 4611686018427387904) :
    Calls Tryz.prog 193 #[.slice (some ⟨blk, off, none⟩) d.size cap, .int .u64 u] w fun e w' =>
      e = .returned (.tuple #[]) ∧ ∃ (n v' : Nat) (dk : Array UInt8), w' = (putRow (fun (b : UInt8) => Value.int .u8 (b.toNat : Int)) w blk off dk).drewN n ∧ FmtInv d.size u 0 v' dk := Any.internal_strconv_formatBase10 Tryz.lays285 blk off cap u d w hH hu hu64 hsz
def Tryz.laysM171_ren : Go.Shelf.Ren := ⟨fun | 171 => 37 | 243 => 94 | 246 => 155 | 283 => 191 | 284 => 192 | 285 => 193 | 286 => 194 | 129 => 93 | 317 => 215 | 318 => 216 | 319 => 217 | 320 => 218 | 337 => 234 | 338 => 235 | n => n, fun | 3 => 3 | 9 => 9 | 2 => 2 | 4 => 4 | 171 => 199 | 0 => 0 | 53 => 22 | 37 => 116 | 5 => 5 | 173 => 201 | 212 => 217 | 51 => 203 | 20 => 20 | 213 => 218 | 46 => 61 | 232 => 243 | 233 => 244 | n => n, fun | 17 => 2 | 18 => 8 | 19 => 9 | n => n⟩
theorem Tryz.laysM171 : Go.Proofs.LaysM.n171 Tryz.prog Tryz.laysM171_ren := {
  mixed := by kernel_rfl
  f129 := Tryz.func93.trans (congrArg some (by kernel_rfl))
  f171 := Tryz.func37.trans (congrArg some (by kernel_rfl))
  f243 := Tryz.func94.trans (congrArg some (by kernel_rfl))
  f246 := Tryz.func155.trans (congrArg some (by kernel_rfl))
  f283 := Tryz.func191.trans (congrArg some (by kernel_rfl))
  f284 := Tryz.func192.trans (congrArg some (by kernel_rfl))
  f285 := Tryz.func193.trans (congrArg some (by kernel_rfl))
  f286 := Tryz.func194.trans (congrArg some (by kernel_rfl))
  f317 := Tryz.func215.trans (congrArg some (by kernel_rfl))
  f318 := Tryz.func216.trans (congrArg some (by kernel_rfl))
  f319 := Tryz.func217.trans (congrArg some (by kernel_rfl))
  f320 := Tryz.func218.trans (congrArg some (by kernel_rfl))
  f337 := Tryz.func234.trans (congrArg some (by kernel_rfl))
  f338 := Tryz.func235.trans (congrArg some (by kernel_rfl))
  t0 := Tryz.underlying0
  a0 := Tryz.isAgg0
  z0 := Tryz.sizeOf0
  v0 := Tryz.zeroValue0
  t2 := Tryz.underlying2
  a2 := Tryz.isAgg2
  z2 := Tryz.sizeOf2
  v2 := Tryz.zeroValue2
  t3 := Tryz.underlying3
  a3 := Tryz.isAgg3
  z3 := Tryz.sizeOf3
  v3 := Tryz.zeroValue3
  t4 := Tryz.underlying4
  a4 := Tryz.isAgg4
  z4 := Tryz.sizeOf4
  v4 := Tryz.zeroValue4
  t5 := Tryz.underlying5
  a5 := Tryz.isAgg5
  z5 := Tryz.sizeOf5
  v5 := Tryz.zeroValue5
  t9 := Tryz.underlying9
  a9 := Tryz.isAgg9
  z9 := Tryz.sizeOf9
  v9 := Tryz.zeroValue9
  t20 := Tryz.underlying20
  a20 := Tryz.isAgg20
  z20 := Tryz.sizeOf20
  v20 := Tryz.zeroValue20
  t37 := Tryz.underlying116
  a37 := Tryz.isAgg116
  z37 := Tryz.sizeOf116
  v37 := Tryz.zeroValue116
  t46 := Tryz.underlying61
  a46 := Tryz.isAgg61
  z46 := Tryz.sizeOf61
  v46 := Tryz.zeroValue61
  t51 := Tryz.underlying203
  a51 := Tryz.isAgg203
  z51 := Tryz.sizeOf203
  v51 := Tryz.zeroValue203
  t53 := Tryz.underlying22
  a53 := Tryz.isAgg22
  z53 := Tryz.sizeOf22
  v53 := Tryz.zeroValue22
  t171 := Tryz.underlying199
  a171 := Tryz.isAgg199
  z171 := Tryz.sizeOf199
  v171 := Tryz.zeroValue199
  t173 := Tryz.underlying201
  a173 := Tryz.isAgg201
  z173 := Tryz.sizeOf201
  v173 := Tryz.zeroValue201
  t212 := Tryz.underlying217
  a212 := Tryz.isAgg217
  z212 := Tryz.sizeOf217
  v212 := Tryz.zeroValue217
  t213 := Tryz.underlying218
  a213 := Tryz.isAgg218
  z213 := Tryz.sizeOf218
  t232 := Tryz.underlying243
  a232 := Tryz.isAgg243
  z232 := Tryz.sizeOf243
  v232 := Tryz.zeroValue243
  t233 := Tryz.underlying244
  a233 := Tryz.isAgg244
  z233 := Tryz.sizeOf244
  v233 := Tryz.zeroValue244
  g17 := by kernel_rfl
  g18 := by kernel_rfl
  g19 := by kernel_rfl
  i0 := by kernel_rfl
  i2 := by kernel_rfl
  i3 := by kernel_rfl
  i4 := by kernel_rfl
  i5 := by kernel_rfl
  i9 := by kernel_rfl
  i20 := by kernel_rfl
  i37 := by kernel_rfl
  i46 := by kernel_rfl
  i51 := by kernel_rfl
  i53 := by kernel_rfl
  i171 := by kernel_rfl
  i173 := by kernel_rfl
  i212 := by kernel_rfl
  i232 := by kernel_rfl
  i233 := by kernel_rfl
  m17 := by kernel_rfl
  m18 := by kernel_rfl
  m19 := by kernel_rfl }
open Go.RowKit Go.Sort Go.Lib in
theorem Tryz.strconv_Itoa (n : Int) (h0 : -9223372036854775808 ≤ n) (h1 : n ≤ 9223372036854775807) (w : World) (htab : Lib.TabIs Tryz.prog w "internal/strconv.uint64pow10" .u64 Lib.pow10Tab) :
    Calls Tryz.prog 37 #[.int .i64 n] w fun e w' => e = .returned (.string ⟨(Lib.itoa n).toArray⟩) ∧ ∃ k os, w' = grow (w.drewN k) os := Any.strconv_Itoa Tryz.laysM171 n h0 h1 w htab
def Tryz.lays105_ren : Go.Shelf.Ren := ⟨fun | 105 => 111 | 212 => 162 | 99 => 163 | 165 => 164 | 166 => 165 | 170 => 166 | 169 => 167 | 263 => 197 | 264 => 84 | 206 => 198 | 240 => 199 | 241 => 200 | 276 => 219 | 277 => 220 | n => n, fun | 9 => 9 | 3 => 3 | 4 => 4 | 20 => 20 | 0 => 0 | 46 => 61 | 109 => 177 | 5 => 5 | 72 => 182 | 76 => 184 | 51 => 203 | 146 => 204 | 53 => 22 | 148 => 113 | 70 => 180 | 37 => 116 | 75 => 165 | 127 => 206 | 164 => 220 | 80 => 187 | n => n, fun | n => n⟩
theorem Tryz.lays105 : Go.Proofs.Lays.n105 Tryz.prog Tryz.lays105_ren := {
  mixed := by kernel_rfl
  f99 := Tryz.func163.trans (congrArg some (by kernel_rfl))
  f105 := Tryz.func111.trans (congrArg some (by kernel_rfl))
  f165 := Tryz.func164.trans (congrArg some (by kernel_rfl))
  f166 := Tryz.func165.trans (congrArg some (by kernel_rfl))
  f169 := Tryz.func167.trans (congrArg some (by kernel_rfl))
  f170 := Tryz.func166.trans (congrArg some (by kernel_rfl))
  f206 := Tryz.func198.trans (congrArg some (by kernel_rfl))
  f212 := Tryz.func162.trans (congrArg some (by kernel_rfl))
  f240 := Tryz.func199.trans (congrArg some (by kernel_rfl))
  f241 := Tryz.func200.trans (congrArg some (by kernel_rfl))
  f263 := Tryz.func197.trans (congrArg some (by kernel_rfl))
  f264 := Tryz.func84.trans (congrArg some (by kernel_rfl))
  f276 := Tryz.func219.trans (congrArg some (by kernel_rfl))
  f277 := Tryz.func220.trans (congrArg some (by kernel_rfl))
  t0 := Tryz.underlying0
  a0 := Tryz.isAgg0
  z0 := Tryz.sizeOf0
  v0 := Tryz.zeroValue0
  t3 := Tryz.underlying3
  a3 := Tryz.isAgg3
  z3 := Tryz.sizeOf3
  v3 := Tryz.zeroValue3
  t4 := Tryz.underlying4
  a4 := Tryz.isAgg4
  z4 := Tryz.sizeOf4
  v4 := Tryz.zeroValue4
  t5 := Tryz.underlying5
  a5 := Tryz.isAgg5
  z5 := Tryz.sizeOf5
  v5 := Tryz.zeroValue5
  t9 := Tryz.underlying9
  a9 := Tryz.isAgg9
  z9 := Tryz.sizeOf9
  v9 := Tryz.zeroValue9
  t20 := Tryz.underlying20
  a20 := Tryz.isAgg20
  z20 := Tryz.sizeOf20
  v20 := Tryz.zeroValue20
  t37 := Tryz.underlying116
  a37 := Tryz.isAgg116
  z37 := Tryz.sizeOf116
  v37 := Tryz.zeroValue116
  t46 := Tryz.underlying61
  a46 := Tryz.isAgg61
  z46 := Tryz.sizeOf61
  v46 := Tryz.zeroValue61
  t51 := Tryz.underlying203
  a51 := Tryz.isAgg203
  z51 := Tryz.sizeOf203
  v51 := Tryz.zeroValue203
  t53 := Tryz.underlying22
  a53 := Tryz.isAgg22
  z53 := Tryz.sizeOf22
  v53 := Tryz.zeroValue22
  t70 := Tryz.underlying180
  a70 := Tryz.isAgg180
  z70 := Tryz.sizeOf180
  v70 := Tryz.zeroValue180
  t72 := Tryz.underlying182
  a72 := Tryz.isAgg182
  z72 := Tryz.sizeOf182
  v72 := Tryz.zeroValue182
  t75 := Tryz.underlying165
  a75 := Tryz.isAgg165
  z75 := Tryz.sizeOf165
  v75 := Tryz.zeroValue165
  t76 := Tryz.underlying184
  a76 := Tryz.isAgg184
  z76 := Tryz.sizeOf184
  v76 := Tryz.zeroValue184
  t109 := Tryz.underlying177
  a109 := Tryz.isAgg177
  z109 := Tryz.sizeOf177
  v109 := Tryz.zeroValue177
  t127 := Tryz.underlying206
  a127 := Tryz.isAgg206
  z127 := Tryz.sizeOf206
  v127 := Tryz.zeroValue206
  t146 := Tryz.underlying204
  a146 := Tryz.isAgg204
  z146 := Tryz.sizeOf204
  v146 := Tryz.zeroValue204
  t148 := Tryz.underlying113
  a148 := Tryz.isAgg113
  z148 := Tryz.sizeOf113
  v148 := Tryz.zeroValue113
  t164 := Tryz.underlying220
  a164 := Tryz.isAgg220
  z164 := Tryz.sizeOf220
  v164 := Tryz.zeroValue220 }
theorem Tryz.Builder_Extra_105 : Builder.Extra Tryz.prog Tryz.lays105_ren := {
  sizeBuilder := by kernel_rfl
  liesBuilder := by kernel_rfl
  t5 := Tryz.underlying5
  a5 := Tryz.isAgg5
  z5 := Tryz.sizeOf5
  v5 := Tryz.zeroValue5
  infoByte := by kernel_rfl
  cellsByte := by kernel_rfl
  sizeByte := by kernel_rfl
  neB5 := by decide }
open Go.RowKit Go.Lib in
theorem Tryz.strings_Repeat (s : ByteArray) (c : Nat) (w : World) (hc : c ≤ 9223372036854775807) (hlen : s.size * c ≤ 140737488355328) :
    Calls Tryz.prog 111 #[.string s, .int .i64 c] w fun e w' => e = .returned (.string ⟨(Lib.repeatL s.data.toList c).toArray⟩) ∧ Below w.heap.size w w' := Any.strings_Repeat Tryz.lays105 Tryz.Builder_Extra_105 s c w hc hlen
def Tryz.laysNm217_ren : Go.Shelf.Ren := ⟨fun | 17 => 112 | n => n, fun | 24 => 135 | 9 => 9 | 3 => 3 | 4 => 4 | 0 => 0 | n => n, fun | n => n⟩
theorem Tryz.laysNm217 : Go.Proofs.Lays2.n17 Tryz.prog Tryz.laysNm217_ren := {
  mixed := by kernel_rfl
  f17 := Tryz.func112.trans (congrArg some (by kernel_rfl))
  t0 := Tryz.underlying0
  a0 := Tryz.isAgg0
  z0 := Tryz.sizeOf0
  v0 := Tryz.zeroValue0
  t3 := Tryz.underlying3
  a3 := Tryz.isAgg3
  z3 := Tryz.sizeOf3
  v3 := Tryz.zeroValue3
  t4 := Tryz.underlying4
  a4 := Tryz.isAgg4
  z4 := Tryz.sizeOf4
  v4 := Tryz.zeroValue4
  t9 := Tryz.underlying9
  a9 := Tryz.isAgg9
  z9 := Tryz.sizeOf9
  v9 := Tryz.zeroValue9
  t24 := Tryz.underlying135
  a24 := Tryz.isAgg135
  z24 := Tryz.sizeOf135
  v24 := Tryz.zeroValue135 }
open Go.RowKit Go.Lib Go.Sort in
theorem Tryz.slices_Reverse_string (blk off cap : Nat) (zs : List (List UInt8)) (w : World) (hH : Holds encStr w blk off zs.toArray) (hsz : zs.length ≤ 9223372036854775807) :
    Calls Tryz.prog 112 #[.slice (some ⟨blk, off, none⟩) zs.length cap] w fun e w' => e = .returned (.tuple #[]) ∧ ∃ n, w' = putRow encStr (Sort.ahead w n) blk off zs.reverse.toArray := Any.slices_Reverse_string Tryz.laysNm217 blk off cap zs w hH hsz
open Go.RowKit Go.Lib Go.Sort in
theorem Tryz.slices_Reverse_string_empty (a : Option Addr) (cap : Nat) (w : World) :
    Calls Tryz.prog 112 #[.slice a 0 cap] w fun e w' => e = .returned (.tuple #[]) ∧ w' = w := Any.slices_Reverse_string_empty Tryz.laysNm217 a cap w
end Go.Proofs

/- Plain facts on natural numbers written as lists of 64-bit words, the lowest word first. No program and no memory in it. -/
namespace Go.Proofs.YtaepgdkpaffaaaaGreatDoor
namespace Cal

/-- 2^64. -/
def B : Nat := 18446744073709551616
theorem B_eq : B = 18446744073709551616 := rfl
theorem B_pos : 0 < B := by decide
theorem B_pow : B = 2 ^ 64 := by decide

def val : List Int → Nat
  | [] => 0
  | x :: xs => x.toNat + B * val xs
def Wf (xs : List Int) : Prop := ∀ x ∈ xs, 0 ≤ x ∧ x < 18446744073709551616
theorem Wf.nil : Wf [] := fun _ h => by cases h
theorem Wf.cons {x : Int} {xs : List Int} (h : Wf (x :: xs)) : (0 ≤ x ∧ x < 18446744073709551616) ∧ Wf xs :=
  ⟨h x (by simp), fun y hy => h y (by simp [hy])⟩
theorem Wf.mk {x : Int} {xs : List Int} (h : 0 ≤ x ∧ x < 18446744073709551616) (hx : Wf xs) : Wf (x :: xs) := by
  intro y hy
  rcases List.mem_cons.1 hy with rfl | hy
  · exact h
  · exact hx y hy
theorem Wf.append {xs ys : List Int} (h : Wf xs) (k : Wf ys) : Wf (xs ++ ys) := by
  intro y hy
  rcases List.mem_append.1 hy with hy | hy
  · exact h y hy
  · exact k y hy
theorem Wf.left {xs ys : List Int} (h : Wf (xs ++ ys)) : Wf xs := fun y hy => h y (by simp [hy])
theorem Wf.right {xs ys : List Int} (h : Wf (xs ++ ys)) : Wf ys := fun y hy => h y (by simp [hy])
theorem Wf.take {xs : List Int} (h : Wf xs) (k : Nat) : Wf (xs.take k) := fun y hy => h y (List.mem_of_mem_take hy)
theorem Wf.drop {xs : List Int} (h : Wf xs) (k : Nat) : Wf (xs.drop k) := fun y hy => h y (List.mem_of_mem_drop hy)
theorem Wf.getD {xs : List Int} (h : Wf xs) (k : Nat) : 0 ≤ xs.getD k 0 ∧ xs.getD k 0 < 18446744073709551616 := by
  rcases Nat.lt_or_ge k xs.length with hk | hk
  · rw [List.getD_eq_getElem?_getD, List.getElem?_eq_getElem hk]
    exact h _ (List.getElem_mem hk)
  · rw [List.getD_eq_getElem?_getD, List.getElem?_eq_none hk]
    simp
theorem Wf.set {xs : List Int} (h : Wf xs) (k : Nat) {x : Int} (hx : 0 ≤ x ∧ x < 18446744073709551616) : Wf (xs.set k x) := by
  intro y hy
  rcases List.mem_or_eq_of_mem_set hy with hy | rfl
  · exact h y hy
  · exact hx
theorem Wf.replicate (n : Nat) : Wf (List.replicate n 0) := by
  intro y hy
  have := (List.mem_replicate.1 hy).2
  subst this
  exact ⟨by omega, by omega⟩

@[simp] theorem val_nil : val [] = 0 := rfl
@[simp] theorem val_cons (x : Int) (xs : List Int) : val (x :: xs) = x.toNat + B * val xs := rfl
theorem val_append (xs ys : List Int) : val (xs ++ ys) = val xs + B ^ xs.length * val ys := by
  induction xs with
  | nil => simp
  | cons x xs ih =>
    simp only [List.cons_append, val_cons, List.length_cons, ih, Nat.pow_succ]
    rw [Nat.mul_add, Nat.add_assoc, Nat.mul_comm (B ^ xs.length) B, Nat.mul_assoc]
theorem val_snoc (xs : List Int) (x : Int) : val (xs ++ [x]) = val xs + B ^ xs.length * x.toNat := by
  rw [val_append]; simp
theorem val_lt {xs : List Int} (h : Wf xs) : val xs < B ^ xs.length := by
  induction xs with
  | nil => simp
  | cons x xs ih =>
    have h1 := ih h.cons.2
    have h2 := h.cons.1
    have hB : B = 18446744073709551616 := rfl
    simp only [val_cons, List.length_cons, Nat.pow_succ]
    have h3 : x.toNat < B := by omega
    have : B * val xs + B ≤ B * B ^ xs.length := by
      rw [← Nat.mul_succ]
      exact Nat.mul_le_mul_left _ h1
    rw [Nat.mul_comm (B ^ xs.length) B]
    omega
theorem val_replicate (n : Nat) : val (List.replicate n 0) = 0 := by
  induction n with
  | zero => rfl
  | succ n ih => rw [List.replicate_succ, val_cons, ih]; simp
theorem val_take_add (xs : List Int) (k : Nat) : val (xs.take k) + B ^ k * val (xs.drop k) = val xs := by
  rcases Nat.lt_or_ge xs.length k with h | h
  · rw [List.take_of_length_le (by omega), List.drop_eq_nil_of_le (by omega)]; simp
  · have := val_append (xs.take k) (xs.drop k)
    rw [List.take_append_drop, List.length_take, Nat.min_eq_left h] at this
    exact this.symm
theorem val_div (xs : List Int) (h : Wf xs) (k : Nat) : val xs / B ^ k = val (xs.drop k) := by
  have h1 := val_take_add xs k
  have h2 := val_lt (h.take k)
  have h3 : B ^ (xs.take k).length ≤ B ^ k := Nat.pow_le_pow_right B_pos (by rw [List.length_take]; omega)
  rw [← h1, Nat.add_mul_div_left _ _ (Nat.pow_pos B_pos), Nat.div_eq_of_lt (by omega)]
  omega
theorem val_mod (xs : List Int) (h : Wf xs) (k : Nat) : val xs % B ^ k = val (xs.take k) := by
  have h1 := val_take_add xs k
  have h2 := val_lt (h.take k)
  have h3 : B ^ (xs.take k).length ≤ B ^ k := Nat.pow_le_pow_right B_pos (by rw [List.length_take]; omega)
  rw [← h1, Nat.add_mul_mod_self_left, Nat.mod_eq_of_lt (by omega)]
theorem take_succ_getD (xs : List Int) (k : Nat) (h : k < xs.length) : xs.take (k + 1) = xs.take k ++ [xs.getD k 0] := by
  rw [List.take_succ_eq_append_getElem h, List.getD_eq_getElem?_getD, List.getElem?_eq_getElem h]; rfl
theorem drop_getD (xs : List Int) (k : Nat) (h : k < xs.length) : xs.drop k = xs.getD k 0 :: xs.drop (k + 1) := by
  rw [List.drop_eq_getElem_cons h, List.getD_eq_getElem?_getD, List.getElem?_eq_getElem h]; rfl
theorem val_take_succ (xs : List Int) (k : Nat) (h : k < xs.length) : val (xs.take (k + 1)) = val (xs.take k) + B ^ k * (xs.getD k 0).toNat := by
  rw [take_succ_getD xs k h, val_snoc, List.length_take, Nat.min_eq_left (by omega)]
theorem val_drop_getD (xs : List Int) (k : Nat) (h : k < xs.length) : val (xs.drop k) = (xs.getD k 0).toNat + B * val (xs.drop (k + 1)) := by
  rw [drop_getD xs k h, val_cons]
theorem word_eq (xs : List Int) (h : Wf xs) (k : Nat) : val xs / B ^ k % B = (xs.getD k 0).toNat := by
  rw [val_div xs h k]
  have hB : B = 18446744073709551616 := rfl
  rcases Nat.lt_or_ge k xs.length with hk | hk
  · rw [val_drop_getD xs k hk, Nat.add_mul_mod_self_left]
    have := h.getD k
    exact Nat.mod_eq_of_lt (by omega)
  · rw [List.drop_eq_nil_of_le hk, List.getD_eq_getElem?_getD, List.getElem?_eq_none hk]; simp

/-- Without noughts at the end: how many words. -/
def szTo (xs : List Int) : Nat → Nat
  | 0 => 0
  | k + 1 => if xs.getD k 0 = 0 then szTo xs k else k + 1
theorem szTo_le (xs : List Int) (k : Nat) : szTo xs k ≤ k := by
  induction k with
  | zero => simp [szTo]
  | succ k ih => simp only [szTo]; split <;> omega
theorem szTo_val (xs : List Int) (k : Nat) (hk : k ≤ xs.length) : val (xs.take (szTo xs k)) = val (xs.take k) := by
  induction k with
  | zero => simp [szTo]
  | succ k ih =>
    simp only [szTo]
    split
    · rename_i h
      rw [ih (by omega), val_take_succ xs k (by omega), h]; simp
    · rfl
theorem szTo_top (xs : List Int) (k : Nat) (h : 0 < szTo xs k) : xs.getD (szTo xs k - 1) 0 ≠ 0 := by
  induction k with
  | zero => simp [szTo] at h
  | succ k ih =>
    simp only [szTo] at h ⊢
    split
    · rename_i h1
      rw [if_pos h1] at h
      exact ih h
    · rename_i h1
      simpa using h1

/-- The words of a number: none of the highest is 0. -/
def limbs (x : Nat) : List Int := if h : x = 0 then [] else ((x % B : Nat) : Int) :: limbs (x / B)
termination_by x
decreasing_by exact Nat.div_lt_self (Nat.pos_of_ne_zero h) (by decide)
theorem limbs_zero : limbs 0 = [] := by rw [limbs]; simp
theorem limbs_pos {x : Nat} (h : x ≠ 0) : limbs x = ((x % B : Nat) : Int) :: limbs (x / B) := by rw [limbs, dif_neg h]
theorem limbs_wf (x : Nat) : Wf (limbs x) := by
  induction x using Nat.strongRecOn with
  | ind x ih =>
    by_cases h : x = 0
    · subst h; rw [limbs_zero]; exact Wf.nil
    · rw [limbs_pos h]
      have := Nat.mod_lt x B_pos
      have hB : B = 18446744073709551616 := rfl
      exact Wf.mk ⟨by omega, by omega⟩ (ih _ (Nat.div_lt_self (Nat.pos_of_ne_zero h) (by decide)))
theorem val_limbs (x : Nat) : val (limbs x) = x := by
  induction x using Nat.strongRecOn with
  | ind x ih =>
    by_cases h : x = 0
    · subst h; rw [limbs_zero]; rfl
    · rw [limbs_pos h, val_cons, ih _ (Nat.div_lt_self (Nat.pos_of_ne_zero h) (by decide))]
      rw [Int.toNat_natCast, Nat.mod_add_div]
def wl (x : Nat) : Nat := (limbs x).length
theorem wl_zero : wl 0 = 0 := by simp [wl, limbs_zero]
theorem wl_pos {x : Nat} (h : x ≠ 0) : wl x = wl (x / B) + 1 := by simp [wl, limbs_pos h]
theorem lt_wl (x : Nat) : x < B ^ wl x := by
  have := val_lt (limbs_wf x)
  rwa [val_limbs] at this
theorem wl_le {x m : Nat} (h : x < B ^ m) : wl x ≤ m := by
  induction m generalizing x with
  | zero =>
    have : x = 0 := by simpa using h
    subst this; simp [wl_zero]
  | succ m ih =>
    by_cases h0 : x = 0
    · subst h0; simp [wl_zero]
    · rw [wl_pos h0]
      have : x / B < B ^ m := by
        rw [Nat.div_lt_iff_lt_mul B_pos, ← Nat.pow_succ]; exact h
      have := ih this
      omega
theorem le_of_wl {x : Nat} (h : x ≠ 0) : B ^ (wl x - 1) ≤ x := by
  rcases Nat.lt_or_ge x (B ^ (wl x - 1)) with h1 | h1
  · have := wl_le h1
    have : 0 < wl x := by rw [wl_pos h]; omega
    omega
  · exact h1
theorem lt_of_wl {x m : Nat} (h : wl x ≤ m) : x < B ^ m := Nat.lt_of_lt_of_le (lt_wl x) (Nat.pow_le_pow_right B_pos h)
theorem wl_mono {x y : Nat} (h : x ≤ y) : wl x ≤ wl y := wl_le (Nat.lt_of_le_of_lt h (lt_wl y))
theorem wl_eq_zero {x : Nat} : wl x = 0 ↔ x = 0 := by
  constructor
  · intro h
    have := lt_wl x
    rw [h] at this
    simpa using this
  · rintro rfl; exact wl_zero
theorem limbs_eq {xs : List Int} (h : Wf xs) (ht : xs ≠ [] → xs.getD (xs.length - 1) 0 ≠ 0) : limbs (val xs) = xs := by
  induction xs with
  | nil => exact limbs_zero
  | cons x xs ih =>
    have hw := h.cons
    have hB : B = 18446744073709551616 := rfl
    have h0 : val (x :: xs) ≠ 0 := by
      intro h0
      simp only [val_cons] at h0
      have hx : x = 0 := by omega
      have hv : val xs = 0 := by
        have : B * val xs = 0 := by omega
        rcases Nat.mul_eq_zero.1 this with h | h
        · exact absurd h (by decide)
        · exact h
      rcases xs with _ | ⟨y, ys⟩
      · have := ht (by simp)
        simp at this
        exact this hx
      · have := ih hw.2 (fun _ => by
          have := ht (by simp)
          simpa using this)
        rw [hv, limbs_zero] at this
        cases this
    rw [limbs_pos h0, val_cons, Nat.add_mul_mod_self_left, Nat.mod_eq_of_lt (by omega), Nat.add_mul_div_left _ _ B_pos, Nat.div_eq_of_lt (by omega), Nat.zero_add]
    rw [ih hw.2 (fun hne => by
      have := ht (by simp)
      rcases xs with _ | ⟨y, ys⟩
      · exact absurd rfl hne
      · simpa using this)]
    congr 1
    omega
theorem limbs_take {xs : List Int} (h : Wf xs) : xs.take (szTo xs xs.length) = limbs (val xs) := by
  have hl := szTo_le xs xs.length
  have h1 := szTo_val xs xs.length (Nat.le_refl _)
  rw [List.take_length] at h1
  rw [← h1]
  refine (limbs_eq (h.take _) (fun hne => ?_)).symm
  have hp : 0 < szTo xs xs.length := by
    rcases Nat.eq_zero_or_pos (szTo xs xs.length) with h0 | h0
    · rw [h0] at hne; simp at hne
    · exact h0
  have h2 := szTo_top xs xs.length hp
  rw [List.length_take, Nat.min_eq_left hl]
  rw [List.getD_eq_getElem?_getD, List.getElem?_take, if_pos (by omega), ← List.getD_eq_getElem?_getD]
  exact h2
theorem szTo_wl {xs : List Int} (h : Wf xs) : szTo xs xs.length = wl (val xs) := by
  have := congrArg List.length (limbs_take h)
  rw [List.length_take, Nat.min_eq_left (szTo_le _ _)] at this
  exact this
theorem limbs_inj {x y : Nat} (h : limbs x = limbs y) : x = y := by rw [← val_limbs x, h, val_limbs]
theorem limbs_getD (x k : Nat) : ((limbs x).getD k 0).toNat = x / B ^ k % B := by
  have := word_eq (limbs x) (limbs_wf x) k
  rw [val_limbs] at this
  exact this.symm
theorem limbs_getD' (x k : Nat) : (limbs x).getD k 0 = ((x / B ^ k % B : Nat) : Int) := by
  have h1 := limbs_getD x k
  have h2 := (limbs_wf x).getD k
  omega
theorem wl_val_le {xs : List Int} (h : Wf xs) : wl (val xs) ≤ xs.length := by rw [← szTo_wl h]; exact szTo_le _ _
theorem limbs_top {x : Nat} (h : x ≠ 0) : (limbs x).getD (wl x - 1) 0 ≠ 0 := by
  have h1 := limbs_getD x (wl x - 1)
  have h2 := le_of_wl h
  have h3 := lt_wl x
  have hp : 0 < wl x := by rw [wl_pos h]; omega
  intro h0
  rw [h0] at h1
  have h4 : x / B ^ (wl x - 1) < B := by
    rw [Nat.div_lt_iff_lt_mul (Nat.pow_pos B_pos), Nat.mul_comm, ← Nat.pow_succ]
    rwa [show (wl x - 1).succ = wl x by omega]
  rw [Nat.mod_eq_of_lt h4] at h1
  have h5 : 0 < x / B ^ (wl x - 1) := Nat.div_pos h2 (Nat.pow_pos B_pos)
  simp at h1
  omega
end Cal
end Go.Proofs.YtaepgdkpaffaaaaGreatDoor

/- The words of the walks: a slice of 64-bit words that reads as a number, and the two calls that the model runs itself (Add64, Sub64). -/
namespace Go.Proofs.YtaepgdkpaffaaaaGreatDoor
open Go.RowKit Go.Proofs.YtaepgdkpaffaaaaGreatDoorW.PrintWords Cal

theorem info22 : (Tryz.prog.info? 22).map (fun i => (i.zero, i.size, i.bytes)) = some (some (.int .u64 0), 1, 8) := by kernel_rfl
theorem ret_int {k : IntKind} {a b : Int} (h : a = b) : Ending.returned (.int k a) = .returned (.int k b) := by rw [h]
theorem bcell {W w1 : World} (hb : Below W.heap.size W w1) : (∀ b o, b < W.heap.size → w1.cell? ⟨b, o, none⟩ = W.cell? ⟨b, o, none⟩) ∧ (∀ b o, b < W.heap.size → w1.frozen? ⟨b, o, none⟩ = W.frozen? ⟨b, o, none⟩) :=
  ⟨fun b o h => hb.cell (p := ⟨b, o, none⟩) h, fun b o h => hb.frozen (p := ⟨b, o, none⟩) h⟩
theorem btrans {w w1 w2 : World} (h : Below w.heap.size w w1) (k : Below w1.heap.size w1 w2) : Below w.heap.size w w2 := h.trans (k.mono h.size)

/-- A row of words of the call's own. -/
structure Own (w : World) (base : Nat) (v : Value) (xs : List Int) : Prop where
  row : w.ownsRow base 22 1 v xs.length (nums .u64 xs)
  wf : Wf xs
/-- A slice of words that reads as a number. -/
structure NS (w : World) (v : Value) (x : Nat) : Prop where
  out : ∃ A n c xs, v = .slice A n c ∧ n ≤ c ∧ n ≤ 1000000 ∧ ReadsInt w .u64 A n xs ∧ Wf xs ∧ val xs = x
/-- The same without noughts at its end. -/
structure NT (w : World) (v : Value) (x : Nat) : Prop where
  out : ∃ A c, v = .slice A (wl x) c ∧ wl x ≤ c ∧ wl x ≤ 1000000 ∧ ReadsInt w .u64 A (wl x) (limbs x)
theorem NT.ns {w : World} {v : Value} {x : Nat} (h : NT w v x) : NS w v x := by
  obtain ⟨A, c, rfl, h1, h2, h3⟩ := h.out
  exact ⟨⟨A, wl x, c, limbs x, rfl, h1, h2, h3, limbs_wf x, val_limbs x⟩⟩
theorem NS.ext {w w1 : World} {v : Value} {x : Nat} (h : NS w v x) (hb : Below w.heap.size w w1) : NS w1 v x := by
  obtain ⟨A, n, c, xs, rfl, h1, h2, h3, h4, h5⟩ := h.out
  exact ⟨⟨A, n, c, xs, rfl, h1, h2, h3.below hb, h4, h5⟩⟩
theorem NT.ext {w w1 : World} {v : Value} {x : Nat} (h : NT w v x) (hb : Below w.heap.size w w1) : NT w1 v x := by
  obtain ⟨A, c, rfl, h1, h2, h3⟩ := h.out
  exact ⟨⟨A, c, rfl, h1, h2, h3.below hb⟩⟩
theorem NT.nil (w : World) : NT w (.slice none 0 0) 0 := ⟨⟨none, 0, by rw [wl_zero], by rw [wl_zero]; omega, by rw [wl_zero]; omega, by rw [wl_zero, limbs_zero]; exact ⟨rfl, by omega, fun h => absurd h (by omega)⟩⟩⟩
theorem Own.ext {w w1 : World} {base : Nat} {v : Value} {xs : List Int} (h : Own w base v xs) (hb : Below w.heap.size w w1) : Own w1 base v xs := ⟨pw_own_below h.row hb, h.wf⟩
theorem Own.low {w : World} {base base' : Nat} {v : Value} {xs : List Int} (h : Own w base v xs) (hb : base' ≤ base) : Own w base' v xs := ⟨own_weaken h.row hb, h.wf⟩
/-- An owned row's first words: the walk's own spelling of 'out[:k]'. -/
theorem Own.cut {w : World} {base : Nat} {v : Value} {xs : List Int} (h : Own w base v xs) (hn : xs.length ≤ 1000000) :
    ∃ A c, v = .slice A xs.length c ∧ xs.length ≤ c ∧ (ReadsInt w .u64 A xs.length xs) ∧ NT w (.slice A (wl (val xs)) c) (val xs) := by
  have hl : xs.length ≤ xs.length := Nat.le_refl _
  obtain ⟨A, c, rfl, hr⟩ := own_reads h.row
  have hc : xs.length ≤ c := by
    rcases h.row.2 with ⟨he, h0⟩ | ⟨g, cap, cur, he, _, _, h1, _⟩
    · omega
    · injection he with _ _ h3
      omega
  refine ⟨A, c, rfl, hc, hr, ⟨⟨A, c, rfl, ?_, ?_, ?_⟩⟩⟩
  · have := wl_val_le h.wf; omega
  · have := wl_val_le h.wf; omega
  · have e := limbs_take h.wf
    rw [szTo_wl h.wf] at e
    rw [← e]
    exact hr.take_ _ (wl_val_le h.wf)
theorem Own.nt {w : World} {base : Nat} {v : Value} {x : Nat} (h : Own w base v (limbs x)) (hn : wl x ≤ 1000000) : NT w v x := by
  obtain ⟨A, c, hv, _, _, ht⟩ := h.cut hn
  rw [val_limbs] at ht
  subst hv
  exact ht

/-! ### Add64, Sub64 -/
def sumLo (x y c : Int) : Int := (x + y + c) % 18446744073709551616
def sumHi (x y c : Int) : Int := (x + y + c) / 18446744073709551616
def difLo (x y c : Int) : Int := (x - y - c) % 18446744073709551616
def difHi (x y c : Int) : Int := if x < y + c then 1 else 0
theorem add64 (x y c : Int) (hx : 0 ≤ x) (hy : 0 ≤ y) (hc0 : 0 ≤ c) (hc : c ≤ 1) (w : World) : (callFunc 85 #[.int .u64 x, .int .u64 y, .int .u64 c]).run Tryz.prog w =
    .ok (.value (.tuple #[.int .u64 (sumLo x y c), .int .u64 (sumHi x y c)])) w := by
  obtain ⟨x, rfl⟩ := Int.eq_ofNat_of_zero_le hx
  obtain ⟨y, rfl⟩ := Int.eq_ofNat_of_zero_le hy
  obtain ⟨c, rfl⟩ := Int.eq_ofNat_of_zero_le hc0
  rw [run_callFunc_extern Tryz.func85 (by kernel_rfl) (by kernel_rfl) (by kernel_rfl) (e := add64Entry) (by kernel_rfl), run_add64 x y c (by omega) (by omega) (by omega) (by omega)]
  simp only [Result.andThen, sumLo, sumHi]
def sub64E : Array Value → Sem Value := fun args => do
  let (x, y, b) ← Extern.MathBitsCarry.three "Sub64" args
  pure (Extern.MathBitsCarry.pair ((x + Extern.MathBitsCarry.m64 - y - b) % Extern.MathBitsCarry.m64) (if x < y + b then 1 else 0))
theorem sub64 (x y c : Int) (hx : 0 ≤ x) (hy : 0 ≤ y) (hy' : y < 18446744073709551616) (hc0 : 0 ≤ c) (hc : c ≤ 1) (w : World) : (callFunc 120 #[.int .u64 x, .int .u64 y, .int .u64 c]).run Tryz.prog w =
    .ok (.value (.tuple #[.int .u64 (difLo x y c), .int .u64 (difHi x y c)])) w := by
  obtain ⟨x, rfl⟩ := Int.eq_ofNat_of_zero_le hx
  obtain ⟨y, rfl⟩ := Int.eq_ofNat_of_zero_le hy
  obtain ⟨c, rfl⟩ := Int.eq_ofNat_of_zero_le hc0
  have hrun : (sub64E #[.int .u64 x, .int .u64 y, .int .u64 c]).run Tryz.prog w =
      .ok (.tuple #[.int .u64 (((x + 18446744073709551616 - y - c) % 18446744073709551616 : Nat) : Int), .int .u64 ((if x < y + c then 1 else 0 : Nat) : Int)]) w := by
    have : c = 0 ∨ c = 1 := by omega
    rcases this with rfl | rfl <;> rfl
  rw [run_callFunc_extern Tryz.func120 (by kernel_rfl) (by kernel_rfl) (by kernel_rfl) (e := sub64E) (by kernel_rfl), hrun]
  have e1 : (((x + 18446744073709551616 - y - c) % 18446744073709551616 : Nat) : Int) = ((x : Int) - y - c) % 18446744073709551616 := by omega
  have e2 : ((if x < y + c then 1 else 0 : Nat) : Int) = if (x : Int) < y + c then 1 else 0 := by split <;> split <;> omega
  simp only [Result.andThen, difLo, difHi, e1, e2]
theorem sumLo_wf (x y c : Int) : 0 ≤ sumLo x y c ∧ sumLo x y c < 18446744073709551616 := by unfold sumLo; omega
theorem sumHi_01 {x y c : Int} (hx : 0 ≤ x ∧ x < 18446744073709551616) (hy : 0 ≤ y ∧ y < 18446744073709551616) (hc : 0 ≤ c ∧ c ≤ 1) : 0 ≤ sumHi x y c ∧ sumHi x y c ≤ 1 := by unfold sumHi; omega
theorem sum_eq (x y c : Int) : sumLo x y c + 18446744073709551616 * sumHi x y c = x + y + c := by unfold sumLo sumHi; omega
theorem difLo_wf (x y c : Int) : 0 ≤ difLo x y c ∧ difLo x y c < 18446744073709551616 := by unfold difLo; omega
theorem difHi_01 (x y c : Int) : 0 ≤ difHi x y c ∧ difHi x y c ≤ 1 := by unfold difHi; split <;> omega
theorem dif_eq {x y c : Int} (hx : 0 ≤ x ∧ x < 18446744073709551616) (hy : 0 ≤ y ∧ y < 18446744073709551616) (hc : 0 ≤ c ∧ c ≤ 1) : difLo x y c + y + c = x + 18446744073709551616 * difHi x y c := by unfold difLo difHi; split <;> omega
#print axioms sub64
end Go.Proofs.YtaepgdkpaffaaaaGreatDoor
