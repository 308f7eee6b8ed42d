/-
  Library contracts, laid at this program (by the kit's own tool).
-/
import Derived.Ground.GgzProg
import Derived.Shelf.SlLaysZI
import Derived.Shelf.Strings.Builder1
import Derived.Shelf.Strings.Builder2
import Derived.Shelf.Strings.OnBuilder
import Derived.Shelf.Strings.Trim
import Derived.Shelf.Small.Utf8
import Derived.Shelf.Small.Strs
import Derived.Shelf.Small.Wraps
import Derived.Shelf.Utf8.RuneCount
import Derived.Shelf.Strings.Builder2Cap
import Derived.Shelf.Strings.Search1
import Derived.Shelf.Strings.Search2
import Derived.Shelf.Strings.Search3
import Derived.Shelf.Strings.Count
import Derived.Shelf.LaysM
import Derived.Shelf.Strings.Shaped
import Derived.Shelf.Strings.Prefix
import Derived.Shelf.Strings.Split
import Derived.Shelf.Strings.Fields
import Derived.Shelf.Strings.SplitShaped
import Derived.Shelf.Unicode.Latin
import Derived.Shelf.Unicode.Decode
import Derived.Shelf.Strings.Runes
import Derived.Shelf.Strings.RuneCount
import Derived.Shelf.Strings.AsciiSet
import Derived.Shelf.Strings.Explode
import Derived.Shelf.Bits.Mul64
import Derived.Shelf.Unicode.DecodeSlow
import Derived.Shelf.Unicode.DecodeAny
import Derived.Shelf.Unicode.Is16White
import Derived.Shelf.Unicode.IsSpaceAny
import Derived.Shelf.Unicode.DecodeLast
import Derived.Shelf.Unicode.Is16WhiteD
import Derived.Shelf.Unicode.Is16Any
import Derived.Shelf.Unicode.Is32Any
import Derived.Shelf.Unicode.ExclAny
import Derived.Shelf.Strings.BuilderCap
import Derived.Shelf.Slices.Turned
import Derived.Ground.Names2Prog
import Derived.Shelf.Slices.ReverseS
import Derived.Shelf.Slices.Cells
import Derived.Shelf.Bytes.SlSearch0
import Derived.Ground.SlgnProg
import Derived.Shelf.SlicesE.Reverse
import Derived.Shelf.Bytes.SlSmallAll
import Derived.Shelf.Bytes.SlEqualAll
import Derived.Shelf.Bytes.Small
import Derived.Test.YtliealcdiogilaaDoorProg
import Derived.Test.YtliealcdiogilaaDoorRows
namespace Go.Proofs.YtliealcdiogilaaDoor
open Go.Shelf

def lays156_ren : Go.Shelf.Ren := ⟨fun | 156 => 39 | 165 => 61 | 166 => 62 | 169 => 63 | 240 => 76 | 241 => 77 | 276 => 86 | 277 => 87 | n => n, fun | 31 => 35 | 9 => 9 | 3 => 3 | 4 => 4 | 0 => 0 | 20 => 20 | 72 => 112 | 76 => 116 | 70 => 110 | 37 => 47 | 75 => 115 | 127 => 135 | 164 => 154 | 5 => 5 | 80 => 118 | n => n, fun | n => n⟩
theorem lays156 : Go.Proofs.Lays.n156 Tryd.prog lays156_ren := {
  mixed := by kernel_rfl
  f156 := Tryd.func39.trans (congrArg some (by kernel_rfl))
  f165 := Tryd.func61.trans (congrArg some (by kernel_rfl))
  f166 := Tryd.func62.trans (congrArg some (by kernel_rfl))
  f169 := Tryd.func63.trans (congrArg some (by kernel_rfl))
  f240 := Tryd.func76.trans (congrArg some (by kernel_rfl))
  f241 := Tryd.func77.trans (congrArg some (by kernel_rfl))
  f276 := Tryd.func86.trans (congrArg some (by kernel_rfl))
  f277 := Tryd.func87.trans (congrArg some (by kernel_rfl))
  t0 := Tryd.underlying0
  a0 := Tryd.isAgg0
  z0 := Tryd.sizeOf0
  v0 := Tryd.zeroValue0
  t3 := Tryd.underlying3
  a3 := Tryd.isAgg3
  z3 := Tryd.sizeOf3
  v3 := Tryd.zeroValue3
  t4 := Tryd.underlying4
  a4 := Tryd.isAgg4
  z4 := Tryd.sizeOf4
  v4 := Tryd.zeroValue4
  t9 := Tryd.underlying9
  a9 := Tryd.isAgg9
  z9 := Tryd.sizeOf9
  v9 := Tryd.zeroValue9
  t20 := Tryd.underlying20
  a20 := Tryd.isAgg20
  z20 := Tryd.sizeOf20
  v20 := Tryd.zeroValue20
  t31 := Tryd.underlying35
  a31 := Tryd.isAgg35
  z31 := Tryd.sizeOf35
  v31 := Tryd.zeroValue35
  t37 := Tryd.underlying47
  a37 := Tryd.isAgg47
  z37 := Tryd.sizeOf47
  v37 := Tryd.zeroValue47
  t70 := Tryd.underlying110
  a70 := Tryd.isAgg110
  z70 := Tryd.sizeOf110
  v70 := Tryd.zeroValue110
  t72 := Tryd.underlying112
  a72 := Tryd.isAgg112
  z72 := Tryd.sizeOf112
  v72 := Tryd.zeroValue112
  t75 := Tryd.underlying115
  a75 := Tryd.isAgg115
  z75 := Tryd.sizeOf115
  v75 := Tryd.zeroValue115
  t76 := Tryd.underlying116
  a76 := Tryd.isAgg116
  z76 := Tryd.sizeOf116
  v76 := Tryd.zeroValue116
  t127 := Tryd.underlying135
  a127 := Tryd.isAgg135
  z127 := Tryd.sizeOf135
  v127 := Tryd.zeroValue135
  t164 := Tryd.underlying154
  a164 := Tryd.isAgg154
  z164 := Tryd.sizeOf154
  v164 := Tryd.zeroValue154 }
theorem Builder_Extra_156 : Builder.Extra Tryd.prog lays156_ren := {
  sizeBuilder := by kernel_rfl
  liesBuilder := by kernel_rfl
  t5 := Tryd.underlying5
  a5 := Tryd.isAgg5
  z5 := Tryd.sizeOf5
  v5 := Tryd.zeroValue5
  infoByte := by kernel_rfl
  cellsByte := by kernel_rfl
  sizeByte := by kernel_rfl
  neB5 := by decide }
open Go.RowKit in
theorem strings_Join_none (a : Option Addr) (c : Nat) (sep : ByteArray) (w : World) :
    Calls Tryd.prog 39 #[.slice a 0 c, .string sep] w fun e w' => e = .returned (.string ⟨#[]⟩) ∧ w' = w := Any.strings_Join_none lays156 Builder_Extra_156 a c sep w
open Go.RowKit in
theorem strings_Join (bk o c : Nat) (xs : List ByteArray) (sep : ByteArray) (w : World) (hcells : ∀ (j : Nat) x, xs[j]? = some x → w.cell? ⟨bk, o + j, none⟩ = some (.string x)) (hbk : bk < w.heap.size) (hN : xs.length ≤ 140737488355328) (hcap : xs.length ≤ c) (hlen : (Lib.join (xs.map (·.data.toList)) sep.data.toList).length ≤ 140737488355328) :
    Calls Tryd.prog 39 #[.slice (some ⟨bk, o, none⟩) xs.length c, .string sep] w fun e w' => e = .returned (.string ⟨(Lib.join (xs.map (·.data.toList)) sep.data.toList).toArray⟩) ∧ Below w.heap.size w w' := Any.strings_Join lays156 Builder_Extra_156 bk o c xs sep w hcells hbk hN hcap hlen
def lays160_ren : Go.Shelf.Ren := ⟨fun | 160 => 36 | 232 => 53 | 231 => 52 | 227 => 54 | 234 => 56 | 233 => 55 | 236 => 58 | 235 => 57 | 228 => 71 | 271 => 74 | 151 => 73 | 197 => 72 | 120 => 83 | 152 => 82 | 260 => 81 | 137 => 91 | 119 => 92 | 224 => 93 | 225 => 94 | 217 => 98 | 266 => 100 | n => n, fun | 9 => 9 | 4 => 4 | 3 => 3 | 5 => 5 | 117 => 103 | 116 => 102 | 0 => 0 | 124 => 106 | 21 => 21 | 105 => 126 | 46 => 75 | 119 => 107 | 139 => 160 | 138 => 159 | n => n, fun | 3 => 2 | 4 => 3 | n => n⟩
theorem lays160 : Go.Proofs.Lays.n160 Tryd.prog lays160_ren := {
  mixed := by kernel_rfl
  f119 := Tryd.func92.trans (congrArg some (by kernel_rfl))
  f120 := Tryd.func83.trans (congrArg some (by kernel_rfl))
  f137 := Tryd.func91.trans (congrArg some (by kernel_rfl))
  f151 := Tryd.func73.trans (congrArg some (by kernel_rfl))
  f152 := Tryd.func82.trans (congrArg some (by kernel_rfl))
  f160 := Tryd.func36.trans (congrArg some (by kernel_rfl))
  f197 := Tryd.func72.trans (congrArg some (by kernel_rfl))
  f217 := Tryd.func98.trans (congrArg some (by kernel_rfl))
  f224 := Tryd.func93.trans (congrArg some (by kernel_rfl))
  f225 := Tryd.func94.trans (congrArg some (by kernel_rfl))
  f227 := Tryd.func54.trans (congrArg some (by kernel_rfl))
  f228 := Tryd.func71.trans (congrArg some (by kernel_rfl))
  f231 := Tryd.func52.trans (congrArg some (by kernel_rfl))
  f232 := Tryd.func53.trans (congrArg some (by kernel_rfl))
  f233 := Tryd.func55.trans (congrArg some (by kernel_rfl))
  f234 := Tryd.func56.trans (congrArg some (by kernel_rfl))
  f235 := Tryd.func57.trans (congrArg some (by kernel_rfl))
  f236 := Tryd.func58.trans (congrArg some (by kernel_rfl))
  f260 := Tryd.func81.trans (congrArg some (by kernel_rfl))
  f266 := Tryd.func100.trans (congrArg some (by kernel_rfl))
  f271 := Tryd.func74.trans (congrArg some (by kernel_rfl))
  t0 := Tryd.underlying0
  a0 := Tryd.isAgg0
  z0 := Tryd.sizeOf0
  v0 := Tryd.zeroValue0
  t3 := Tryd.underlying3
  a3 := Tryd.isAgg3
  z3 := Tryd.sizeOf3
  v3 := Tryd.zeroValue3
  t4 := Tryd.underlying4
  a4 := Tryd.isAgg4
  z4 := Tryd.sizeOf4
  v4 := Tryd.zeroValue4
  t5 := Tryd.underlying5
  a5 := Tryd.isAgg5
  z5 := Tryd.sizeOf5
  v5 := Tryd.zeroValue5
  t9 := Tryd.underlying9
  a9 := Tryd.isAgg9
  z9 := Tryd.sizeOf9
  v9 := Tryd.zeroValue9
  t21 := Tryd.underlying21
  a21 := Tryd.isAgg21
  z21 := Tryd.sizeOf21
  v21 := Tryd.zeroValue21
  t46 := Tryd.underlying75
  a46 := Tryd.isAgg75
  z46 := Tryd.sizeOf75
  v46 := Tryd.zeroValue75
  t105 := Tryd.underlying126
  a105 := Tryd.isAgg126
  z105 := Tryd.sizeOf126
  v105 := Tryd.zeroValue126
  t116 := Tryd.underlying102
  a116 := Tryd.isAgg102
  z116 := Tryd.sizeOf102
  t117 := Tryd.underlying103
  a117 := Tryd.isAgg103
  z117 := Tryd.sizeOf103
  v117 := Tryd.zeroValue103
  t119 := Tryd.underlying107
  a119 := Tryd.isAgg107
  z119 := Tryd.sizeOf107
  t124 := Tryd.underlying106
  a124 := Tryd.isAgg106
  z124 := Tryd.sizeOf106
  v124 := Tryd.zeroValue106
  t138 := Tryd.underlying159
  a138 := Tryd.isAgg159
  z138 := Tryd.sizeOf159
  v138 := Tryd.zeroValue159
  t139 := Tryd.underlying160
  a139 := Tryd.isAgg160
  z139 := Tryd.sizeOf160
  v139 := Tryd.zeroValue160
  g3 := by kernel_rfl
  g4 := by kernel_rfl }
open Go.RowKit in
theorem strings_Trim_one (s : ByteArray) (c : UInt8) (hc : c.toNat < 128) (w : World) (hs : s.size ≤ 9223372036854775807) :
    Calls Tryd.prog 36 #[.string s, .string ⟨#[c]⟩] w fun e w' => e = .returned (.string ⟨(Lib.trimB s.data.toList c).toArray⟩) ∧ (w' = w ∨ w' = w.drew) := Any.strings_Trim_one lays160 s c hc w hs
def lays104_ren : Go.Shelf.Ren := ⟨fun | 104 => 27 | 211 => 41 | 207 => 66 | n => n, fun | 9 => 9 | 4 => 4 | 24 => 65 | 3 => 3 | n => n, fun | n => n⟩
theorem lays104 : Go.Proofs.Lays.n104 Tryd.prog lays104_ren := {
  mixed := by kernel_rfl
  f104 := Tryd.func27.trans (congrArg some (by kernel_rfl))
  f207 := Tryd.func66.trans (congrArg some (by kernel_rfl))
  f211 := Tryd.func41.trans (congrArg some (by kernel_rfl))
  t3 := Tryd.underlying3
  a3 := Tryd.isAgg3
  z3 := Tryd.sizeOf3
  v3 := Tryd.zeroValue3
  t4 := Tryd.underlying4
  a4 := Tryd.isAgg4
  z4 := Tryd.sizeOf4
  v4 := Tryd.zeroValue4
  t9 := Tryd.underlying9
  a9 := Tryd.isAgg9
  z9 := Tryd.sizeOf9
  v9 := Tryd.zeroValue9
  t24 := Tryd.underlying65
  a24 := Tryd.isAgg65
  z24 := Tryd.sizeOf65
  v24 := Tryd.zeroValue65 }
open Go.RowKit in
theorem strings_CutSuffix (s p : ByteArray) (w : World) (hs : s.size ≤ 9223372036854775807) :
    Calls Tryd.prog 27 #[.string s, .string p] w fun e w' => e = .returned (.tuple #[.string ⟨(Lib.trimSuffix s.data.toList p.data.toList).toArray⟩, .bool (Lib.hasSuffix s.data.toList p.data.toList)]) ∧ w' = w := Any.strings_CutSuffix lays104 s p w hs
def lays146_ren : Go.Shelf.Ren := ⟨fun | 146 => 64 | 221 => 78 | 268 => 88 | 138 => 89 | 143 => 90 | 195 => 95 | 197 => 72 | 218 => 96 | 219 => 97 | 260 => 81 | 217 => 98 | 225 => 94 | 224 => 93 | 267 => 99 | 266 => 100 | 314 => 101 | n => n, fun | 9 => 9 | 31 => 35 | 3 => 3 | 4 => 4 | 0 => 0 | 105 => 126 | 21 => 21 | 5 => 5 | 46 => 75 | 119 => 107 | 139 => 160 | 138 => 159 | 146 => 137 | 51 => 132 | n => n, fun | 1 => 4 | 3 => 2 | 4 => 3 | n => n⟩
theorem lays146 : Go.Proofs.Lays.n146 Tryd.prog lays146_ren := {
  mixed := by kernel_rfl
  f138 := Tryd.func89.trans (congrArg some (by kernel_rfl))
  f143 := Tryd.func90.trans (congrArg some (by kernel_rfl))
  f146 := Tryd.func64.trans (congrArg some (by kernel_rfl))
  f195 := Tryd.func95.trans (congrArg some (by kernel_rfl))
  f197 := Tryd.func72.trans (congrArg some (by kernel_rfl))
  f217 := Tryd.func98.trans (congrArg some (by kernel_rfl))
  f218 := Tryd.func96.trans (congrArg some (by kernel_rfl))
  f219 := Tryd.func97.trans (congrArg some (by kernel_rfl))
  f221 := Tryd.func78.trans (congrArg some (by kernel_rfl))
  f224 := Tryd.func93.trans (congrArg some (by kernel_rfl))
  f225 := Tryd.func94.trans (congrArg some (by kernel_rfl))
  f260 := Tryd.func81.trans (congrArg some (by kernel_rfl))
  f266 := Tryd.func100.trans (congrArg some (by kernel_rfl))
  f267 := Tryd.func99.trans (congrArg some (by kernel_rfl))
  f268 := Tryd.func88.trans (congrArg some (by kernel_rfl))
  f314 := Tryd.func101.trans (congrArg some (by kernel_rfl))
  t0 := Tryd.underlying0
  a0 := Tryd.isAgg0
  z0 := Tryd.sizeOf0
  v0 := Tryd.zeroValue0
  t3 := Tryd.underlying3
  a3 := Tryd.isAgg3
  z3 := Tryd.sizeOf3
  v3 := Tryd.zeroValue3
  t4 := Tryd.underlying4
  a4 := Tryd.isAgg4
  z4 := Tryd.sizeOf4
  v4 := Tryd.zeroValue4
  t5 := Tryd.underlying5
  a5 := Tryd.isAgg5
  z5 := Tryd.sizeOf5
  v5 := Tryd.zeroValue5
  t9 := Tryd.underlying9
  a9 := Tryd.isAgg9
  z9 := Tryd.sizeOf9
  v9 := Tryd.zeroValue9
  t21 := Tryd.underlying21
  a21 := Tryd.isAgg21
  z21 := Tryd.sizeOf21
  v21 := Tryd.zeroValue21
  t31 := Tryd.underlying35
  a31 := Tryd.isAgg35
  z31 := Tryd.sizeOf35
  v31 := Tryd.zeroValue35
  t46 := Tryd.underlying75
  a46 := Tryd.isAgg75
  z46 := Tryd.sizeOf75
  v46 := Tryd.zeroValue75
  t51 := Tryd.underlying132
  a51 := Tryd.isAgg132
  z51 := Tryd.sizeOf132
  v51 := Tryd.zeroValue132
  t105 := Tryd.underlying126
  a105 := Tryd.isAgg126
  z105 := Tryd.sizeOf126
  v105 := Tryd.zeroValue126
  t119 := Tryd.underlying107
  a119 := Tryd.isAgg107
  z119 := Tryd.sizeOf107
  t138 := Tryd.underlying159
  a138 := Tryd.isAgg159
  z138 := Tryd.sizeOf159
  v138 := Tryd.zeroValue159
  t139 := Tryd.underlying160
  a139 := Tryd.isAgg160
  z139 := Tryd.sizeOf160
  v139 := Tryd.zeroValue160
  t146 := Tryd.underlying137
  a146 := Tryd.isAgg137
  z146 := Tryd.sizeOf137
  v146 := Tryd.zeroValue137
  g1 := by kernel_rfl
  g3 := by kernel_rfl
  g4 := by kernel_rfl }
def lays157_ren : Go.Shelf.Ren := ⟨fun | 157 => 37 | 229 => 59 | 199 => 60 | 261 => 75 | 311 => 84 | 312 => 85 | n => n, fun | 9 => 9 | 31 => 35 | 3 => 3 | 5 => 5 | 4 => 4 | 119 => 107 | 0 => 0 | 40 => 109 | 152 => 129 | 21 => 21 | 154 => 131 | 51 => 132 | 141 => 134 | 196 => 146 | 193 => 143 | 198 => 149 | 49 => 147 | 194 => 144 | 201 => 152 | 226 => 163 | 46 => 75 | 227 => 164 | n => n, fun | 0 => 0 | 6 => 1 | n => n⟩
theorem lays157 : Go.Proofs.Lays.n157 Tryd.prog lays157_ren := {
  mixed := by kernel_rfl
  f157 := Tryd.func37.trans (congrArg some (by kernel_rfl))
  f199 := Tryd.func60.trans (congrArg some (by kernel_rfl))
  f229 := Tryd.func59.trans (congrArg some (by kernel_rfl))
  f261 := Tryd.func75.trans (congrArg some (by kernel_rfl))
  f311 := Tryd.func84.trans (congrArg some (by kernel_rfl))
  f312 := Tryd.func85.trans (congrArg some (by kernel_rfl))
  t0 := Tryd.underlying0
  a0 := Tryd.isAgg0
  z0 := Tryd.sizeOf0
  v0 := Tryd.zeroValue0
  t3 := Tryd.underlying3
  a3 := Tryd.isAgg3
  z3 := Tryd.sizeOf3
  v3 := Tryd.zeroValue3
  t4 := Tryd.underlying4
  a4 := Tryd.isAgg4
  z4 := Tryd.sizeOf4
  v4 := Tryd.zeroValue4
  t5 := Tryd.underlying5
  a5 := Tryd.isAgg5
  z5 := Tryd.sizeOf5
  v5 := Tryd.zeroValue5
  t9 := Tryd.underlying9
  a9 := Tryd.isAgg9
  z9 := Tryd.sizeOf9
  v9 := Tryd.zeroValue9
  t21 := Tryd.underlying21
  a21 := Tryd.isAgg21
  z21 := Tryd.sizeOf21
  v21 := Tryd.zeroValue21
  t31 := Tryd.underlying35
  a31 := Tryd.isAgg35
  z31 := Tryd.sizeOf35
  v31 := Tryd.zeroValue35
  t40 := Tryd.underlying109
  a40 := Tryd.isAgg109
  z40 := Tryd.sizeOf109
  v40 := Tryd.zeroValue109
  t46 := Tryd.underlying75
  a46 := Tryd.isAgg75
  z46 := Tryd.sizeOf75
  v46 := Tryd.zeroValue75
  t49 := Tryd.underlying147
  a49 := Tryd.isAgg147
  z49 := Tryd.sizeOf147
  v49 := Tryd.zeroValue147
  t51 := Tryd.underlying132
  a51 := Tryd.isAgg132
  z51 := Tryd.sizeOf132
  v51 := Tryd.zeroValue132
  t119 := Tryd.underlying107
  a119 := Tryd.isAgg107
  z119 := Tryd.sizeOf107
  t141 := Tryd.underlying134
  a141 := Tryd.isAgg134
  z141 := Tryd.sizeOf134
  v141 := Tryd.zeroValue134
  t152 := Tryd.underlying129
  a152 := Tryd.isAgg129
  z152 := Tryd.sizeOf129
  v152 := Tryd.zeroValue129
  t154 := Tryd.underlying131
  a154 := Tryd.isAgg131
  z154 := Tryd.sizeOf131
  v154 := Tryd.zeroValue131
  t193 := Tryd.underlying143
  a193 := Tryd.isAgg143
  z193 := Tryd.sizeOf143
  v193 := Tryd.zeroValue143
  t194 := Tryd.underlying144
  a194 := Tryd.isAgg144
  z194 := Tryd.sizeOf144
  v194 := Tryd.zeroValue144
  t196 := Tryd.underlying146
  a196 := Tryd.isAgg146
  z196 := Tryd.sizeOf146
  v196 := Tryd.zeroValue146
  t198 := Tryd.underlying149
  a198 := Tryd.isAgg149
  z198 := Tryd.sizeOf149
  v198 := Tryd.zeroValue149
  t201 := Tryd.underlying152
  a201 := Tryd.isAgg152
  z201 := Tryd.sizeOf152
  v201 := Tryd.zeroValue152
  t226 := Tryd.underlying163
  a226 := Tryd.isAgg163
  z226 := Tryd.sizeOf163
  v226 := Tryd.zeroValue163
  t227 := Tryd.underlying164
  a227 := Tryd.isAgg164
  z227 := Tryd.sizeOf164
  v227 := Tryd.zeroValue164
  g0 := by kernel_rfl
  g6 := by kernel_rfl }
open Go.RowKit Go.Lib in
theorem strings_Fields (s : ByteArray) (w : World) (hs : s.size < 4294967281) (hascii : ∀ (j : Nat) b, s.data.toList[j]? = some b → b.toNat < 128) (htab : Lib.TabIs Tryd.prog w "strings.asciiSpace" .u8 Lib.asciiSpaceTab) :
    Calls Tryd.prog 37 #[.string s] w fun e w' =>
      e = .returned (.slice (some ⟨w.heap.size, 0, none⟩) (Lib.fields s.data.toList).length (Lib.fields s.data.toList).length) ∧ w' = w.alloc (.cells ((Lib.fields s.data.toList).map fun l => Value.string ⟨l.toArray⟩).toArray 9) := Any.strings_Fields lays157 (by kernel_rfl) (by kernel_rfl) s w hs hascii htab
def laysM157_ren : Go.Shelf.Ren := ⟨fun | 157 => 37 | 229 => 59 | 199 => 60 | 261 => 75 | 311 => 84 | 312 => 85 | n => n, fun | 9 => 9 | 31 => 35 | 3 => 3 | 5 => 5 | 4 => 4 | 119 => 107 | 0 => 0 | 40 => 109 | 152 => 129 | 21 => 21 | 154 => 131 | 51 => 132 | 141 => 134 | 196 => 146 | 193 => 143 | 198 => 149 | 49 => 147 | 194 => 144 | 201 => 152 | 226 => 163 | 46 => 75 | 227 => 164 | n => n, fun | 0 => 0 | 6 => 1 | n => n⟩
theorem laysM157 : Go.Proofs.LaysM.n157 Tryd.prog laysM157_ren := {
  mixed := by kernel_rfl
  f157 := Tryd.func37.trans (congrArg some (by kernel_rfl))
  f199 := Tryd.func60.trans (congrArg some (by kernel_rfl))
  f229 := Tryd.func59.trans (congrArg some (by kernel_rfl))
  f261 := Tryd.func75.trans (congrArg some (by kernel_rfl))
  f311 := Tryd.func84.trans (congrArg some (by kernel_rfl))
  f312 := Tryd.func85.trans (congrArg some (by kernel_rfl))
  t0 := Tryd.underlying0
  a0 := Tryd.isAgg0
  z0 := Tryd.sizeOf0
  v0 := Tryd.zeroValue0
  t3 := Tryd.underlying3
  a3 := Tryd.isAgg3
  z3 := Tryd.sizeOf3
  v3 := Tryd.zeroValue3
  t4 := Tryd.underlying4
  a4 := Tryd.isAgg4
  z4 := Tryd.sizeOf4
  v4 := Tryd.zeroValue4
  t5 := Tryd.underlying5
  a5 := Tryd.isAgg5
  z5 := Tryd.sizeOf5
  v5 := Tryd.zeroValue5
  t9 := Tryd.underlying9
  a9 := Tryd.isAgg9
  z9 := Tryd.sizeOf9
  v9 := Tryd.zeroValue9
  t21 := Tryd.underlying21
  a21 := Tryd.isAgg21
  z21 := Tryd.sizeOf21
  v21 := Tryd.zeroValue21
  t31 := Tryd.underlying35
  a31 := Tryd.isAgg35
  z31 := Tryd.sizeOf35
  v31 := Tryd.zeroValue35
  t40 := Tryd.underlying109
  a40 := Tryd.isAgg109
  z40 := Tryd.sizeOf109
  v40 := Tryd.zeroValue109
  t46 := Tryd.underlying75
  a46 := Tryd.isAgg75
  z46 := Tryd.sizeOf75
  v46 := Tryd.zeroValue75
  t49 := Tryd.underlying147
  a49 := Tryd.isAgg147
  z49 := Tryd.sizeOf147
  v49 := Tryd.zeroValue147
  t51 := Tryd.underlying132
  a51 := Tryd.isAgg132
  z51 := Tryd.sizeOf132
  v51 := Tryd.zeroValue132
  t119 := Tryd.underlying107
  a119 := Tryd.isAgg107
  z119 := Tryd.sizeOf107
  t141 := Tryd.underlying134
  a141 := Tryd.isAgg134
  z141 := Tryd.sizeOf134
  v141 := Tryd.zeroValue134
  t152 := Tryd.underlying129
  a152 := Tryd.isAgg129
  z152 := Tryd.sizeOf129
  v152 := Tryd.zeroValue129
  t154 := Tryd.underlying131
  a154 := Tryd.isAgg131
  z154 := Tryd.sizeOf131
  v154 := Tryd.zeroValue131
  t193 := Tryd.underlying143
  a193 := Tryd.isAgg143
  z193 := Tryd.sizeOf143
  v193 := Tryd.zeroValue143
  t194 := Tryd.underlying144
  a194 := Tryd.isAgg144
  z194 := Tryd.sizeOf144
  v194 := Tryd.zeroValue144
  t196 := Tryd.underlying146
  a196 := Tryd.isAgg146
  z196 := Tryd.sizeOf146
  v196 := Tryd.zeroValue146
  t198 := Tryd.underlying149
  a198 := Tryd.isAgg149
  z198 := Tryd.sizeOf149
  v198 := Tryd.zeroValue149
  t201 := Tryd.underlying152
  a201 := Tryd.isAgg152
  z201 := Tryd.sizeOf152
  v201 := Tryd.zeroValue152
  t226 := Tryd.underlying163
  a226 := Tryd.isAgg163
  z226 := Tryd.sizeOf163
  v226 := Tryd.zeroValue163
  t227 := Tryd.underlying164
  a227 := Tryd.isAgg164
  z227 := Tryd.sizeOf164
  v227 := Tryd.zeroValue164
  g0 := by kernel_rfl
  g6 := by kernel_rfl
  i0 := by kernel_rfl
  i3 := by kernel_rfl
  i4 := by kernel_rfl
  i5 := by kernel_rfl
  i9 := by kernel_rfl
  i21 := by kernel_rfl
  i31 := by kernel_rfl
  i40 := by kernel_rfl
  i46 := by kernel_rfl
  i49 := by kernel_rfl
  i51 := by kernel_rfl
  i141 := by kernel_rfl
  i152 := by kernel_rfl
  i154 := by kernel_rfl
  i193 := by kernel_rfl
  i194 := by kernel_rfl
  i196 := by kernel_rfl
  i198 := by kernel_rfl
  i201 := by kernel_rfl
  i226 := by kernel_rfl
  i227 := by kernel_rfl
  m0 := by kernel_rfl
  m6 := by kernel_rfl }
open Go.RowKit Go.Lib in
theorem strings_Fields_laid (s : ByteArray) (w : World) (hs : s.size < 4294967281) (hascii : ∀ (j : Nat) b, s.data.toList[j]? = some b → b.toNat < 128) (htab : Lib.TabIs Tryd.prog w "strings.asciiSpace" .u8 Lib.asciiSpaceTab) :
    Calls Tryd.prog 37 #[.string s] w fun e w' =>
      e = .returned (.slice (some ⟨w.heap.size, 0, none⟩) (Lib.fields s.data.toList).length (Lib.fields s.data.toList).length) ∧ w' = w.alloc (.cells ((Lib.fields s.data.toList).map fun l => Value.string ⟨l.toArray⟩).toArray 9) := Any.strings_Fields_laid laysM157 s w hs hascii htab
open Go.RowKit Go.Lib in
theorem strings_Split_chars (s sep : ByteArray) (w : World) (h0 : sep.size = 0) (hs : s.size < 4294967281) (hascii : ∀ (j : Nat) b, s.data.toList[j]? = some b → b.toNat < 128) :
    Calls Tryd.prog 64 #[.string s, .string sep] w fun e w' =>
      e = .returned (.slice (some ⟨(w.iter s s.size).heap.size, 0, none⟩) s.size s.size) ∧ w' = (w.iter s s.size).alloc (.cells ((Lib.charsB s).map Value.string).toArray 9) := Any.strings_Split_chars lays146 (by kernel_rfl) s sep w h0 hs hascii
def lays264_ren : Go.Shelf.Ren := ⟨fun | 264 => 80 | n => n, fun | 53 => 139 | 46 => 75 | n => n, fun | n => n⟩
theorem lays264 : Go.Proofs.Lays.n264 Tryd.prog lays264_ren := {
  mixed := by kernel_rfl
  f264 := Tryd.func80.trans (congrArg some (by kernel_rfl))
  t46 := Tryd.underlying75
  a46 := Tryd.isAgg75
  z46 := Tryd.sizeOf75
  v46 := Tryd.zeroValue75
  t53 := Tryd.underlying139
  a53 := Tryd.isAgg139
  z53 := Tryd.sizeOf139
  v53 := Tryd.zeroValue139 }
open Go.RowKit Go.Lib in
theorem bits_Mul64 (x y : Nat) (hx : x < 18446744073709551616) (hy : y < 18446744073709551616) (w : World) :
    Calls Tryd.prog 80 #[.int .u64 x, .int .u64 y] w fun e w' => e = .returned (.tuple #[.int .u64 ((x * y / 18446744073709551616 : Nat) : Int), .int .u64 ((x * y % 18446744073709551616 : Nat) : Int)]) ∧ w' = w := Any.bits_Mul64 lays264 x y hx hy w
def lays212_ren : Go.Shelf.Ren := ⟨fun | 212 => 68 | 263 => 79 | 264 => 80 | n => n, fun | 46 => 75 | 51 => 132 | 146 => 137 | 53 => 139 | 148 => 140 | n => n, fun | n => n⟩
theorem lays212 : Go.Proofs.Lays.n212 Tryd.prog lays212_ren := {
  mixed := by kernel_rfl
  f212 := Tryd.func68.trans (congrArg some (by kernel_rfl))
  f263 := Tryd.func79.trans (congrArg some (by kernel_rfl))
  f264 := Tryd.func80.trans (congrArg some (by kernel_rfl))
  t46 := Tryd.underlying75
  a46 := Tryd.isAgg75
  z46 := Tryd.sizeOf75
  v46 := Tryd.zeroValue75
  t51 := Tryd.underlying132
  a51 := Tryd.isAgg132
  z51 := Tryd.sizeOf132
  v51 := Tryd.zeroValue132
  t53 := Tryd.underlying139
  a53 := Tryd.isAgg139
  z53 := Tryd.sizeOf139
  v53 := Tryd.zeroValue139
  t146 := Tryd.underlying137
  a146 := Tryd.isAgg137
  z146 := Tryd.sizeOf137
  v146 := Tryd.zeroValue137
  t148 := Tryd.underlying140
  a148 := Tryd.isAgg140
  z148 := Tryd.sizeOf140
  v148 := Tryd.zeroValue140 }
open Go.RowKit Go.Lib in
theorem bits_Mul (x y : Nat) (hx : x < 18446744073709551616) (hy : y < 18446744073709551616) (w : World) :
    Calls Tryd.prog 68 #[.int .u64 x, .int .u64 y] w fun e w' => e = .returned (.tuple #[.int .u64 ((x * y / 18446744073709551616 : Nat) : Int), .int .u64 ((x * y % 18446744073709551616 : Nat) : Int)]) ∧ w' = w := Any.bits_Mul lays212 x y hx hy w
def lays114_ren : Go.Shelf.Ren := ⟨fun | 114 => 45 | n => n, fun | 28 => 74 | 3 => 3 | 4 => 4 | 9 => 9 | 20 => 20 | 0 => 0 | n => n, fun | n => n⟩
theorem lays114 : Go.Proofs.Lays.n114 Tryd.prog lays114_ren := {
  mixed := by kernel_rfl
  f114 := Tryd.func45.trans (congrArg some (by kernel_rfl))
  t0 := Tryd.underlying0
  a0 := Tryd.isAgg0
  z0 := Tryd.sizeOf0
  v0 := Tryd.zeroValue0
  t3 := Tryd.underlying3
  a3 := Tryd.isAgg3
  z3 := Tryd.sizeOf3
  v3 := Tryd.zeroValue3
  t4 := Tryd.underlying4
  a4 := Tryd.isAgg4
  z4 := Tryd.sizeOf4
  v4 := Tryd.zeroValue4
  t9 := Tryd.underlying9
  a9 := Tryd.isAgg9
  z9 := Tryd.sizeOf9
  v9 := Tryd.zeroValue9
  t20 := Tryd.underlying20
  a20 := Tryd.isAgg20
  z20 := Tryd.sizeOf20
  v20 := Tryd.zeroValue20
  t28 := Tryd.underlying74
  a28 := Tryd.isAgg74
  z28 := Tryd.sizeOf74
  v28 := Tryd.zeroValue74 }
open Go.Lib in
theorem slices_Min_int (b off n c : Nat) (zs : List Int) (w : World) (hn : 0 < n) (hz : n ≤ zs.length) (hbig : n ≤ 9223372036854775807) (hc : ∀ j, j < zs.length → w.cell? ⟨b, off + j, none⟩ = some (.int .i64 (zs.getD j 0))) :
    Calls Tryd.prog 45 #[.slice (some ⟨b, off, none⟩) n c] w fun e w' => e = .returned (.int .i64 (Lib.minOf (zs.take n))) ∧ w' = w := Any.slices_Min_int lays114 b off n c zs w hn hz hbig hc
def laysNm217_ren : Go.Shelf.Ren := ⟨fun | 17 => 65 | n => n, fun | 24 => 35 | 9 => 9 | 3 => 3 | 4 => 4 | 0 => 0 | n => n, fun | n => n⟩
theorem laysNm217 : Go.Proofs.Lays2.n17 Tryd.prog laysNm217_ren := {
  mixed := by kernel_rfl
  f17 := Tryd.func65.trans (congrArg some (by kernel_rfl))
  t0 := Tryd.underlying0
  a0 := Tryd.isAgg0
  z0 := Tryd.sizeOf0
  v0 := Tryd.zeroValue0
  t3 := Tryd.underlying3
  a3 := Tryd.isAgg3
  z3 := Tryd.sizeOf3
  v3 := Tryd.zeroValue3
  t4 := Tryd.underlying4
  a4 := Tryd.isAgg4
  z4 := Tryd.sizeOf4
  v4 := Tryd.zeroValue4
  t9 := Tryd.underlying9
  a9 := Tryd.isAgg9
  z9 := Tryd.sizeOf9
  v9 := Tryd.zeroValue9
  t24 := Tryd.underlying35
  a24 := Tryd.isAgg35
  z24 := Tryd.sizeOf35
  v24 := Tryd.zeroValue35 }
open Go.RowKit Go.Lib Go.Sort in
theorem slices_Reverse_string_arr (blk off cap : Nat) (d : Array (List UInt8)) (w : World) (hH : Holds encStr w blk off d) (hsz : d.size ≤ 9223372036854775807) :
    Calls Tryd.prog 65 #[.slice (some ⟨blk, off, none⟩) d.size cap] w fun e w' => e = .returned (.tuple #[]) ∧ ∃ n, w' = putRow encStr (Sort.ahead w n) blk off d.reverse := Any.slices_Reverse_string_arr laysNm217 blk off cap d w hH hsz
open Go.RowKit Go.Lib Go.Sort in
theorem slices_Reverse_string (blk off cap : Nat) (zs : List (List UInt8)) (w : World) (hH : Holds encStr w blk off zs.toArray) (hsz : zs.length ≤ 9223372036854775807) :
    Calls Tryd.prog 65 #[.slice (some ⟨blk, off, none⟩) zs.length cap] w fun e w' => e = .returned (.tuple #[]) ∧ ∃ n, w' = putRow encStr (Sort.ahead w n) blk off zs.reverse.toArray := Any.slices_Reverse_string laysNm217 blk off cap zs w hH hsz
open Go.RowKit Go.Lib Go.Sort in
theorem slices_Reverse_string_empty (a : Option Addr) (cap : Nat) (w : World) :
    Calls Tryd.prog 65 #[.slice a 0 cap] w fun e w' => e = .returned (.tuple #[]) ∧ w' = w := Any.slices_Reverse_string_empty laysNm217 a cap w
open Go.RowKit Go.Lib Go.Sort in
theorem slices_Reverse_string_cells (b off n c : Nat) (Sx : Nat → ByteArray) (w : World) (hbig : n ≤ 9223372036854775807) (hc : ∀ i, i < n → w.cell? ⟨b, off + i, none⟩ = some (.string (Sx i))) (hf : ∀ j, j < n → w.frozen? ⟨b, off + j, none⟩ = false) :
    Calls Tryd.prog 65 #[.slice (some ⟨b, off, none⟩) n c] w fun e w' => e = .returned (.tuple #[]) ∧ ∃ q, w' = (w.drewN q).setCells b off ((Lib.strsOf Sx n).reverse.map encStr) := Any.slices_Reverse_string_cells laysNm217 b off n c Sx w hbig hc hf
def laysnb116_ren : Go.Shelf.Ren := ⟨fun | 116 => 32 | 115 => 50 | n => n, fun | 37 => 47 | 4 => 4 | 3 => 3 | 9 => 9 | 5 => 5 | n => n, fun | n => n⟩
theorem laysnb116 : Go.Proofs.Lays.nb116 Tryd.prog laysnb116_ren := {
  mixed := by kernel_rfl
  f115 := Tryd.func50.trans (congrArg some (by kernel_rfl))
  f116 := Tryd.func32.trans (congrArg some (by kernel_rfl))
  t3 := Tryd.underlying3
  a3 := Tryd.isAgg3
  z3 := Tryd.sizeOf3
  v3 := Tryd.zeroValue3
  t4 := Tryd.underlying4
  a4 := Tryd.isAgg4
  z4 := Tryd.sizeOf4
  v4 := Tryd.zeroValue4
  t9 := Tryd.underlying9
  a9 := Tryd.isAgg9
  z9 := Tryd.sizeOf9
  v9 := Tryd.zeroValue9
  t37 := Tryd.underlying47
  a37 := Tryd.isAgg47
  z37 := Tryd.sizeOf47
  v37 := Tryd.zeroValue47
  t5 := Tryd.underlying5
  a5 := Tryd.isAgg5
  z5 := Tryd.sizeOf5
  v5 := Tryd.zeroValue5 }
theorem bytes_HasPrefix_e2 (p1 p2 : Option Addr) (n c d : Nat) (w : World) :
    Calls Tryd.prog 32 #[.slice p1 n c, .slice p2 0 d] w fun e w' => e = .returned (.bool true) ∧ w' = w := Any.bytes_HasPrefix_e2 laysnb116 p1 p2 n c d w
theorem bytes_HasPrefix_e1 (p1 p2 : Option Addr) (c m d : Nat) (hm : 0 < m) (w : World) :
    Calls Tryd.prog 32 #[.slice p1 0 c, .slice p2 m d] w fun e w' => e = .returned (.bool false) ∧ w' = w := Any.bytes_HasPrefix_e1 laysnb116 p1 p2 c m d hm w
theorem bytes_HasPrefix_all (p1 p2 : Option Addr) (n c m d : Nat) (xs ys : List Int) (w : World) (hx : xs.length = n) (hy : ys.length = m) (hnc : n ≤ c) (h1 : Lib.BytesIn w p1 n xs) (h2 : Lib.BytesIn w p2 m ys) :
    Calls Tryd.prog 32 #[.slice p1 n c, .slice p2 m d] w fun e w' => e = .returned (.bool (Lib.hasPrefix (Lib.bytesOf xs) (Lib.bytesOf ys))) ∧ w' = w := Any.bytes_HasPrefix_all laysnb116 p1 p2 n c m d xs ys w hx hy hnc h1 h2
theorem bytes_HasPrefix (b1 o1 n c b2 o2 m d : Nat) (xs ys : List Int) (w : World) (hx : xs.length = n) (hy : ys.length = m) (hnc : n ≤ c) (hc1 : ∀ i, i < n → w.cell? ⟨b1, o1 + i, none⟩ = some (.int .u8 (xs.getD i 0))) (hc2 : ∀ i, i < m → w.cell? ⟨b2, o2 + i, none⟩ = some (.int .u8 (ys.getD i 0))) :
    Calls Tryd.prog 32 #[.slice (some ⟨b1, o1, none⟩) n c, .slice (some ⟨b2, o2, none⟩) m d] w fun e w' => e = .returned (.bool (Lib.hasPrefix (Lib.bytesOf xs) (Lib.bytesOf ys))) ∧ w' = w := Any.bytes_HasPrefix laysnb116 b1 o1 n c b2 o2 m d xs ys w hx hy hnc hc1 hc2
def laysKeysA_ren : Go.Shelf.Ren := ⟨fun | 7 => 47 | 10 => 70 | n => n, fun | 23 => 88 | 26 => 3 | 3 => 4 | 28 => 95 | 0 => 0 | 27 => 94 | 33 => 50 | 4 => 4 | n => n, fun | n => n⟩
theorem laysKeysA : Go.Proofs.SlLaysZI.n7 Tryd.prog laysKeysA_ren := {
  mixed := by kernel_rfl
  f7 := ⟨Tryd.f47.name, by decide, Tryd.func47.trans (congrArg some (by kernel_rfl))⟩
  f10 := ⟨Tryd.f70.name, by decide, Tryd.func70.trans (congrArg some (by kernel_rfl))⟩
  t0 := Tryd.underlying0
  a0 := Tryd.isAgg0
  z0 := Tryd.sizeOf0
  v0 := Tryd.zeroValue0
  t4 := Tryd.underlying4
  a4 := Tryd.isAgg4
  z4 := Tryd.sizeOf4
  v4 := Tryd.zeroValue4
  t23 := Tryd.underlying88
  a23 := Tryd.isAgg88
  z23 := Tryd.sizeOf88
  v23 := Tryd.zeroValue88
  t26 := Tryd.underlying3
  a26 := Tryd.isAgg3
  z26 := Tryd.sizeOf3
  v26 := Tryd.zeroValue3
  t27 := Tryd.underlying94
  a27 := Tryd.isAgg94
  z27 := Tryd.sizeOf94
  v27 := Tryd.zeroValue94
  t28 := Tryd.underlying95
  a28 := Tryd.isAgg95
  z28 := Tryd.sizeOf95
  v28 := Tryd.zeroValue95
  t33 := Tryd.underlying50
  a33 := Tryd.isAgg50
  z33 := Tryd.sizeOf50
  v33 := Tryd.zeroValue50 }
def laysCollA_ren : Go.Shelf.Ren := ⟨fun | 8 => 46 | 11 => 69 | n => n, fun | 26 => 3 | 28 => 95 | 24 => 74 | 0 => 0 | 33 => 50 | 4 => 4 | n => n, fun | n => n⟩
theorem laysCollA : Go.Proofs.SlLaysZI.n8 Tryd.prog laysCollA_ren := {
  mixed := by kernel_rfl
  f8 := ⟨Tryd.f46.name, by decide, Tryd.func46.trans (congrArg some (by kernel_rfl))⟩
  f11 := ⟨Tryd.f69.name, by decide, Tryd.func69.trans (congrArg some (by kernel_rfl))⟩
  t0 := Tryd.underlying0
  a0 := Tryd.isAgg0
  z0 := Tryd.sizeOf0
  v0 := Tryd.zeroValue0
  t24 := Tryd.underlying74
  a24 := Tryd.isAgg74
  z24 := Tryd.sizeOf74
  v24 := Tryd.zeroValue74
  t26 := Tryd.underlying3
  a26 := Tryd.isAgg3
  z26 := Tryd.sizeOf3
  v26 := Tryd.zeroValue3
  t28 := Tryd.underlying95
  a28 := Tryd.isAgg95
  z28 := Tryd.sizeOf95
  v28 := Tryd.zeroValue95
  i26 := by kernel_rfl }

end Go.Proofs.YtliealcdiogilaaDoor
