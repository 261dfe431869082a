/- The contracts of the library's functions that are called, at this translation's numbers: laid by the kit's own tools (lay-shelf.mjs, lay-plain.mjs); what is not needed has been left out. -/
import Derived.Shelf.SlIterI.Nil
import Derived.Shelf.SortM.Plain
import Derived.Shelf.SortM.SortNone
import Derived.Ground.GgzProg
import Derived.Ground.SlgmProg
import Derived.Shelf.Strings.Builder1
import Derived.Shelf.Strings.Builder2
import Derived.Shelf.Small.Bits
import Derived.Shelf.Small.Wraps
import Derived.Shelf.Strings.BuilderF
import Derived.Shelf.Strings.BuilderK
import Derived.Shelf.Strings.Builder2Cap
import Derived.Shelf.Strconv.Itoa0
import Derived.Shelf.Sort.Plain
import Derived.Shelf.Strings.Prefix
import Derived.Shelf.Bits.Mul64
import Derived.Shelf.Strings.Repeat
import Derived.Shelf.Strings.BuilderCap
import Derived.Ground.Names2Prog
import Derived.Shelf.Slices.SearchI
import Derived.Shelf.Slices.In.SortNone
import Derived.Test.YtdoankamaobkoaaGreatDoorProg
namespace Go.Proofs
open Go.Shelf
def Tryz.lays212_ren : Go.Shelf.Ren := ⟨fun | 212 => 74 | 263 => 100 | 264 => 101 | n => n, fun | 46 => 99 | 51 => 166 | 146 => 167 | 53 => 134 | 148 => 169 | n => n, fun | n => n⟩
theorem Tryz.lays212 : Go.Proofs.Lays.n212 Tryz.prog Tryz.lays212_ren := {
  mixed := by kernel_rfl
  f212 := Tryz.func74.trans (congrArg some (by kernel_rfl))
  f263 := Tryz.func100.trans (congrArg some (by kernel_rfl))
  f264 := Tryz.func101.trans (congrArg some (by kernel_rfl))
  t46 := Tryz.underlying99
  a46 := Tryz.isAgg99
  z46 := Tryz.sizeOf99
  v46 := Tryz.zeroValue99
  t51 := Tryz.underlying166
  a51 := Tryz.isAgg166
  z51 := Tryz.sizeOf166
  v51 := Tryz.zeroValue166
  t53 := Tryz.underlying134
  a53 := Tryz.isAgg134
  z53 := Tryz.sizeOf134
  v53 := Tryz.zeroValue134
  t146 := Tryz.underlying167
  a146 := Tryz.isAgg167
  z146 := Tryz.sizeOf167
  v146 := Tryz.zeroValue167
  t148 := Tryz.underlying169
  a148 := Tryz.isAgg169
  z148 := Tryz.sizeOf169
  v148 := Tryz.zeroValue169 }
open Go.RowKit Go.Lib in
theorem Tryz.bits_Mul (x y : Nat) (hx : x < 18446744073709551616) (hy : y < 18446744073709551616) (w : World) :
    Calls Tryz.prog 74 #[.int .u64 x, .int .u64 y] w fun e w' => e = .returned (.tuple #[.int .u64 ((x * y / 18446744073709551616 : Nat) : Int), .int .u64 ((x * y % 18446744073709551616 : Nat) : Int)]) ∧ w' = w := Any.bits_Mul Tryz.lays212 x y hx hy w
def Tryz.lays105_ren : Go.Shelf.Ren := ⟨fun | 105 => 45 | 212 => 74 | 99 => 75 | 165 => 76 | 166 => 77 | 170 => 78 | 169 => 79 | 263 => 100 | 264 => 101 | 206 => 102 | 240 => 103 | 241 => 104 | 276 => 121 | 277 => 122 | n => n, fun | 9 => 9 | 3 => 3 | 4 => 4 | 20 => 20 | 0 => 0 | 46 => 99 | 109 => 116 | 5 => 5 | 72 => 121 | 76 => 65 | 51 => 166 | 146 => 167 | 53 => 134 | 148 => 169 | 70 => 119 | 37 => 22 | 75 => 64 | 127 => 171 | 164 => 150 | 80 => 87 | n => n, fun | n => n⟩
theorem Tryz.lays105 : Go.Proofs.Lays.n105 Tryz.prog Tryz.lays105_ren := {
  mixed := by kernel_rfl
  f99 := Tryz.func75.trans (congrArg some (by kernel_rfl))
  f105 := Tryz.func45.trans (congrArg some (by kernel_rfl))
  f165 := Tryz.func76.trans (congrArg some (by kernel_rfl))
  f166 := Tryz.func77.trans (congrArg some (by kernel_rfl))
  f169 := Tryz.func79.trans (congrArg some (by kernel_rfl))
  f170 := Tryz.func78.trans (congrArg some (by kernel_rfl))
  f206 := Tryz.func102.trans (congrArg some (by kernel_rfl))
  f212 := Tryz.func74.trans (congrArg some (by kernel_rfl))
  f240 := Tryz.func103.trans (congrArg some (by kernel_rfl))
  f241 := Tryz.func104.trans (congrArg some (by kernel_rfl))
  f263 := Tryz.func100.trans (congrArg some (by kernel_rfl))
  f264 := Tryz.func101.trans (congrArg some (by kernel_rfl))
  f276 := Tryz.func121.trans (congrArg some (by kernel_rfl))
  f277 := Tryz.func122.trans (congrArg some (by kernel_rfl))
  t0 := Tryz.underlying0
  a0 := Tryz.isAgg0
  z0 := Tryz.sizeOf0
  v0 := Tryz.zeroValue0
  t3 := Tryz.underlying3
  a3 := Tryz.isAgg3
  z3 := Tryz.sizeOf3
  v3 := Tryz.zeroValue3
  t4 := Tryz.underlying4
  a4 := Tryz.isAgg4
  z4 := Tryz.sizeOf4
  v4 := Tryz.zeroValue4
  t5 := Tryz.underlying5
  a5 := Tryz.isAgg5
  z5 := Tryz.sizeOf5
  v5 := Tryz.zeroValue5
  t9 := Tryz.underlying9
  a9 := Tryz.isAgg9
  z9 := Tryz.sizeOf9
  v9 := Tryz.zeroValue9
  t20 := Tryz.underlying20
  a20 := Tryz.isAgg20
  z20 := Tryz.sizeOf20
  v20 := Tryz.zeroValue20
  t37 := Tryz.underlying22
  a37 := Tryz.isAgg22
  z37 := Tryz.sizeOf22
  v37 := Tryz.zeroValue22
  t46 := Tryz.underlying99
  a46 := Tryz.isAgg99
  z46 := Tryz.sizeOf99
  v46 := Tryz.zeroValue99
  t51 := Tryz.underlying166
  a51 := Tryz.isAgg166
  z51 := Tryz.sizeOf166
  v51 := Tryz.zeroValue166
  t53 := Tryz.underlying134
  a53 := Tryz.isAgg134
  z53 := Tryz.sizeOf134
  v53 := Tryz.zeroValue134
  t70 := Tryz.underlying119
  a70 := Tryz.isAgg119
  z70 := Tryz.sizeOf119
  v70 := Tryz.zeroValue119
  t72 := Tryz.underlying121
  a72 := Tryz.isAgg121
  z72 := Tryz.sizeOf121
  v72 := Tryz.zeroValue121
  t75 := Tryz.underlying64
  a75 := Tryz.isAgg64
  z75 := Tryz.sizeOf64
  v75 := Tryz.zeroValue64
  t76 := Tryz.underlying65
  a76 := Tryz.isAgg65
  z76 := Tryz.sizeOf65
  v76 := Tryz.zeroValue65
  t109 := Tryz.underlying116
  a109 := Tryz.isAgg116
  z109 := Tryz.sizeOf116
  v109 := Tryz.zeroValue116
  t127 := Tryz.underlying171
  a127 := Tryz.isAgg171
  z127 := Tryz.sizeOf171
  v127 := Tryz.zeroValue171
  t146 := Tryz.underlying167
  a146 := Tryz.isAgg167
  z146 := Tryz.sizeOf167
  v146 := Tryz.zeroValue167
  t148 := Tryz.underlying169
  a148 := Tryz.isAgg169
  z148 := Tryz.sizeOf169
  v148 := Tryz.zeroValue169
  t164 := Tryz.underlying150
  a164 := Tryz.isAgg150
  z164 := Tryz.sizeOf150
  v164 := Tryz.zeroValue150 }
theorem Tryz.Builder_Extra_105 : Builder.Extra Tryz.prog Tryz.lays105_ren := {
  sizeBuilder := by kernel_rfl
  liesBuilder := by kernel_rfl
  t5 := Tryz.underlying5
  a5 := Tryz.isAgg5
  z5 := Tryz.sizeOf5
  v5 := Tryz.zeroValue5
  infoByte := by kernel_rfl
  cellsByte := by kernel_rfl
  sizeByte := by kernel_rfl
  neB5 := by decide }
open Go.RowKit Go.Lib in
theorem Tryz.strings_Repeat (s : ByteArray) (c : Nat) (w : World) (hc : c ≤ 9223372036854775807) (hlen : s.size * c ≤ 140737488355328) :
    Calls Tryz.prog 45 #[.string s, .int .i64 c] w fun e w' => e = .returned (.string ⟨(Lib.repeatL s.data.toList c).toArray⟩) ∧ Below w.heap.size w w' := Any.strings_Repeat Tryz.lays105 Tryz.Builder_Extra_105 s c w hc hlen
def Tryz.keysS_ren : Go.Shelf.Ren := ⟨fun | 7 => 96 | 10 => 118 | n => n, fun | 23 => 108 | 26 => 3 | 3 => 9 | 28 => 162 | 0 => 0 | 27 => 161 | 33 => 77 | 4 => 4 | n => n, fun | n => n⟩
theorem Tryz.keysS : Go.Proofs.SlLaysZI.n7 Tryz.prog Tryz.keysS_ren := {
  mixed := by kernel_rfl
  f7 := ⟨Tryz.f96.name, by decide, Tryz.func96.trans (congrArg some (by kernel_rfl))⟩
  f10 := ⟨Tryz.f118.name, by decide, Tryz.func118.trans (congrArg some (by kernel_rfl))⟩
  t0 := Tryz.underlying0
  a0 := Tryz.isAgg0
  z0 := Tryz.sizeOf0
  v0 := Tryz.zeroValue0
  t4 := Tryz.underlying4
  a4 := Tryz.isAgg4
  z4 := Tryz.sizeOf4
  v4 := Tryz.zeroValue4
  t23 := Tryz.underlying108
  a23 := Tryz.isAgg108
  z23 := Tryz.sizeOf108
  v23 := Tryz.zeroValue108
  t26 := Tryz.underlying3
  a26 := Tryz.isAgg3
  z26 := Tryz.sizeOf3
  v26 := Tryz.zeroValue3
  t27 := Tryz.underlying161
  a27 := Tryz.isAgg161
  z27 := Tryz.sizeOf161
  v27 := Tryz.zeroValue161
  t28 := Tryz.underlying162
  a28 := Tryz.isAgg162
  z28 := Tryz.sizeOf162
  v28 := Tryz.zeroValue162
  t33 := Tryz.underlying77
  a33 := Tryz.isAgg77
  z33 := Tryz.sizeOf77
  v33 := Tryz.zeroValue77 }
def Tryz.sortedI_ren : Go.Shelf.Ren := ⟨fun | 6 => 95 | 8 => 116 | 9 => 117 | 11 => 124 | 13 => 126 | 12 => 125 | 23 => 136 | 24 => 137 | 14 => 127 | 15 => 128 | 16 => 129 | 17 => 130 | 18 => 131 | 19 => 132 | 20 => 133 | 21 => 134 | 22 => 135 | 25 => 138 | 26 => 139 | 27 => 140 | 28 => 141 | 29 => 142 | 30 => 143 | 31 => 144 | n => n, fun | 26 => 3 | 28 => 162 | 24 => 57 | 0 => 0 | 3 => 3 | 37 => 99 | 48 => 166 | 50 => 134 | 4 => 4 | 40 => 195 | 39 => 194 | 45 => 199 | 5 => 5 | 9 => 9 | 51 => 203 | 55 => 207 | 57 => 209 | 58 => 95 | 33 => 77 | n => n, fun | n => n⟩
theorem Tryz.sortedI : Go.Proofs.SlLaysZI.n6 Tryz.prog Tryz.sortedI_ren := {
  mixed := by kernel_rfl
  f6 := ⟨Tryz.f95.name, by decide, Tryz.func95.trans (congrArg some (by kernel_rfl))⟩
  f8 := ⟨Tryz.f116.name, by decide, Tryz.func116.trans (congrArg some (by kernel_rfl))⟩
  f11 := ⟨Tryz.f124.name, by decide, Tryz.func124.trans (congrArg some (by kernel_rfl))⟩
  t0 := Tryz.underlying0
  a0 := Tryz.isAgg0
  z0 := Tryz.sizeOf0
  v0 := Tryz.zeroValue0
  t24 := Tryz.underlying57
  a24 := Tryz.isAgg57
  z24 := Tryz.sizeOf57
  v24 := Tryz.zeroValue57
  t26 := Tryz.underlying3
  a26 := Tryz.isAgg3
  z26 := Tryz.sizeOf3
  v26 := Tryz.zeroValue3
  t28 := Tryz.underlying162
  a28 := Tryz.isAgg162
  z28 := Tryz.sizeOf162
  v28 := Tryz.zeroValue162
  i26 := by kernel_rfl }
def Tryz.sortI_ren : Go.Shelf.Ren := ⟨fun | 5 => 117 | 8 => 126 | 7 => 125 | 19 => 136 | 20 => 137 | 10 => 127 | 11 => 128 | 12 => 129 | 13 => 130 | 14 => 131 | 15 => 132 | 16 => 133 | 17 => 134 | 18 => 135 | 30 => 138 | 31 => 139 | 32 => 140 | 33 => 141 | 34 => 142 | 35 => 143 | 40 => 144 | n => n, fun | 23 => 57 | 25 => 3 | 3 => 3 | 32 => 99 | 22 => 57 | 0 => 0 | 44 => 166 | 46 => 134 | 4 => 4 | 36 => 195 | 35 => 194 | 41 => 199 | 5 => 5 | 9 => 9 | 53 => 203 | 57 => 207 | 63 => 209 | 64 => 95 | n => n, fun | n => n⟩
theorem Tryz.sortI : Go.Proofs.SlLaysM.n5 Tryz.prog Tryz.sortI_ren := {
  mixed := by kernel_rfl
  f5 := ⟨Tryz.f117.name, by decide, Tryz.func117.trans (congrArg some (by kernel_rfl))⟩
  f7 := ⟨Tryz.f125.name, by decide, Tryz.func125.trans (congrArg some (by kernel_rfl))⟩
  f8 := Tryz.func126.trans (congrArg some (by kernel_rfl))
  f10 := ⟨Tryz.f127.name, by decide, Tryz.func127.trans (congrArg some (by kernel_rfl))⟩
  f11 := ⟨Tryz.f128.name, by decide, Tryz.func128.trans (congrArg some (by kernel_rfl))⟩
  f12 := ⟨Tryz.f129.name, by decide, Tryz.func129.trans (congrArg some (by kernel_rfl))⟩
  f13 := ⟨Tryz.f130.name, by decide, Tryz.func130.trans (congrArg some (by kernel_rfl))⟩
  f14 := ⟨Tryz.f131.name, by decide, Tryz.func131.trans (congrArg some (by kernel_rfl))⟩
  f15 := ⟨Tryz.f132.name, by decide, Tryz.func132.trans (congrArg some (by kernel_rfl))⟩
  f16 := ⟨Tryz.f133.name, by decide, Tryz.func133.trans (congrArg some (by kernel_rfl))⟩
  f17 := ⟨Tryz.f134.name, by decide, Tryz.func134.trans (congrArg some (by kernel_rfl))⟩
  f18 := ⟨Tryz.f135.name, by decide, Tryz.func135.trans (congrArg some (by kernel_rfl))⟩
  f19 := Tryz.func136.trans (congrArg some (by kernel_rfl))
  f20 := Tryz.func137.trans (congrArg some (by kernel_rfl))
  f30 := ⟨Tryz.f138.name, by decide, Tryz.func138.trans (congrArg some (by kernel_rfl))⟩
  f31 := Tryz.func139.trans (congrArg some (by kernel_rfl))
  f32 := Tryz.func140.trans (congrArg some (by kernel_rfl))
  f33 := ⟨Tryz.f141.name, by decide, Tryz.func141.trans (congrArg some (by kernel_rfl))⟩
  f34 := ⟨Tryz.f142.name, by decide, Tryz.func142.trans (congrArg some (by kernel_rfl))⟩
  f35 := ⟨Tryz.f143.name, by decide, Tryz.func143.trans (congrArg some (by kernel_rfl))⟩
  f40 := ⟨Tryz.f144.name, by decide, Tryz.func144.trans (congrArg some (by kernel_rfl))⟩
  t0 := Tryz.underlying0
  a0 := Tryz.isAgg0
  z0 := Tryz.sizeOf0
  v0 := Tryz.zeroValue0
  t3 := Tryz.underlying3
  a3 := Tryz.isAgg3
  z3 := Tryz.sizeOf3
  v3 := Tryz.zeroValue3
  t4 := Tryz.underlying4
  a4 := Tryz.isAgg4
  z4 := Tryz.sizeOf4
  v4 := Tryz.zeroValue4
  t5 := Tryz.underlying5
  a5 := Tryz.isAgg5
  z5 := Tryz.sizeOf5
  v5 := Tryz.zeroValue5
  t9 := Tryz.underlying9
  a9 := Tryz.isAgg9
  z9 := Tryz.sizeOf9
  v9 := Tryz.zeroValue9
  t22 := Tryz.underlying57
  a22 := Tryz.isAgg57
  z22 := Tryz.sizeOf57
  v22 := Tryz.zeroValue57
  t23 := Tryz.underlying57
  a23 := Tryz.isAgg57
  z23 := Tryz.sizeOf57
  v23 := Tryz.zeroValue57
  t25 := Tryz.underlying3
  a25 := Tryz.isAgg3
  z25 := Tryz.sizeOf3
  v25 := Tryz.zeroValue3
  t32 := Tryz.underlying99
  a32 := Tryz.isAgg99
  z32 := Tryz.sizeOf99
  v32 := Tryz.zeroValue99
  t35 := Tryz.underlying194
  a35 := Tryz.isAgg194
  z35 := Tryz.sizeOf194
  v35 := Tryz.zeroValue194
  t36 := Tryz.underlying195
  a36 := Tryz.isAgg195
  z36 := Tryz.sizeOf195
  v36 := Tryz.zeroValue195
  t41 := Tryz.underlying199
  a41 := Tryz.isAgg199
  z41 := Tryz.sizeOf199
  v41 := Tryz.zeroValue199
  t44 := Tryz.underlying166
  a44 := Tryz.isAgg166
  z44 := Tryz.sizeOf166
  v44 := Tryz.zeroValue166
  t46 := Tryz.underlying134
  a46 := Tryz.isAgg134
  z46 := Tryz.sizeOf134
  v46 := Tryz.zeroValue134
  t53 := Tryz.underlying203
  a53 := Tryz.isAgg203
  z53 := Tryz.sizeOf203
  v53 := Tryz.zeroValue203
  t57 := Tryz.underlying207
  a57 := Tryz.isAgg207
  z57 := Tryz.sizeOf207
  v57 := Tryz.zeroValue207
  t63 := Tryz.underlying209
  a63 := Tryz.isAgg209
  z63 := Tryz.sizeOf209
  v63 := Tryz.zeroValue209
  t64 := Tryz.underlying95
  a64 := Tryz.isAgg95
  z64 := Tryz.sizeOf95
  v64 := Tryz.zeroValue95 }
end Go.Proofs
