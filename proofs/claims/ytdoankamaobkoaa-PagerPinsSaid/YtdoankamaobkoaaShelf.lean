/- The contracts of the library's functions that are called, at this translation's numbers: laid by the kit's own tools (lay-shelf.mjs, lay-plain.mjs); what is not needed has been left out. -/
import Derived.Shelf.SlIterI.Nil
import Derived.Shelf.SortM.Plain
import Derived.Shelf.SortM.SortNone
import Derived.Ground.GgzProg
import Derived.Ground.SlgmProg
import Derived.Shelf.Strings.Builder1
import Derived.Shelf.Strings.Builder2
import Derived.Shelf.Small.Bits
import Derived.Shelf.Small.Wraps
import Derived.Shelf.Strings.BuilderF
import Derived.Shelf.Strings.BuilderK
import Derived.Shelf.Strings.Builder2Cap
import Derived.Shelf.Strconv.Itoa0
import Derived.Shelf.Sort.Plain
import Derived.Shelf.Strings.Prefix
import Derived.Shelf.Bits.Mul64
import Derived.Shelf.Strings.Repeat
import Derived.Shelf.Strings.BuilderCap
import Derived.Ground.Names2Prog
import Derived.Shelf.Slices.SearchI
import Derived.Shelf.Slices.In.SortNone
import Derived.Ground.SlsfProg
import Derived.Shelf.SlSortCmp.Insertion
import Derived.Shelf.SlSortCmp.SiftDown1
import Derived.Shelf.SlSortCmp.HeapSort1
import Derived.Shelf.SlSortCmp.Insertion1
import Derived.Shelf.SlSortCmp.Median1
import Derived.Shelf.SlSortCmp.Pivot1
import Derived.Shelf.SlSortCmp.ReverseRange1
import Derived.Shelf.SlSortCmp.PartialInsertion1
import Derived.Shelf.SlSortCmp.PartitionEqual1
import Derived.Shelf.SlSortCmp.Partition1
import Derived.Shelf.SlSortCmp.Pdq1
import Derived.Shelf.SlSortCmp.Whole1
import Derived.Shelf.SlSortCmp.NoneTotal
import Derived.Test.YtdoankamaobkoaaProg
namespace Go.Proofs
open Go.Shelf
def Try.lays212_ren : Go.Shelf.Ren := ⟨fun | 212 => 29 | 263 => 44 | 264 => 45 | n => n, fun | 46 => 65 | 51 => 81 | 146 => 82 | 53 => 84 | 148 => 85 | n => n, fun | n => n⟩
theorem Try.lays212 : Go.Proofs.Lays.n212 Try.prog Try.lays212_ren := {
  mixed := by kernel_rfl
  f212 := Try.func29.trans (congrArg some (by kernel_rfl))
  f263 := Try.func44.trans (congrArg some (by kernel_rfl))
  f264 := Try.func45.trans (congrArg some (by kernel_rfl))
  t46 := Try.underlying65
  a46 := Try.isAgg65
  z46 := Try.sizeOf65
  v46 := Try.zeroValue65
  t51 := Try.underlying81
  a51 := Try.isAgg81
  z51 := Try.sizeOf81
  v51 := Try.zeroValue81
  t53 := Try.underlying84
  a53 := Try.isAgg84
  z53 := Try.sizeOf84
  v53 := Try.zeroValue84
  t146 := Try.underlying82
  a146 := Try.isAgg82
  z146 := Try.sizeOf82
  v146 := Try.zeroValue82
  t148 := Try.underlying85
  a148 := Try.isAgg85
  z148 := Try.sizeOf85
  v148 := Try.zeroValue85 }
open Go.RowKit Go.Lib in
theorem Try.bits_Mul (x y : Nat) (hx : x < 18446744073709551616) (hy : y < 18446744073709551616) (w : World) :
    Calls Try.prog 29 #[.int .u64 x, .int .u64 y] w fun e w' => e = .returned (.tuple #[.int .u64 ((x * y / 18446744073709551616 : Nat) : Int), .int .u64 ((x * y % 18446744073709551616 : Nat) : Int)]) ∧ w' = w := Any.bits_Mul Try.lays212 x y hx hy w
def Try.lays105_ren : Go.Shelf.Ren := ⟨fun | 105 => 16 | 212 => 29 | 99 => 30 | 165 => 31 | 166 => 32 | 170 => 33 | 169 => 34 | 263 => 44 | 264 => 45 | 206 => 46 | 240 => 47 | 241 => 48 | 276 => 56 | 277 => 57 | n => n, fun | 9 => 9 | 3 => 3 | 4 => 4 | 20 => 20 | 0 => 0 | 46 => 65 | 109 => 66 | 5 => 5 | 72 => 71 | 76 => 75 | 51 => 81 | 146 => 82 | 53 => 84 | 148 => 85 | 70 => 69 | 37 => 22 | 75 => 74 | 127 => 87 | 164 => 92 | 80 => 77 | n => n, fun | n => n⟩
theorem Try.lays105 : Go.Proofs.Lays.n105 Try.prog Try.lays105_ren := {
  mixed := by kernel_rfl
  f99 := Try.func30.trans (congrArg some (by kernel_rfl))
  f105 := Try.func16.trans (congrArg some (by kernel_rfl))
  f165 := Try.func31.trans (congrArg some (by kernel_rfl))
  f166 := Try.func32.trans (congrArg some (by kernel_rfl))
  f169 := Try.func34.trans (congrArg some (by kernel_rfl))
  f170 := Try.func33.trans (congrArg some (by kernel_rfl))
  f206 := Try.func46.trans (congrArg some (by kernel_rfl))
  f212 := Try.func29.trans (congrArg some (by kernel_rfl))
  f240 := Try.func47.trans (congrArg some (by kernel_rfl))
  f241 := Try.func48.trans (congrArg some (by kernel_rfl))
  f263 := Try.func44.trans (congrArg some (by kernel_rfl))
  f264 := Try.func45.trans (congrArg some (by kernel_rfl))
  f276 := Try.func56.trans (congrArg some (by kernel_rfl))
  f277 := Try.func57.trans (congrArg some (by kernel_rfl))
  t0 := Try.underlying0
  a0 := Try.isAgg0
  z0 := Try.sizeOf0
  v0 := Try.zeroValue0
  t3 := Try.underlying3
  a3 := Try.isAgg3
  z3 := Try.sizeOf3
  v3 := Try.zeroValue3
  t4 := Try.underlying4
  a4 := Try.isAgg4
  z4 := Try.sizeOf4
  v4 := Try.zeroValue4
  t5 := Try.underlying5
  a5 := Try.isAgg5
  z5 := Try.sizeOf5
  v5 := Try.zeroValue5
  t9 := Try.underlying9
  a9 := Try.isAgg9
  z9 := Try.sizeOf9
  v9 := Try.zeroValue9
  t20 := Try.underlying20
  a20 := Try.isAgg20
  z20 := Try.sizeOf20
  v20 := Try.zeroValue20
  t37 := Try.underlying22
  a37 := Try.isAgg22
  z37 := Try.sizeOf22
  v37 := Try.zeroValue22
  t46 := Try.underlying65
  a46 := Try.isAgg65
  z46 := Try.sizeOf65
  v46 := Try.zeroValue65
  t51 := Try.underlying81
  a51 := Try.isAgg81
  z51 := Try.sizeOf81
  v51 := Try.zeroValue81
  t53 := Try.underlying84
  a53 := Try.isAgg84
  z53 := Try.sizeOf84
  v53 := Try.zeroValue84
  t70 := Try.underlying69
  a70 := Try.isAgg69
  z70 := Try.sizeOf69
  v70 := Try.zeroValue69
  t72 := Try.underlying71
  a72 := Try.isAgg71
  z72 := Try.sizeOf71
  v72 := Try.zeroValue71
  t75 := Try.underlying74
  a75 := Try.isAgg74
  z75 := Try.sizeOf74
  v75 := Try.zeroValue74
  t76 := Try.underlying75
  a76 := Try.isAgg75
  z76 := Try.sizeOf75
  v76 := Try.zeroValue75
  t109 := Try.underlying66
  a109 := Try.isAgg66
  z109 := Try.sizeOf66
  v109 := Try.zeroValue66
  t127 := Try.underlying87
  a127 := Try.isAgg87
  z127 := Try.sizeOf87
  v127 := Try.zeroValue87
  t146 := Try.underlying82
  a146 := Try.isAgg82
  z146 := Try.sizeOf82
  v146 := Try.zeroValue82
  t148 := Try.underlying85
  a148 := Try.isAgg85
  z148 := Try.sizeOf85
  v148 := Try.zeroValue85
  t164 := Try.underlying92
  a164 := Try.isAgg92
  z164 := Try.sizeOf92
  v164 := Try.zeroValue92 }
theorem Try.Builder_Extra_105 : Builder.Extra Try.prog Try.lays105_ren := {
  sizeBuilder := by kernel_rfl
  liesBuilder := by kernel_rfl
  t5 := Try.underlying5
  a5 := Try.isAgg5
  z5 := Try.sizeOf5
  v5 := Try.zeroValue5
  infoByte := by kernel_rfl
  cellsByte := by kernel_rfl
  sizeByte := by kernel_rfl
  neB5 := by decide }
open Go.RowKit Go.Lib in
theorem Try.strings_Repeat (s : ByteArray) (c : Nat) (w : World) (hc : c ≤ 9223372036854775807) (hlen : s.size * c ≤ 140737488355328) :
    Calls Try.prog 16 #[.string s, .int .i64 c] w fun e w' => e = .returned (.string ⟨(Lib.repeatL s.data.toList c).toArray⟩) ∧ Below w.heap.size w w' := Any.strings_Repeat Try.lays105 Try.Builder_Extra_105 s c w hc hlen
def Try.laysSlF6_f42_ren : Go.Shelf.Ren := ⟨fun | 6 => 42 | 15 => 54 | 14 => 55 | 28 => 67 | 29 => 68 | 20 => 69 | 21 => 70 | 22 => 71 | 23 => 72 | 24 => 73 | 25 => 74 | 26 => 75 | 27 => 76 | 46 => 83 | 47 => 78 | 48 => 79 | 49 => 84 | 50 => 85 | 57 => 87 | n => n, fun | 22 => 38 | 24 => 3 | 25 => 64 | 3 => 3 | 39 => 65 | 0 => 0 | 53 => 81 | 55 => 84 | 4 => 4 | 46 => 97 | 45 => 96 | 50 => 102 | 5 => 5 | 9 => 9 | 66 => 111 | 70 => 115 | 76 => 119 | 77 => 120 | n => n, fun | n => n⟩
theorem Try.laysSlF6_f42 : Go.Proofs.SlLaysF.n6 Try.prog Try.laysSlF6_f42_ren := {
  mixed := by kernel_rfl
  f6 := ⟨Try.f42.name, by decide, Try.func42.trans (congrArg some (by kernel_rfl))⟩
  f14 := ⟨Try.f55.name, by decide, Try.func55.trans (congrArg some (by kernel_rfl))⟩
  f15 := Try.func54.trans (congrArg some (by kernel_rfl))
  f20 := ⟨Try.f69.name, by decide, Try.func69.trans (congrArg some (by kernel_rfl))⟩
  f21 := ⟨Try.f70.name, by decide, Try.func70.trans (congrArg some (by kernel_rfl))⟩
  f22 := ⟨Try.f71.name, by decide, Try.func71.trans (congrArg some (by kernel_rfl))⟩
  f23 := ⟨Try.f72.name, by decide, Try.func72.trans (congrArg some (by kernel_rfl))⟩
  f24 := ⟨Try.f73.name, by decide, Try.func73.trans (congrArg some (by kernel_rfl))⟩
  f25 := ⟨Try.f74.name, by decide, Try.func74.trans (congrArg some (by kernel_rfl))⟩
  f26 := ⟨Try.f75.name, by decide, Try.func75.trans (congrArg some (by kernel_rfl))⟩
  f27 := ⟨Try.f76.name, by decide, Try.func76.trans (congrArg some (by kernel_rfl))⟩
  f28 := Try.func67.trans (congrArg some (by kernel_rfl))
  f29 := Try.func68.trans (congrArg some (by kernel_rfl))
  f46 := ⟨Try.f83.name, by decide, Try.func83.trans (congrArg some (by kernel_rfl))⟩
  f47 := Try.func78.trans (congrArg some (by kernel_rfl))
  f48 := Try.func79.trans (congrArg some (by kernel_rfl))
  f49 := ⟨Try.f84.name, by decide, Try.func84.trans (congrArg some (by kernel_rfl))⟩
  f50 := ⟨Try.f85.name, by decide, Try.func85.trans (congrArg some (by kernel_rfl))⟩
  f57 := ⟨Try.f87.name, by decide, Try.func87.trans (congrArg some (by kernel_rfl))⟩
  t0 := Try.underlying0
  a0 := Try.isAgg0
  z0 := Try.sizeOf0
  v0 := Try.zeroValue0
  t3 := Try.underlying3
  a3 := Try.isAgg3
  z3 := Try.sizeOf3
  v3 := Try.zeroValue3
  t4 := Try.underlying4
  a4 := Try.isAgg4
  z4 := Try.sizeOf4
  v4 := Try.zeroValue4
  t5 := Try.underlying5
  a5 := Try.isAgg5
  z5 := Try.sizeOf5
  v5 := Try.zeroValue5
  t9 := Try.underlying9
  a9 := Try.isAgg9
  z9 := Try.sizeOf9
  v9 := Try.zeroValue9
  t22 := Try.underlying38
  a22 := Try.isAgg38
  z22 := Try.sizeOf38
  v22 := Try.zeroValue38
  a24 := Try.isAgg3
  z24 := Try.sizeOf3
  t25 := Try.underlying64
  a25 := Try.isAgg64
  z25 := Try.sizeOf64
  v25 := Try.zeroValue64
  t39 := Try.underlying65
  a39 := Try.isAgg65
  z39 := Try.sizeOf65
  v39 := Try.zeroValue65
  t45 := Try.underlying96
  a45 := Try.isAgg96
  z45 := Try.sizeOf96
  v45 := Try.zeroValue96
  t46 := Try.underlying97
  a46 := Try.isAgg97
  z46 := Try.sizeOf97
  v46 := Try.zeroValue97
  t50 := Try.underlying102
  a50 := Try.isAgg102
  z50 := Try.sizeOf102
  v50 := Try.zeroValue102
  t53 := Try.underlying81
  a53 := Try.isAgg81
  z53 := Try.sizeOf81
  v53 := Try.zeroValue81
  t55 := Try.underlying84
  a55 := Try.isAgg84
  z55 := Try.sizeOf84
  v55 := Try.zeroValue84
  t66 := Try.underlying111
  a66 := Try.isAgg111
  z66 := Try.sizeOf111
  v66 := Try.zeroValue111
  t70 := Try.underlying115
  a70 := Try.isAgg115
  z70 := Try.sizeOf115
  v70 := Try.zeroValue115
  t76 := Try.underlying119
  a76 := Try.isAgg119
  z76 := Try.sizeOf119
  v76 := Try.zeroValue119
  t77 := Try.underlying120
  a77 := Try.isAgg120
  z77 := Try.sizeOf120
  v77 := Try.zeroValue120 }
def Try.laysSlF06_f42_ren : Go.Shelf.Ren := ⟨fun | 6 => 42 | 15 => 54 | 14 => 55 | 28 => 67 | 29 => 68 | 20 => 69 | 21 => 70 | 22 => 71 | 23 => 72 | 24 => 73 | 25 => 74 | 26 => 75 | 27 => 76 | 46 => 83 | 47 => 78 | 48 => 79 | 49 => 84 | 50 => 85 | 57 => 87 | n => n, fun | 22 => 38 | 24 => 3 | 25 => 64 | 3 => 3 | 39 => 65 | 0 => 0 | 53 => 81 | 55 => 84 | 4 => 4 | 46 => 97 | 45 => 96 | 50 => 102 | 5 => 5 | 9 => 9 | 66 => 111 | 70 => 115 | 76 => 119 | 77 => 120 | n => n, fun | n => n⟩
theorem Try.laysSlF06_f42 : Go.Proofs.SlLaysF0.n6 Try.prog Try.laysSlF06_f42_ren := {
  mixed := by kernel_rfl
  f6 := ⟨Try.f42.name, by decide, Try.func42.trans (congrArg some (by kernel_rfl))⟩
  f14 := ⟨Try.f55.name, by decide, Try.func55.trans (congrArg some (by kernel_rfl))⟩
  f15 := Try.func54.trans (congrArg some (by kernel_rfl))
  f20 := ⟨Try.f69.name, by decide, Try.func69.trans (congrArg some (by kernel_rfl))⟩
  f21 := ⟨Try.f70.name, by decide, Try.func70.trans (congrArg some (by kernel_rfl))⟩
  f22 := ⟨Try.f71.name, by decide, Try.func71.trans (congrArg some (by kernel_rfl))⟩
  f23 := ⟨Try.f72.name, by decide, Try.func72.trans (congrArg some (by kernel_rfl))⟩
  f24 := ⟨Try.f73.name, by decide, Try.func73.trans (congrArg some (by kernel_rfl))⟩
  f25 := ⟨Try.f74.name, by decide, Try.func74.trans (congrArg some (by kernel_rfl))⟩
  f26 := ⟨Try.f75.name, by decide, Try.func75.trans (congrArg some (by kernel_rfl))⟩
  f27 := ⟨Try.f76.name, by decide, Try.func76.trans (congrArg some (by kernel_rfl))⟩
  f28 := Try.func67.trans (congrArg some (by kernel_rfl))
  f29 := Try.func68.trans (congrArg some (by kernel_rfl))
  f46 := ⟨Try.f83.name, by decide, Try.func83.trans (congrArg some (by kernel_rfl))⟩
  f47 := Try.func78.trans (congrArg some (by kernel_rfl))
  f48 := Try.func79.trans (congrArg some (by kernel_rfl))
  f49 := ⟨Try.f84.name, by decide, Try.func84.trans (congrArg some (by kernel_rfl))⟩
  f50 := ⟨Try.f85.name, by decide, Try.func85.trans (congrArg some (by kernel_rfl))⟩
  f57 := ⟨Try.f87.name, by decide, Try.func87.trans (congrArg some (by kernel_rfl))⟩
  t0 := Try.underlying0
  a0 := Try.isAgg0
  z0 := Try.sizeOf0
  v0 := Try.zeroValue0
  t3 := Try.underlying3
  a3 := Try.isAgg3
  z3 := Try.sizeOf3
  v3 := Try.zeroValue3
  t4 := Try.underlying4
  a4 := Try.isAgg4
  z4 := Try.sizeOf4
  v4 := Try.zeroValue4
  t5 := Try.underlying5
  a5 := Try.isAgg5
  z5 := Try.sizeOf5
  v5 := Try.zeroValue5
  t9 := Try.underlying9
  a9 := Try.isAgg9
  z9 := Try.sizeOf9
  v9 := Try.zeroValue9
  t22 := Try.underlying38
  a22 := Try.isAgg38
  z22 := Try.sizeOf38
  v22 := Try.zeroValue38
  t25 := Try.underlying64
  a25 := Try.isAgg64
  z25 := Try.sizeOf64
  v25 := Try.zeroValue64
  t39 := Try.underlying65
  a39 := Try.isAgg65
  z39 := Try.sizeOf65
  v39 := Try.zeroValue65
  t45 := Try.underlying96
  a45 := Try.isAgg96
  z45 := Try.sizeOf96
  v45 := Try.zeroValue96
  t46 := Try.underlying97
  a46 := Try.isAgg97
  z46 := Try.sizeOf97
  v46 := Try.zeroValue97
  t50 := Try.underlying102
  a50 := Try.isAgg102
  z50 := Try.sizeOf102
  v50 := Try.zeroValue102
  t53 := Try.underlying81
  a53 := Try.isAgg81
  z53 := Try.sizeOf81
  v53 := Try.zeroValue81
  t55 := Try.underlying84
  a55 := Try.isAgg84
  z55 := Try.sizeOf84
  v55 := Try.zeroValue84
  t66 := Try.underlying111
  a66 := Try.isAgg111
  z66 := Try.sizeOf111
  v66 := Try.zeroValue111
  t70 := Try.underlying115
  a70 := Try.isAgg115
  z70 := Try.sizeOf115
  v70 := Try.zeroValue115
  t76 := Try.underlying119
  a76 := Try.isAgg119
  z76 := Try.sizeOf119
  v76 := Try.zeroValue119
  t77 := Try.underlying120
  a77 := Try.isAgg120
  z77 := Try.sizeOf120
  v77 := Try.zeroValue120 }
open Go.RowKit Go.Lib Go.Sort in
theorem Try.slices_SortFunc_none {α : Type} [Inhabited α] (p : Option Addr) (cap : Nat) (fv : Value) (w : World) :
    Calls Try.prog 42 #[.slice p 0 cap, fv] w fun e w' => e = .returned (.tuple #[]) ∧ w' = w := AnyF.slices_SortFunc_none Try.laysSlF06_f42 p cap fv w
open Go.RowKit Go.Lib Go.Sort in
theorem Try.slices_SortFunc_total {α : Type} [Inhabited α] (enc : α → Value) (h1 : OneCell enc) (cf : α → α → Int) (hO : SWO (ltOf cf)) (g : Nat) (cb : Array Value) (blk off cap : Nat) (d : Array α) (w : World) (eg : ∀ args w, (callFunc g args).run Try.prog w = .ok (.enter g args) w) (hcmp : CmpLays1 Try.prog g cb enc cf blk off d.size w) (hH : Holds enc w blk off d) (hblk : blk < w.heap.size) (hsz : d.size < 4611686018427387904) (hT : ∀ x y, (ltOf cf) x y = false → (ltOf cf) y x = false → x = y) :
    Calls Try.prog 42 #[.slice (some ⟨blk, off, none⟩) d.size cap, .func (.func g) #[] cb] w fun e w' =>
      e = .returned (.tuple #[]) ∧ ∃ n os, w' = sortWorld enc w blk off n (d.toList.mergeSort fun x y => !(ltOf cf) y x).toArray os := Any.slices_SortFunc_total Try.laysSlF6_f42 enc h1 cf hO g cb blk off cap d w eg hcmp hH hblk hsz hT
def Try.keysS_ren : Go.Shelf.Ren := ⟨fun | 7 => 25 | 10 => 41 | n => n, fun | 23 => 48 | 26 => 3 | 3 => 9 | 28 => 60 | 0 => 0 | 27 => 59 | 33 => 40 | 4 => 4 | n => n, fun | n => n⟩
theorem Try.keysS : Go.Proofs.SlLaysZI.n7 Try.prog Try.keysS_ren := {
  mixed := by kernel_rfl
  f7 := ⟨Try.f25.name, by decide, Try.func25.trans (congrArg some (by kernel_rfl))⟩
  f10 := ⟨Try.f41.name, by decide, Try.func41.trans (congrArg some (by kernel_rfl))⟩
  t0 := Try.underlying0
  a0 := Try.isAgg0
  z0 := Try.sizeOf0
  v0 := Try.zeroValue0
  t4 := Try.underlying4
  a4 := Try.isAgg4
  z4 := Try.sizeOf4
  v4 := Try.zeroValue4
  t23 := Try.underlying48
  a23 := Try.isAgg48
  z23 := Try.sizeOf48
  v23 := Try.zeroValue48
  t26 := Try.underlying3
  a26 := Try.isAgg3
  z26 := Try.sizeOf3
  v26 := Try.zeroValue3
  t27 := Try.underlying59
  a27 := Try.isAgg59
  z27 := Try.sizeOf59
  v27 := Try.zeroValue59
  t28 := Try.underlying60
  a28 := Try.isAgg60
  z28 := Try.sizeOf60
  v28 := Try.zeroValue60
  t33 := Try.underlying40
  a33 := Try.isAgg40
  z33 := Try.sizeOf40
  v33 := Try.zeroValue40 }
def Try.keysP_ren : Go.Shelf.Ren := ⟨fun | 7 => 27 | 10 => 43 | n => n, fun | 23 => 47 | 26 => 3 | 3 => 52 | 28 => 60 | 0 => 0 | 27 => 59 | 33 => 40 | 4 => 4 | n => n, fun | n => n⟩
theorem Try.keysP : Go.Proofs.SlLaysZI.n7 Try.prog Try.keysP_ren := {
  mixed := by kernel_rfl
  f7 := ⟨Try.f27.name, by decide, Try.func27.trans (congrArg some (by kernel_rfl))⟩
  f10 := ⟨Try.f43.name, by decide, Try.func43.trans (congrArg some (by kernel_rfl))⟩
  t0 := Try.underlying0
  a0 := Try.isAgg0
  z0 := Try.sizeOf0
  v0 := Try.zeroValue0
  t4 := Try.underlying4
  a4 := Try.isAgg4
  z4 := Try.sizeOf4
  v4 := Try.zeroValue4
  t23 := Try.underlying47
  a23 := Try.isAgg47
  z23 := Try.sizeOf47
  v23 := Try.zeroValue47
  t26 := Try.underlying3
  a26 := Try.isAgg3
  z26 := Try.sizeOf3
  v26 := Try.zeroValue3
  t27 := Try.underlying59
  a27 := Try.isAgg59
  z27 := Try.sizeOf59
  v27 := Try.zeroValue59
  t28 := Try.underlying60
  a28 := Try.isAgg60
  z28 := Try.sizeOf60
  v28 := Try.zeroValue60
  t33 := Try.underlying40
  a33 := Try.isAgg40
  z33 := Try.sizeOf40
  v33 := Try.zeroValue40 }
def Try.sortedI_ren : Go.Shelf.Ren := ⟨fun | 6 => 24 | 8 => 39 | 9 => 40 | 11 => 52 | 13 => 54 | 12 => 53 | 23 => 67 | 24 => 68 | 14 => 58 | 15 => 59 | 16 => 60 | 17 => 61 | 18 => 62 | 19 => 63 | 20 => 64 | 21 => 65 | 22 => 66 | 25 => 77 | 26 => 78 | 27 => 79 | 28 => 80 | 29 => 81 | 30 => 82 | 31 => 86 | n => n, fun | 26 => 3 | 28 => 60 | 24 => 38 | 0 => 0 | 3 => 3 | 37 => 65 | 48 => 81 | 50 => 84 | 4 => 4 | 40 => 97 | 39 => 96 | 45 => 102 | 5 => 5 | 9 => 9 | 51 => 111 | 55 => 115 | 57 => 119 | 58 => 120 | 33 => 40 | n => n, fun | n => n⟩
theorem Try.sortedI : Go.Proofs.SlLaysZI.n6 Try.prog Try.sortedI_ren := {
  mixed := by kernel_rfl
  f6 := ⟨Try.f24.name, by decide, Try.func24.trans (congrArg some (by kernel_rfl))⟩
  f8 := ⟨Try.f39.name, by decide, Try.func39.trans (congrArg some (by kernel_rfl))⟩
  f11 := ⟨Try.f52.name, by decide, Try.func52.trans (congrArg some (by kernel_rfl))⟩
  t0 := Try.underlying0
  a0 := Try.isAgg0
  z0 := Try.sizeOf0
  v0 := Try.zeroValue0
  t24 := Try.underlying38
  a24 := Try.isAgg38
  z24 := Try.sizeOf38
  v24 := Try.zeroValue38
  t26 := Try.underlying3
  a26 := Try.isAgg3
  z26 := Try.sizeOf3
  v26 := Try.zeroValue3
  t28 := Try.underlying60
  a28 := Try.isAgg60
  z28 := Try.sizeOf60
  v28 := Try.zeroValue60
  i26 := by kernel_rfl }
def Try.sortI_ren : Go.Shelf.Ren := ⟨fun | 5 => 40 | 8 => 54 | 7 => 53 | 19 => 67 | 20 => 68 | 10 => 58 | 11 => 59 | 12 => 60 | 13 => 61 | 14 => 62 | 15 => 63 | 16 => 64 | 17 => 65 | 18 => 66 | 30 => 77 | 31 => 78 | 32 => 79 | 33 => 80 | 34 => 81 | 35 => 82 | 40 => 86 | n => n, fun | 23 => 38 | 25 => 3 | 3 => 3 | 32 => 65 | 22 => 38 | 0 => 0 | 44 => 81 | 46 => 84 | 4 => 4 | 36 => 97 | 35 => 96 | 41 => 102 | 5 => 5 | 9 => 9 | 53 => 111 | 57 => 115 | 63 => 119 | 64 => 120 | n => n, fun | n => n⟩
theorem Try.sortI : Go.Proofs.SlLaysM.n5 Try.prog Try.sortI_ren := {
  mixed := by kernel_rfl
  f5 := ⟨Try.f40.name, by decide, Try.func40.trans (congrArg some (by kernel_rfl))⟩
  f7 := ⟨Try.f53.name, by decide, Try.func53.trans (congrArg some (by kernel_rfl))⟩
  f8 := Try.func54.trans (congrArg some (by kernel_rfl))
  f10 := ⟨Try.f58.name, by decide, Try.func58.trans (congrArg some (by kernel_rfl))⟩
  f11 := ⟨Try.f59.name, by decide, Try.func59.trans (congrArg some (by kernel_rfl))⟩
  f12 := ⟨Try.f60.name, by decide, Try.func60.trans (congrArg some (by kernel_rfl))⟩
  f13 := ⟨Try.f61.name, by decide, Try.func61.trans (congrArg some (by kernel_rfl))⟩
  f14 := ⟨Try.f62.name, by decide, Try.func62.trans (congrArg some (by kernel_rfl))⟩
  f15 := ⟨Try.f63.name, by decide, Try.func63.trans (congrArg some (by kernel_rfl))⟩
  f16 := ⟨Try.f64.name, by decide, Try.func64.trans (congrArg some (by kernel_rfl))⟩
  f17 := ⟨Try.f65.name, by decide, Try.func65.trans (congrArg some (by kernel_rfl))⟩
  f18 := ⟨Try.f66.name, by decide, Try.func66.trans (congrArg some (by kernel_rfl))⟩
  f19 := Try.func67.trans (congrArg some (by kernel_rfl))
  f20 := Try.func68.trans (congrArg some (by kernel_rfl))
  f30 := ⟨Try.f77.name, by decide, Try.func77.trans (congrArg some (by kernel_rfl))⟩
  f31 := Try.func78.trans (congrArg some (by kernel_rfl))
  f32 := Try.func79.trans (congrArg some (by kernel_rfl))
  f33 := ⟨Try.f80.name, by decide, Try.func80.trans (congrArg some (by kernel_rfl))⟩
  f34 := ⟨Try.f81.name, by decide, Try.func81.trans (congrArg some (by kernel_rfl))⟩
  f35 := ⟨Try.f82.name, by decide, Try.func82.trans (congrArg some (by kernel_rfl))⟩
  f40 := ⟨Try.f86.name, by decide, Try.func86.trans (congrArg some (by kernel_rfl))⟩
  t0 := Try.underlying0
  a0 := Try.isAgg0
  z0 := Try.sizeOf0
  v0 := Try.zeroValue0
  t3 := Try.underlying3
  a3 := Try.isAgg3
  z3 := Try.sizeOf3
  v3 := Try.zeroValue3
  t4 := Try.underlying4
  a4 := Try.isAgg4
  z4 := Try.sizeOf4
  v4 := Try.zeroValue4
  t5 := Try.underlying5
  a5 := Try.isAgg5
  z5 := Try.sizeOf5
  v5 := Try.zeroValue5
  t9 := Try.underlying9
  a9 := Try.isAgg9
  z9 := Try.sizeOf9
  v9 := Try.zeroValue9
  t22 := Try.underlying38
  a22 := Try.isAgg38
  z22 := Try.sizeOf38
  v22 := Try.zeroValue38
  t23 := Try.underlying38
  a23 := Try.isAgg38
  z23 := Try.sizeOf38
  v23 := Try.zeroValue38
  t25 := Try.underlying3
  a25 := Try.isAgg3
  z25 := Try.sizeOf3
  v25 := Try.zeroValue3
  t32 := Try.underlying65
  a32 := Try.isAgg65
  z32 := Try.sizeOf65
  v32 := Try.zeroValue65
  t35 := Try.underlying96
  a35 := Try.isAgg96
  z35 := Try.sizeOf96
  v35 := Try.zeroValue96
  t36 := Try.underlying97
  a36 := Try.isAgg97
  z36 := Try.sizeOf97
  v36 := Try.zeroValue97
  t41 := Try.underlying102
  a41 := Try.isAgg102
  z41 := Try.sizeOf102
  v41 := Try.zeroValue102
  t44 := Try.underlying81
  a44 := Try.isAgg81
  z44 := Try.sizeOf81
  v44 := Try.zeroValue81
  t46 := Try.underlying84
  a46 := Try.isAgg84
  z46 := Try.sizeOf84
  v46 := Try.zeroValue84
  t53 := Try.underlying111
  a53 := Try.isAgg111
  z53 := Try.sizeOf111
  v53 := Try.zeroValue111
  t57 := Try.underlying115
  a57 := Try.isAgg115
  z57 := Try.sizeOf115
  v57 := Try.zeroValue115
  t63 := Try.underlying119
  a63 := Try.isAgg119
  z63 := Try.sizeOf119
  v63 := Try.zeroValue119
  t64 := Try.underlying120
  a64 := Try.isAgg120
  z64 := Try.sizeOf120
  v64 := Try.zeroValue120 }
end Go.Proofs
