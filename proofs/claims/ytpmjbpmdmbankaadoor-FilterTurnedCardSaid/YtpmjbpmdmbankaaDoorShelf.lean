/-
  Contracts of the library, laid at this program by the shelf's own tool, in plain words.
-/
import Derived.Shelf.Strings.SlTrimAscii
import Derived.Test.YtpmjbpmdmbankaaDoorProg
namespace Go.Proofs.YtpmjbpmdmbankaaDoor
open Go.Shelf
def Tryd.lays160_ren : Go.Shelf.Ren := ⟨fun | 160 => 27 | 232 => 30 | 231 => 29 | 227 => 31 | 234 => 33 | 233 => 32 | 236 => 35 | 235 => 34 | 228 => 36 | 271 => 39 | 151 => 38 | 197 => 37 | 120 => 42 | 152 => 41 | 260 => 40 | 137 => 43 | 119 => 44 | 224 => 45 | 225 => 46 | 217 => 47 | 266 => 48 | n => n, fun | 9 => 9 | 4 => 4 | 3 => 3 | 5 => 5 | 117 => 48 | 116 => 47 | 0 => 0 | 124 => 51 | 21 => 21 | 105 => 53 | 46 => 58 | 119 => 57 | 139 => 61 | 138 => 60 | n => n, fun | 3 => 0 | 4 => 1 | n => n⟩
theorem Tryd.lays160 : Go.Proofs.Lays.n160 Tryd.prog Tryd.lays160_ren := {
  mixed := by kernel_rfl
  f119 := Tryd.func44.trans (congrArg some (by kernel_rfl))
  f120 := Tryd.func42.trans (congrArg some (by kernel_rfl))
  f137 := Tryd.func43.trans (congrArg some (by kernel_rfl))
  f151 := Tryd.func38.trans (congrArg some (by kernel_rfl))
  f152 := Tryd.func41.trans (congrArg some (by kernel_rfl))
  f160 := Tryd.func27.trans (congrArg some (by kernel_rfl))
  f197 := Tryd.func37.trans (congrArg some (by kernel_rfl))
  f217 := Tryd.func47.trans (congrArg some (by kernel_rfl))
  f224 := Tryd.func45.trans (congrArg some (by kernel_rfl))
  f225 := Tryd.func46.trans (congrArg some (by kernel_rfl))
  f227 := Tryd.func31.trans (congrArg some (by kernel_rfl))
  f228 := Tryd.func36.trans (congrArg some (by kernel_rfl))
  f231 := Tryd.func29.trans (congrArg some (by kernel_rfl))
  f232 := Tryd.func30.trans (congrArg some (by kernel_rfl))
  f233 := Tryd.func32.trans (congrArg some (by kernel_rfl))
  f234 := Tryd.func33.trans (congrArg some (by kernel_rfl))
  f235 := Tryd.func34.trans (congrArg some (by kernel_rfl))
  f236 := Tryd.func35.trans (congrArg some (by kernel_rfl))
  f260 := Tryd.func40.trans (congrArg some (by kernel_rfl))
  f266 := Tryd.func48.trans (congrArg some (by kernel_rfl))
  f271 := Tryd.func39.trans (congrArg some (by kernel_rfl))
  t0 := Tryd.underlying0
  a0 := Tryd.isAgg0
  z0 := Tryd.sizeOf0
  v0 := Tryd.zeroValue0
  t3 := Tryd.underlying3
  a3 := Tryd.isAgg3
  z3 := Tryd.sizeOf3
  v3 := Tryd.zeroValue3
  t4 := Tryd.underlying4
  a4 := Tryd.isAgg4
  z4 := Tryd.sizeOf4
  v4 := Tryd.zeroValue4
  t5 := Tryd.underlying5
  a5 := Tryd.isAgg5
  z5 := Tryd.sizeOf5
  v5 := Tryd.zeroValue5
  t9 := Tryd.underlying9
  a9 := Tryd.isAgg9
  z9 := Tryd.sizeOf9
  v9 := Tryd.zeroValue9
  t21 := Tryd.underlying21
  a21 := Tryd.isAgg21
  z21 := Tryd.sizeOf21
  v21 := Tryd.zeroValue21
  t46 := Tryd.underlying58
  a46 := Tryd.isAgg58
  z46 := Tryd.sizeOf58
  v46 := Tryd.zeroValue58
  t105 := Tryd.underlying53
  a105 := Tryd.isAgg53
  z105 := Tryd.sizeOf53
  v105 := Tryd.zeroValue53
  t116 := Tryd.underlying47
  a116 := Tryd.isAgg47
  z116 := Tryd.sizeOf47
  t117 := Tryd.underlying48
  a117 := Tryd.isAgg48
  z117 := Tryd.sizeOf48
  v117 := Tryd.zeroValue48
  t119 := Tryd.underlying57
  a119 := Tryd.isAgg57
  z119 := Tryd.sizeOf57
  t124 := Tryd.underlying51
  a124 := Tryd.isAgg51
  z124 := Tryd.sizeOf51
  v124 := Tryd.zeroValue51
  t138 := Tryd.underlying60
  a138 := Tryd.isAgg60
  z138 := Tryd.sizeOf60
  v138 := Tryd.zeroValue60
  t139 := Tryd.underlying61
  a139 := Tryd.isAgg61
  z139 := Tryd.sizeOf61
  v139 := Tryd.zeroValue61
  g3 := by kernel_rfl
  g4 := by kernel_rfl }
end Go.Proofs.YtpmjbpmdmbankaaDoor
