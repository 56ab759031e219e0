/-
The kit's contracts of slices.Sorted and slices.Sort, laid at this program by its own tool.
-/
import Derived.Shelf.SlIterI.Sorted
import Derived.Shelf.SortM.Plain
import Derived.Shelf.SortM.SortNone
import Derived.Shelf.SlGeneric
import Derived.Test.YtdjemlkllbhdlaaGreatProg
namespace Go.Proofs.YtdjemlkllbhdlaaGreat
open Go.Shelf
def laySorted_ren : Go.Shelf.Ren := ⟨fun | 6 => 82 | 8 => 97 | 9 => 98 | 11 => 115 | 13 => 117 | 12 => 116 | 23 => 134 | 24 => 135 | 14 => 125 | 15 => 126 | 16 => 127 | 17 => 128 | 18 => 129 | 19 => 130 | 20 => 131 | 21 => 132 | 22 => 133 | 25 => 136 | 26 => 137 | 27 => 138 | 28 => 139 | 29 => 140 | 30 => 141 | 31 => 142 | n => n, fun | 26 => 3 | 28 => 112 | 24 => 22 | 0 => 0 | 3 => 3 | 37 => 126 | 48 => 137 | 50 => 45 | 4 => 4 | 40 => 146 | 39 => 145 | 45 => 149 | 5 => 5 | 9 => 9 | 51 => 153 | 55 => 157 | 57 => 159 | 58 => 75 | 33 => 54 | n => n, fun | n => n⟩
theorem laySorted : Go.Proofs.SlLaysZI.n6 Tryz.prog laySorted_ren := {
  mixed := by kernel_rfl
  f6 := ⟨Tryz.f82.name, by decide, Tryz.func82.trans (congrArg some (by kernel_rfl))⟩
  f8 := ⟨Tryz.f97.name, by decide, Tryz.func97.trans (congrArg some (by kernel_rfl))⟩
  f11 := ⟨Tryz.f115.name, by decide, Tryz.func115.trans (congrArg some (by kernel_rfl))⟩
  t0 := Tryz.underlying0
  a0 := Tryz.isAgg0
  z0 := Tryz.sizeOf0
  v0 := Tryz.zeroValue0
  t24 := Tryz.underlying22
  a24 := Tryz.isAgg22
  z24 := Tryz.sizeOf22
  v24 := Tryz.zeroValue22
  t26 := Tryz.underlying3
  a26 := Tryz.isAgg3
  z26 := Tryz.sizeOf3
  v26 := Tryz.zeroValue3
  t28 := Tryz.underlying112
  a28 := Tryz.isAgg112
  z28 := Tryz.sizeOf112
  v28 := Tryz.zeroValue112
  i26 := by kernel_rfl }
def laySort_ren : Go.Shelf.Ren := ⟨fun | 5 => 98 | 8 => 117 | 7 => 116 | 19 => 134 | 20 => 135 | 10 => 125 | 11 => 126 | 12 => 127 | 13 => 128 | 14 => 129 | 15 => 130 | 16 => 131 | 17 => 132 | 18 => 133 | 30 => 136 | 31 => 137 | 32 => 138 | 33 => 139 | 34 => 140 | 35 => 141 | 40 => 142 | n => n, fun | 23 => 22 | 25 => 3 | 3 => 3 | 32 => 126 | 22 => 22 | 0 => 0 | 44 => 137 | 46 => 45 | 4 => 4 | 36 => 146 | 35 => 145 | 41 => 149 | 5 => 5 | 9 => 9 | 53 => 153 | 57 => 157 | 63 => 159 | 64 => 75 | n => n, fun | n => n⟩
theorem laySort : Go.Proofs.SlLaysM.n5 Tryz.prog laySort_ren := {
  mixed := by kernel_rfl
  f5 := ⟨Tryz.f98.name, by decide, Tryz.func98.trans (congrArg some (by kernel_rfl))⟩
  f7 := ⟨Tryz.f116.name, by decide, Tryz.func116.trans (congrArg some (by kernel_rfl))⟩
  f8 := Tryz.func117.trans (congrArg some (by kernel_rfl))
  f10 := ⟨Tryz.f125.name, by decide, Tryz.func125.trans (congrArg some (by kernel_rfl))⟩
  f11 := ⟨Tryz.f126.name, by decide, Tryz.func126.trans (congrArg some (by kernel_rfl))⟩
  f12 := ⟨Tryz.f127.name, by decide, Tryz.func127.trans (congrArg some (by kernel_rfl))⟩
  f13 := ⟨Tryz.f128.name, by decide, Tryz.func128.trans (congrArg some (by kernel_rfl))⟩
  f14 := ⟨Tryz.f129.name, by decide, Tryz.func129.trans (congrArg some (by kernel_rfl))⟩
  f15 := ⟨Tryz.f130.name, by decide, Tryz.func130.trans (congrArg some (by kernel_rfl))⟩
  f16 := ⟨Tryz.f131.name, by decide, Tryz.func131.trans (congrArg some (by kernel_rfl))⟩
  f17 := ⟨Tryz.f132.name, by decide, Tryz.func132.trans (congrArg some (by kernel_rfl))⟩
  f18 := ⟨Tryz.f133.name, by decide, Tryz.func133.trans (congrArg some (by kernel_rfl))⟩
  f19 := Tryz.func134.trans (congrArg some (by kernel_rfl))
  f20 := Tryz.func135.trans (congrArg some (by kernel_rfl))
  f30 := ⟨Tryz.f136.name, by decide, Tryz.func136.trans (congrArg some (by kernel_rfl))⟩
  f31 := Tryz.func137.trans (congrArg some (by kernel_rfl))
  f32 := Tryz.func138.trans (congrArg some (by kernel_rfl))
  f33 := ⟨Tryz.f139.name, by decide, Tryz.func139.trans (congrArg some (by kernel_rfl))⟩
  f34 := ⟨Tryz.f140.name, by decide, Tryz.func140.trans (congrArg some (by kernel_rfl))⟩
  f35 := ⟨Tryz.f141.name, by decide, Tryz.func141.trans (congrArg some (by kernel_rfl))⟩
  f40 := ⟨Tryz.f142.name, by decide, Tryz.func142.trans (congrArg some (by kernel_rfl))⟩
  t0 := Tryz.underlying0
  a0 := Tryz.isAgg0
  z0 := Tryz.sizeOf0
  v0 := Tryz.zeroValue0
  t3 := Tryz.underlying3
  a3 := Tryz.isAgg3
  z3 := Tryz.sizeOf3
  v3 := Tryz.zeroValue3
  t4 := Tryz.underlying4
  a4 := Tryz.isAgg4
  z4 := Tryz.sizeOf4
  v4 := Tryz.zeroValue4
  t5 := Tryz.underlying5
  a5 := Tryz.isAgg5
  z5 := Tryz.sizeOf5
  v5 := Tryz.zeroValue5
  t9 := Tryz.underlying9
  a9 := Tryz.isAgg9
  z9 := Tryz.sizeOf9
  v9 := Tryz.zeroValue9
  t22 := Tryz.underlying22
  a22 := Tryz.isAgg22
  z22 := Tryz.sizeOf22
  v22 := Tryz.zeroValue22
  t23 := Tryz.underlying22
  a23 := Tryz.isAgg22
  z23 := Tryz.sizeOf22
  v23 := Tryz.zeroValue22
  t25 := Tryz.underlying3
  a25 := Tryz.isAgg3
  z25 := Tryz.sizeOf3
  v25 := Tryz.zeroValue3
  t32 := Tryz.underlying126
  a32 := Tryz.isAgg126
  z32 := Tryz.sizeOf126
  v32 := Tryz.zeroValue126
  t35 := Tryz.underlying145
  a35 := Tryz.isAgg145
  z35 := Tryz.sizeOf145
  v35 := Tryz.zeroValue145
  t36 := Tryz.underlying146
  a36 := Tryz.isAgg146
  z36 := Tryz.sizeOf146
  v36 := Tryz.zeroValue146
  t41 := Tryz.underlying149
  a41 := Tryz.isAgg149
  z41 := Tryz.sizeOf149
  v41 := Tryz.zeroValue149
  t44 := Tryz.underlying137
  a44 := Tryz.isAgg137
  z44 := Tryz.sizeOf137
  v44 := Tryz.zeroValue137
  t46 := Tryz.underlying45
  a46 := Tryz.isAgg45
  z46 := Tryz.sizeOf45
  v46 := Tryz.zeroValue45
  t53 := Tryz.underlying153
  a53 := Tryz.isAgg153
  z53 := Tryz.sizeOf153
  v53 := Tryz.zeroValue153
  t57 := Tryz.underlying157
  a57 := Tryz.isAgg157
  z57 := Tryz.sizeOf157
  v57 := Tryz.zeroValue157
  t63 := Tryz.underlying159
  a63 := Tryz.isAgg159
  z63 := Tryz.sizeOf159
  v63 := Tryz.zeroValue159
  t64 := Tryz.underlying75
  a64 := Tryz.isAgg75
  z64 := Tryz.sizeOf75
  v64 := Tryz.zeroValue75 }
end Go.Proofs.YtdjemlkllbhdlaaGreat
