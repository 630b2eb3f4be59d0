/-
  The numbers at which the library's sort of integers lies in this program.
-/
import Derived.Shelf.SortM.Plain
import Derived.Shelf.SortM.SortNone
import Derived.Test.YtodkhoclbhdihaaDoorProg
namespace Go.Proofs.YtodkhoclbhdihaaDoor
open Go.RowKit Go.Sort Go.Shelf

def sortRen : Go.Shelf.Ren := ⟨fun | 5 => 21 | 8 => 35 | 7 => 34 | 19 => 60 | 20 => 61 | 10 => 51 | 11 => 52 | 12 => 53 | 13 => 54 | 14 => 55 | 15 => 56 | 16 => 57 | 17 => 58 | 18 => 59 | 30 => 72 | 31 => 73 | 32 => 74 | 33 => 75 | 34 => 76 | 35 => 77 | 40 => 82 | n => n, fun | 23 => 43 | 25 => 3 | 3 => 3 | 32 => 96 | 22 => 43 | 0 => 0 | 44 => 114 | 46 => 119 | 4 => 4 | 36 => 135 | 35 => 134 | 41 => 106 | 5 => 5 | 9 => 9 | 53 => 164 | 57 => 168 | 63 => 177 | 64 => 112 | n => n, fun | n => n⟩
theorem sortLays : Go.Proofs.SlLaysM.n5 Tryd.prog sortRen := {
  mixed := by kernel_rfl
  f5 := ⟨Tryd.f21.name, by decide, Tryd.func21.trans (congrArg some (by kernel_rfl))⟩
  f7 := ⟨Tryd.f34.name, by decide, Tryd.func34.trans (congrArg some (by kernel_rfl))⟩
  f8 := Tryd.func35.trans (congrArg some (by kernel_rfl))
  f10 := ⟨Tryd.f51.name, by decide, Tryd.func51.trans (congrArg some (by kernel_rfl))⟩
  f11 := ⟨Tryd.f52.name, by decide, Tryd.func52.trans (congrArg some (by kernel_rfl))⟩
  f12 := ⟨Tryd.f53.name, by decide, Tryd.func53.trans (congrArg some (by kernel_rfl))⟩
  f13 := ⟨Tryd.f54.name, by decide, Tryd.func54.trans (congrArg some (by kernel_rfl))⟩
  f14 := ⟨Tryd.f55.name, by decide, Tryd.func55.trans (congrArg some (by kernel_rfl))⟩
  f15 := ⟨Tryd.f56.name, by decide, Tryd.func56.trans (congrArg some (by kernel_rfl))⟩
  f16 := ⟨Tryd.f57.name, by decide, Tryd.func57.trans (congrArg some (by kernel_rfl))⟩
  f17 := ⟨Tryd.f58.name, by decide, Tryd.func58.trans (congrArg some (by kernel_rfl))⟩
  f18 := ⟨Tryd.f59.name, by decide, Tryd.func59.trans (congrArg some (by kernel_rfl))⟩
  f19 := Tryd.func60.trans (congrArg some (by kernel_rfl))
  f20 := Tryd.func61.trans (congrArg some (by kernel_rfl))
  f30 := ⟨Tryd.f72.name, by decide, Tryd.func72.trans (congrArg some (by kernel_rfl))⟩
  f31 := Tryd.func73.trans (congrArg some (by kernel_rfl))
  f32 := Tryd.func74.trans (congrArg some (by kernel_rfl))
  f33 := ⟨Tryd.f75.name, by decide, Tryd.func75.trans (congrArg some (by kernel_rfl))⟩
  f34 := ⟨Tryd.f76.name, by decide, Tryd.func76.trans (congrArg some (by kernel_rfl))⟩
  f35 := ⟨Tryd.f77.name, by decide, Tryd.func77.trans (congrArg some (by kernel_rfl))⟩
  f40 := ⟨Tryd.f82.name, by decide, Tryd.func82.trans (congrArg some (by kernel_rfl))⟩
  t0 := Tryd.underlying0
  a0 := Tryd.isAgg0
  z0 := Tryd.sizeOf0
  v0 := Tryd.zeroValue0
  t3 := Tryd.underlying3
  a3 := Tryd.isAgg3
  z3 := Tryd.sizeOf3
  v3 := Tryd.zeroValue3
  t4 := Tryd.underlying4
  a4 := Tryd.isAgg4
  z4 := Tryd.sizeOf4
  v4 := Tryd.zeroValue4
  t5 := Tryd.underlying5
  a5 := Tryd.isAgg5
  z5 := Tryd.sizeOf5
  v5 := Tryd.zeroValue5
  t9 := Tryd.underlying9
  a9 := Tryd.isAgg9
  z9 := Tryd.sizeOf9
  v9 := Tryd.zeroValue9
  t22 := Tryd.underlying43
  a22 := Tryd.isAgg43
  z22 := Tryd.sizeOf43
  v22 := Tryd.zeroValue43
  t23 := Tryd.underlying43
  a23 := Tryd.isAgg43
  z23 := Tryd.sizeOf43
  v23 := Tryd.zeroValue43
  t25 := Tryd.underlying3
  a25 := Tryd.isAgg3
  z25 := Tryd.sizeOf3
  v25 := Tryd.zeroValue3
  t32 := Tryd.underlying96
  a32 := Tryd.isAgg96
  z32 := Tryd.sizeOf96
  v32 := Tryd.zeroValue96
  t35 := Tryd.underlying134
  a35 := Tryd.isAgg134
  z35 := Tryd.sizeOf134
  v35 := Tryd.zeroValue134
  t36 := Tryd.underlying135
  a36 := Tryd.isAgg135
  z36 := Tryd.sizeOf135
  v36 := Tryd.zeroValue135
  t41 := Tryd.underlying106
  a41 := Tryd.isAgg106
  z41 := Tryd.sizeOf106
  v41 := Tryd.zeroValue106
  t44 := Tryd.underlying114
  a44 := Tryd.isAgg114
  z44 := Tryd.sizeOf114
  v44 := Tryd.zeroValue114
  t46 := Tryd.underlying119
  a46 := Tryd.isAgg119
  z46 := Tryd.sizeOf119
  v46 := Tryd.zeroValue119
  t53 := Tryd.underlying164
  a53 := Tryd.isAgg164
  z53 := Tryd.sizeOf164
  v53 := Tryd.zeroValue164
  t57 := Tryd.underlying168
  a57 := Tryd.isAgg168
  z57 := Tryd.sizeOf168
  v57 := Tryd.zeroValue168
  t63 := Tryd.underlying177
  a63 := Tryd.isAgg177
  z63 := Tryd.sizeOf177
  v63 := Tryd.zeroValue177
  t64 := Tryd.underlying112
  a64 := Tryd.isAgg112
  z64 := Tryd.sizeOf112
  v64 := Tryd.zeroValue112 }
end Go.Proofs.YtodkhoclbhdihaaDoor
