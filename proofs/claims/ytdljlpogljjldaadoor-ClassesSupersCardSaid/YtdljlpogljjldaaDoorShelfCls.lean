/- The shelf's contract of strconv.Itoa, at this program (laid by the kit's tools; the rest left out). No conditions. -/
import Derived.Shelf.Strconv.Itoa0
import Derived.Shelf.Strconv.Itoa1
import Derived.Shelf.LaysM
import Derived.Shelf.Strconv.Itoa2
import Derived.Shelf.Strconv.Itoa3
import Derived.Test.YtdljlpogljjldaaDoorProg
namespace Go.Proofs
open Go.Shelf
def Tryd.lays243_ren : Go.Shelf.Ren := ⟨fun | 243 => 35 | 246 => 48 | 283 => 59 | 284 => 60 | 285 => 61 | 286 => 62 | 129 => 67 | 317 => 66 | 318 => 68 | 319 => 69 | 320 => 70 | 337 => 73 | 338 => 74 | n => n, fun | 3 => 3 | 9 => 9 | 2 => 2 | 4 => 4 | 171 => 107 | 0 => 0 | 53 => 108 | 37 => 111 | 5 => 5 | 173 => 112 | 212 => 118 | 51 => 119 | 20 => 20 | 213 => 120 | 46 => 122 | 232 => 127 | 233 => 128 | n => n, fun | 17 => 1 | 18 => 2 | 19 => 3 | n => n⟩
theorem Tryd.lays243 : Go.Proofs.Lays.n243 Tryd.prog Tryd.lays243_ren := {
  mixed := by kernel_rfl
  f129 := Tryd.func67.trans (congrArg some (by kernel_rfl))
  f243 := Tryd.func35.trans (congrArg some (by kernel_rfl))
  f246 := Tryd.func48.trans (congrArg some (by kernel_rfl))
  f283 := Tryd.func59.trans (congrArg some (by kernel_rfl))
  f284 := Tryd.func60.trans (congrArg some (by kernel_rfl))
  f285 := Tryd.func61.trans (congrArg some (by kernel_rfl))
  f286 := Tryd.func62.trans (congrArg some (by kernel_rfl))
  f317 := Tryd.func66.trans (congrArg some (by kernel_rfl))
  f318 := Tryd.func68.trans (congrArg some (by kernel_rfl))
  f319 := Tryd.func69.trans (congrArg some (by kernel_rfl))
  f320 := Tryd.func70.trans (congrArg some (by kernel_rfl))
  f337 := Tryd.func73.trans (congrArg some (by kernel_rfl))
  f338 := Tryd.func74.trans (congrArg some (by kernel_rfl))
  t0 := Tryd.underlying0
  a0 := Tryd.isAgg0
  z0 := Tryd.sizeOf0
  v0 := Tryd.zeroValue0
  t2 := Tryd.underlying2
  a2 := Tryd.isAgg2
  z2 := Tryd.sizeOf2
  v2 := Tryd.zeroValue2
  t3 := Tryd.underlying3
  a3 := Tryd.isAgg3
  z3 := Tryd.sizeOf3
  v3 := Tryd.zeroValue3
  t4 := Tryd.underlying4
  a4 := Tryd.isAgg4
  z4 := Tryd.sizeOf4
  v4 := Tryd.zeroValue4
  t5 := Tryd.underlying5
  a5 := Tryd.isAgg5
  z5 := Tryd.sizeOf5
  v5 := Tryd.zeroValue5
  t9 := Tryd.underlying9
  a9 := Tryd.isAgg9
  z9 := Tryd.sizeOf9
  v9 := Tryd.zeroValue9
  t20 := Tryd.underlying20
  a20 := Tryd.isAgg20
  z20 := Tryd.sizeOf20
  v20 := Tryd.zeroValue20
  t37 := Tryd.underlying111
  a37 := Tryd.isAgg111
  z37 := Tryd.sizeOf111
  v37 := Tryd.zeroValue111
  t46 := Tryd.underlying122
  a46 := Tryd.isAgg122
  z46 := Tryd.sizeOf122
  v46 := Tryd.zeroValue122
  t51 := Tryd.underlying119
  a51 := Tryd.isAgg119
  z51 := Tryd.sizeOf119
  v51 := Tryd.zeroValue119
  t53 := Tryd.underlying108
  a53 := Tryd.isAgg108
  z53 := Tryd.sizeOf108
  v53 := Tryd.zeroValue108
  t171 := Tryd.underlying107
  a171 := Tryd.isAgg107
  z171 := Tryd.sizeOf107
  v171 := Tryd.zeroValue107
  t173 := Tryd.underlying112
  a173 := Tryd.isAgg112
  z173 := Tryd.sizeOf112
  v173 := Tryd.zeroValue112
  t212 := Tryd.underlying118
  a212 := Tryd.isAgg118
  z212 := Tryd.sizeOf118
  v212 := Tryd.zeroValue118
  t213 := Tryd.underlying120
  a213 := Tryd.isAgg120
  z213 := Tryd.sizeOf120
  t232 := Tryd.underlying127
  a232 := Tryd.isAgg127
  z232 := Tryd.sizeOf127
  v232 := Tryd.zeroValue127
  t233 := Tryd.underlying128
  a233 := Tryd.isAgg128
  z233 := Tryd.sizeOf128
  v233 := Tryd.zeroValue128
  g17 := by kernel_rfl
  g18 := by kernel_rfl
  g19 := by kernel_rfl }
open Go.RowKit Go.Sort Go.Lib in
/-- THE ROAD WITHOUT THE TABLE: 0 <= i < 100. (LAID: no walk: one application.) -/
theorem Tryd.internal_strconv_Itoa_small (i : Nat) (hi : i < 100) (w : World) :
    Calls Tryd.prog 35 #[.int .i64 i] w fun e w' => e = .returned (.string ⟨(Lib.decDigits i).toArray⟩) ∧ w' = w := Any.internal_strconv_Itoa_small Tryd.lays243 i hi w
def Tryd.lays171_ren : Go.Shelf.Ren := ⟨fun | 171 => 21 | 243 => 35 | 246 => 48 | 283 => 59 | 284 => 60 | 285 => 61 | 286 => 62 | 129 => 67 | 317 => 66 | 318 => 68 | 319 => 69 | 320 => 70 | 337 => 73 | 338 => 74 | n => n, fun | 3 => 3 | 9 => 9 | 2 => 2 | 4 => 4 | 171 => 107 | 0 => 0 | 53 => 108 | 37 => 111 | 5 => 5 | 173 => 112 | 212 => 118 | 51 => 119 | 20 => 20 | 213 => 120 | 46 => 122 | 232 => 127 | 233 => 128 | n => n, fun | 17 => 1 | 18 => 2 | 19 => 3 | n => n⟩
theorem Tryd.lays171 : Go.Proofs.Lays.n171 Tryd.prog Tryd.lays171_ren := {
  mixed := by kernel_rfl
  f129 := Tryd.func67.trans (congrArg some (by kernel_rfl))
  f171 := Tryd.func21.trans (congrArg some (by kernel_rfl))
  f243 := Tryd.func35.trans (congrArg some (by kernel_rfl))
  f246 := Tryd.func48.trans (congrArg some (by kernel_rfl))
  f283 := Tryd.func59.trans (congrArg some (by kernel_rfl))
  f284 := Tryd.func60.trans (congrArg some (by kernel_rfl))
  f285 := Tryd.func61.trans (congrArg some (by kernel_rfl))
  f286 := Tryd.func62.trans (congrArg some (by kernel_rfl))
  f317 := Tryd.func66.trans (congrArg some (by kernel_rfl))
  f318 := Tryd.func68.trans (congrArg some (by kernel_rfl))
  f319 := Tryd.func69.trans (congrArg some (by kernel_rfl))
  f320 := Tryd.func70.trans (congrArg some (by kernel_rfl))
  f337 := Tryd.func73.trans (congrArg some (by kernel_rfl))
  f338 := Tryd.func74.trans (congrArg some (by kernel_rfl))
  t0 := Tryd.underlying0
  a0 := Tryd.isAgg0
  z0 := Tryd.sizeOf0
  v0 := Tryd.zeroValue0
  t2 := Tryd.underlying2
  a2 := Tryd.isAgg2
  z2 := Tryd.sizeOf2
  v2 := Tryd.zeroValue2
  t3 := Tryd.underlying3
  a3 := Tryd.isAgg3
  z3 := Tryd.sizeOf3
  v3 := Tryd.zeroValue3
  t4 := Tryd.underlying4
  a4 := Tryd.isAgg4
  z4 := Tryd.sizeOf4
  v4 := Tryd.zeroValue4
  t5 := Tryd.underlying5
  a5 := Tryd.isAgg5
  z5 := Tryd.sizeOf5
  v5 := Tryd.zeroValue5
  t9 := Tryd.underlying9
  a9 := Tryd.isAgg9
  z9 := Tryd.sizeOf9
  v9 := Tryd.zeroValue9
  t20 := Tryd.underlying20
  a20 := Tryd.isAgg20
  z20 := Tryd.sizeOf20
  v20 := Tryd.zeroValue20
  t37 := Tryd.underlying111
  a37 := Tryd.isAgg111
  z37 := Tryd.sizeOf111
  v37 := Tryd.zeroValue111
  t46 := Tryd.underlying122
  a46 := Tryd.isAgg122
  z46 := Tryd.sizeOf122
  v46 := Tryd.zeroValue122
  t51 := Tryd.underlying119
  a51 := Tryd.isAgg119
  z51 := Tryd.sizeOf119
  v51 := Tryd.zeroValue119
  t53 := Tryd.underlying108
  a53 := Tryd.isAgg108
  z53 := Tryd.sizeOf108
  v53 := Tryd.zeroValue108
  t171 := Tryd.underlying107
  a171 := Tryd.isAgg107
  z171 := Tryd.sizeOf107
  v171 := Tryd.zeroValue107
  t173 := Tryd.underlying112
  a173 := Tryd.isAgg112
  z173 := Tryd.sizeOf112
  v173 := Tryd.zeroValue112
  t212 := Tryd.underlying118
  a212 := Tryd.isAgg118
  z212 := Tryd.sizeOf118
  v212 := Tryd.zeroValue118
  t213 := Tryd.underlying120
  a213 := Tryd.isAgg120
  z213 := Tryd.sizeOf120
  t232 := Tryd.underlying127
  a232 := Tryd.isAgg127
  z232 := Tryd.sizeOf127
  v232 := Tryd.zeroValue127
  t233 := Tryd.underlying128
  a233 := Tryd.isAgg128
  z233 := Tryd.sizeOf128
  v233 := Tryd.zeroValue128
  g17 := by kernel_rfl
  g18 := by kernel_rfl
  g19 := by kernel_rfl }
open Go.RowKit Go.Sort Go.Lib in
/-- THE ROAD WITHOUT THE TABLE: 0 <= i < 100: NO PREMISE ON THE WORLD, AND THE WORLD IS AS IT WAS: a row that keeps its argument in that range need list no table ('laid = []'). (LAID: no walk: one application.) -/
theorem Tryd.strconv_Itoa_small (i : Nat) (hi : i < 100) (w : World) :
    Calls Tryd.prog 21 #[.int .i64 i] w fun e w' => e = .returned (.string ⟨(Lib.decDigits i).toArray⟩) ∧ w' = w := Any.strconv_Itoa_small Tryd.lays171 i hi w
end Go.Proofs
