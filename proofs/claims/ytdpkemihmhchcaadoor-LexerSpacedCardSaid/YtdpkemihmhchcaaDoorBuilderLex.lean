/- strings.Builder's WriteString at this program, by the shelf's contract, laid by hand. -/
import Derived.Shelf.Strings.Builder1
import Derived.Test.YtdpkemihmhchcaaDoorShelfLex
namespace Go.Proofs.YtdpkemihmhchcaaDoor
open Go.RowKit Go.Shelf

def bren : Go.Shelf.Ren := ⟨fun | 166 => 7 | 240 => 22 | 276 => 46 | n => n, fun | 0 => 0 | 3 => 3 | 4 => 4 | 9 => 9 | 20 => 20 | 37 => 28 | 70 => 27 | 72 => 30 | 75 => 34 | 164 => 73 | 80 => 38 | 5 => 5 | n => n, fun | n => n⟩
theorem blays : Go.Proofs.Lays.n166 Tryd.prog bren := {
  mixed := by kernel_rfl
  f166 := Tryd.func7.trans (congrArg some (by kernel_rfl))
  f240 := Tryd.func22.trans (congrArg some (by kernel_rfl))
  f276 := Tryd.func46.trans (congrArg some (by kernel_rfl))
  t0 := Tryd.underlying0
  a0 := Tryd.isAgg0
  z0 := Tryd.sizeOf0
  v0 := Tryd.zeroValue0
  t3 := Tryd.underlying3
  a3 := Tryd.isAgg3
  z3 := Tryd.sizeOf3
  v3 := Tryd.zeroValue3
  t4 := Tryd.underlying4
  a4 := Tryd.isAgg4
  z4 := Tryd.sizeOf4
  v4 := Tryd.zeroValue4
  t9 := Tryd.underlying9
  a9 := Tryd.isAgg9
  z9 := Tryd.sizeOf9
  v9 := Tryd.zeroValue9
  t20 := Tryd.underlying20
  a20 := Tryd.isAgg20
  z20 := Tryd.sizeOf20
  v20 := Tryd.zeroValue20
  t37 := Tryd.underlying28
  a37 := Tryd.isAgg28
  z37 := Tryd.sizeOf28
  v37 := Tryd.zeroValue28
  t70 := Tryd.underlying27
  a70 := Tryd.isAgg27
  z70 := Tryd.sizeOf27
  v70 := Tryd.zeroValue27
  t72 := Tryd.underlying30
  a72 := Tryd.isAgg30
  z72 := Tryd.sizeOf30
  v72 := Tryd.zeroValue30
  t75 := Tryd.underlying34
  a75 := Tryd.isAgg34
  z75 := Tryd.sizeOf34
  v75 := Tryd.zeroValue34
  t164 := Tryd.underlying73
  a164 := Tryd.isAgg73
  z164 := Tryd.sizeOf73
  v164 := Tryd.zeroValue73 }
theorem bextra : Builder.Extra Tryd.prog bren := {
  sizeBuilder := by kernel_rfl
  liesBuilder := by kernel_rfl
  t5 := Tryd.underlying5
  a5 := Tryd.isAgg5
  z5 := Tryd.sizeOf5
  v5 := Tryd.zeroValue5
  infoByte := by kernel_rfl
  cellsByte := by kernel_rfl
  sizeByte := by kernel_rfl
  neB5 := by decide }
theorem writeString (B b : Nat) (bs : List Value) (s : ByteArray) (w : World) (h : Lib.IsBuilder 30 5 B b bs w) (hlen : bs.length + s.size ≤ 140737488355328) (hBw : B ≤ w.heap.size) :
    Calls Tryd.prog 7 #[.pointer (some ⟨b, 0, none⟩), .string s] w fun e w' => e = .returned (.tuple #[.int .i64 s.size, .nilIface]) ∧ Lib.IsBuilder 30 5 B b (bs ++ Lib.strCells s) w' ∧ Below B w w' :=
  (Any.Builder_WriteString blays bextra B b bs s w h hlen hBw).mono fun _ _ ⟨he, hb, hw⟩ => ⟨he, .inr hb, hw⟩
end Go.Proofs.YtdpkemihmhchcaaDoor
