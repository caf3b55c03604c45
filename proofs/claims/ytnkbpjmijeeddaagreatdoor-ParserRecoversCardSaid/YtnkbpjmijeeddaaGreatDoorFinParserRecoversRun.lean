/- ParserRecovers: the walk, under the names that the card wants. No conditions. -/
import Derived.Test.YtnkbpjmijeeddaaGreatDoorPrLaw
namespace Go.Proofs.YtnkbpjmijeeddaaGreatDoor.parserRecovers
open Go Go.RowKit
theorem maxLen (W : World) (h : W.ShapedOpen Tryz.prog) : ∃ m, W.cell? ⟨0, 0, none⟩ = some (.int .i64 m) := Tryz.laysM143.s1_3 W h
theorem walk {a0 a1 a2 : Int} (_ : -9223372036854775808 ≤ a0 ∧ a0 ≤ 9223372036854775807) (_ : -9223372036854775808 ≤ a1 ∧ a1 ≤ 9223372036854775807) (_ : -9223372036854775808 ≤ a2 ∧ a2 ≤ 9223372036854775807)
    (W : World) (m : Int) (hm : W.cell? ⟨0, 0, none⟩ = some (.int .i64 m)) : Calls Tryz.prog 3 #[.int .i64 a0, .int .i64 a1, .int .i64 a2] W fun en W' => en = .returned (.bool true) ∧ Below W.heap.size W W' := pr.walk W m hm
end Go.Proofs.YtnkbpjmijeeddaaGreatDoor.parserRecovers
