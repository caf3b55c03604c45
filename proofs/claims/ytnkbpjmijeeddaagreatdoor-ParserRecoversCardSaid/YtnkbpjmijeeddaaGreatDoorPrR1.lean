/- The kernel runs Parse at some of the texts. No conditions. -/
import Derived.Test.YtnkbpjmijeeddaaGreatDoorPrTxt
namespace Go.Proofs.YtnkbpjmijeeddaaGreatDoor.pr
open Go Go.RowKit Go.Proofs.YtnkbpjmijeeddaaGreatDoor.Ev
set_option maxRecDepth 100000 in
theorem r5 : (runOf 6 0 1 && runOf 6 0 2 && runOf 6 0 3 && runOf 6 0 4) = true := by kernel_rfl
set_option maxRecDepth 100000 in
theorem r6 : (runOf 6 0 5 && runOf 6 1 2 && runOf 6 1 3 && runOf 6 1 4) = true := by kernel_rfl
set_option maxRecDepth 100000 in
theorem r7 : (runOf 6 1 5 && runOf 6 2 3 && runOf 6 2 4 && runOf 6 2 5) = true := by kernel_rfl
set_option maxRecDepth 100000 in
theorem r8 : (runOf 6 3 4 && runOf 6 3 5 && runOf 6 4 5 && runOf 7 0 1) = true := by kernel_rfl
set_option maxRecDepth 100000 in
theorem r9 : (runOf 7 0 2 && runOf 7 0 3 && runOf 7 0 4 && runOf 7 0 5) = true := by kernel_rfl
end Go.Proofs.YtnkbpjmijeeddaaGreatDoor.pr
