/- The kernel runs Parse at some of the texts. No conditions. -/
import Derived.Test.YtnkbpjmijeeddaaGreatDoorPrTxt
namespace Go.Proofs.YtnkbpjmijeeddaaGreatDoor.pr
open Go Go.RowKit Go.Proofs.YtnkbpjmijeeddaaGreatDoor.Ev
set_option maxRecDepth 100000 in
theorem r0 : (runOf 2 0 1 && runOf 3 0 1 && runOf 3 0 2 && runOf 3 1 2) = true := by kernel_rfl
set_option maxRecDepth 100000 in
theorem r1 : (runOf 4 0 1 && runOf 4 0 2 && runOf 4 0 3 && runOf 4 1 2) = true := by kernel_rfl
set_option maxRecDepth 100000 in
theorem r2 : (runOf 4 1 3 && runOf 4 2 3 && runOf 5 0 1 && runOf 5 0 2) = true := by kernel_rfl
set_option maxRecDepth 100000 in
theorem r3 : (runOf 5 0 3 && runOf 5 0 4 && runOf 5 1 2 && runOf 5 1 3) = true := by kernel_rfl
set_option maxRecDepth 100000 in
theorem r4 : (runOf 5 1 4 && runOf 5 2 3 && runOf 5 2 4 && runOf 5 3 4) = true := by kernel_rfl
end Go.Proofs.YtnkbpjmijeeddaaGreatDoor.pr
