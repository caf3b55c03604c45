/- The kernel runs Parse at some of the texts. No conditions. -/
import Derived.Test.YtnkbpjmijeeddaaGreatDoorPrTxt
namespace Go.Proofs.YtnkbpjmijeeddaaGreatDoor.pr
open Go Go.RowKit Go.Proofs.YtnkbpjmijeeddaaGreatDoor.Ev
set_option maxRecDepth 100000 in
theorem r15 : (runOf 8 0 5 && runOf 8 0 6 && runOf 8 0 7 && runOf 8 1 2) = true := by kernel_rfl
set_option maxRecDepth 100000 in
theorem r16 : (runOf 8 1 3 && runOf 8 1 4 && runOf 8 1 5 && runOf 8 1 6) = true := by kernel_rfl
set_option maxRecDepth 100000 in
theorem r17 : (runOf 8 1 7 && runOf 8 2 3 && runOf 8 2 4 && runOf 8 2 5) = true := by kernel_rfl
set_option maxRecDepth 100000 in
theorem r18 : (runOf 8 2 6 && runOf 8 2 7 && runOf 8 3 4 && runOf 8 3 5) = true := by kernel_rfl
set_option maxRecDepth 100000 in
theorem r19 : (runOf 8 3 6 && runOf 8 3 7 && runOf 8 4 5 && runOf 8 4 6) = true := by kernel_rfl
end Go.Proofs.YtnkbpjmijeeddaaGreatDoor.pr
