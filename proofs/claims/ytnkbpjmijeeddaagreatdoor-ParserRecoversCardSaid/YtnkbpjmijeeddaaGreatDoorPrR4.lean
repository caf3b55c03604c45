/- The kernel runs Parse at some of the texts. No conditions. -/
import Derived.Test.YtnkbpjmijeeddaaGreatDoorPrTxt
namespace Go.Proofs.YtnkbpjmijeeddaaGreatDoor.pr
open Go Go.RowKit Go.Proofs.YtnkbpjmijeeddaaGreatDoor.Ev
set_option maxRecDepth 100000 in
theorem r20 : (runOf 8 4 7 && runOf 8 5 6 && runOf 8 5 7 && runOf 8 6 7) = true := by kernel_rfl
set_option maxRecDepth 100000 in
theorem r21 : (runOf 9 0 1 && runOf 9 0 2 && runOf 9 0 3 && runOf 9 0 4) = true := by kernel_rfl
set_option maxRecDepth 100000 in
theorem r22 : (runOf 9 0 5 && runOf 9 0 6 && runOf 9 0 7 && runOf 9 0 8) = true := by kernel_rfl
set_option maxRecDepth 100000 in
theorem r23 : (runOf 9 1 2 && runOf 9 1 3 && runOf 9 1 4 && runOf 9 1 5) = true := by kernel_rfl
set_option maxRecDepth 100000 in
theorem r24 : (runOf 9 1 6 && runOf 9 1 7 && runOf 9 1 8 && runOf 9 2 3) = true := by kernel_rfl
end Go.Proofs.YtnkbpjmijeeddaaGreatDoor.pr
