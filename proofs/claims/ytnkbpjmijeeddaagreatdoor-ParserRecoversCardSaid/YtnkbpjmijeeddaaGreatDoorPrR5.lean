/- The kernel runs Parse at some of the texts. No conditions. -/
import Derived.Test.YtnkbpjmijeeddaaGreatDoorPrTxt
namespace Go.Proofs.YtnkbpjmijeeddaaGreatDoor.pr
open Go Go.RowKit Go.Proofs.YtnkbpjmijeeddaaGreatDoor.Ev
set_option maxRecDepth 100000 in
theorem r25 : (runOf 9 2 4 && runOf 9 2 5 && runOf 9 2 6 && runOf 9 2 7) = true := by kernel_rfl
set_option maxRecDepth 100000 in
theorem r26 : (runOf 9 2 8 && runOf 9 3 4 && runOf 9 3 5 && runOf 9 3 6) = true := by kernel_rfl
set_option maxRecDepth 100000 in
theorem r27 : (runOf 9 3 7 && runOf 9 3 8 && runOf 9 4 5 && runOf 9 4 6) = true := by kernel_rfl
set_option maxRecDepth 100000 in
theorem r28 : (runOf 9 4 7 && runOf 9 4 8 && runOf 9 5 6 && runOf 9 5 7) = true := by kernel_rfl
set_option maxRecDepth 100000 in
theorem r29 : (runOf 9 5 8 && runOf 9 6 7 && runOf 9 6 8 && runOf 9 7 8) = true := by kernel_rfl
end Go.Proofs.YtnkbpjmijeeddaaGreatDoor.pr
