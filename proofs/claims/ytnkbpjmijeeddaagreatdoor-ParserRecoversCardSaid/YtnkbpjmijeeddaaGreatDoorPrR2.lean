/- The kernel runs Parse at some of the texts. No conditions. -/
import Derived.Test.YtnkbpjmijeeddaaGreatDoorPrTxt
namespace Go.Proofs.YtnkbpjmijeeddaaGreatDoor.pr
open Go Go.RowKit Go.Proofs.YtnkbpjmijeeddaaGreatDoor.Ev
set_option maxRecDepth 100000 in
theorem r10 : (runOf 7 0 6 && runOf 7 1 2 && runOf 7 1 3 && runOf 7 1 4) = true := by kernel_rfl
set_option maxRecDepth 100000 in
theorem r11 : (runOf 7 1 5 && runOf 7 1 6 && runOf 7 2 3 && runOf 7 2 4) = true := by kernel_rfl
set_option maxRecDepth 100000 in
theorem r12 : (runOf 7 2 5 && runOf 7 2 6 && runOf 7 3 4 && runOf 7 3 5) = true := by kernel_rfl
set_option maxRecDepth 100000 in
theorem r13 : (runOf 7 3 6 && runOf 7 4 5 && runOf 7 4 6 && runOf 7 5 6) = true := by kernel_rfl
set_option maxRecDepth 100000 in
theorem r14 : (runOf 8 0 1 && runOf 8 0 2 && runOf 8 0 3 && runOf 8 0 4) = true := by kernel_rfl
end Go.Proofs.YtnkbpjmijeeddaaGreatDoor.pr
