/- ScopeImported: some of the kernel's runs. No conditions. -/
import Derived.Test.YtdoddlkppkegnaaGreatDoorEvPrims
import Derived.Test.YtdoddlkppkegnaaGreatDoorEvStart
import Derived.KernelRfl
namespace Go.Proofs.YtdoddlkppkegnaaGreatDoor.scopeImported
open Go Go.RowKit Go.Proofs.YtdoddlkppkegnaaGreatDoor.Ev
set_option maxRecDepth 100000 in
theorem run_t_1 : evC Tryz.prog (prs []) 1 1000 200 4 (.cons (.bool true) (.cons (.sym 10501) .eol)) (mem0 0) 1 (fun v _ _ => Ev.asBool v fun b => b) (fun _ _ _ => false) = true := by kernel_rfl
set_option maxRecDepth 100000 in
theorem run_t_2 : evC Tryz.prog (prs []) 1 1000 200 4 (.cons (.bool true) (.cons (.sym 10502) .eol)) (mem0 0) 1 (fun v _ _ => Ev.asBool v fun b => b) (fun _ _ _ => false) = true := by kernel_rfl
set_option maxRecDepth 100000 in
theorem run_t_3 : evC Tryz.prog (prs []) 1 1000 200 4 (.cons (.bool true) (.cons (.sym 10503) .eol)) (mem0 0) 1 (fun v _ _ => Ev.asBool v fun b => b) (fun _ _ _ => false) = true := by kernel_rfl
set_option maxRecDepth 100000 in
theorem run_t_4 : evC Tryz.prog (prs []) 1 1000 200 4 (.cons (.bool true) (.cons (.sym 10504) .eol)) (mem0 0) 1 (fun v _ _ => Ev.asBool v fun b => b) (fun _ _ _ => false) = true := by kernel_rfl
set_option maxRecDepth 100000 in
theorem run_t_5 : evC Tryz.prog (prs []) 1 1000 200 4 (.cons (.bool true) (.cons (.sym 10505) .eol)) (mem0 0) 1 (fun v _ _ => Ev.asBool v fun b => b) (fun _ _ _ => false) = true := by kernel_rfl
set_option maxRecDepth 100000 in
theorem run_t_6 : evC Tryz.prog (prs []) 1 1000 200 4 (.cons (.bool true) (.cons (.sym 10506) .eol)) (mem0 0) 1 (fun v _ _ => Ev.asBool v fun b => b) (fun _ _ _ => false) = true := by kernel_rfl
set_option maxRecDepth 100000 in
theorem run_t_7 : evC Tryz.prog (prs []) 1 1000 200 4 (.cons (.bool true) (.cons (.sym 10507) .eol)) (mem0 0) 1 (fun v _ _ => Ev.asBool v fun b => b) (fun _ _ _ => false) = true := by kernel_rfl
set_option maxRecDepth 100000 in
theorem run_t_8 : evC Tryz.prog (prs []) 1 1000 200 4 (.cons (.bool true) (.cons (.sym 10508) .eol)) (mem0 0) 1 (fun v _ _ => Ev.asBool v fun b => b) (fun _ _ _ => false) = true := by kernel_rfl
set_option maxRecDepth 100000 in
theorem run_f_m8 : evC Tryz.prog (prs []) 1 1000 200 4 (.cons (.bool false) (.cons (.sym 10492) .eol)) (mem0 0) 1 (fun v _ _ => Ev.asBool v fun b => b) (fun _ _ _ => false) = true := by kernel_rfl
end Go.Proofs.YtdoddlkppkegnaaGreatDoor.scopeImported
