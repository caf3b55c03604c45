/- ScopeImported: some of the kernel's runs. No conditions. -/
import Derived.Test.YtdoddlkppkegnaaGreatDoorEvPrims
import Derived.Test.YtdoddlkppkegnaaGreatDoorEvStart
import Derived.KernelRfl
namespace Go.Proofs.YtdoddlkppkegnaaGreatDoor.scopeImported
open Go Go.RowKit Go.Proofs.YtdoddlkppkegnaaGreatDoor.Ev
set_option maxRecDepth 100000 in
theorem run_f_m7 : evC Tryz.prog (prs []) 1 1000 200 4 (.cons (.bool false) (.cons (.sym 10493) .eol)) (mem0 0) 1 (fun v _ _ => Ev.asBool v fun b => b) (fun _ _ _ => false) = true := by kernel_rfl
set_option maxRecDepth 100000 in
theorem run_f_m6 : evC Tryz.prog (prs []) 1 1000 200 4 (.cons (.bool false) (.cons (.sym 10494) .eol)) (mem0 0) 1 (fun v _ _ => Ev.asBool v fun b => b) (fun _ _ _ => false) = true := by kernel_rfl
set_option maxRecDepth 100000 in
theorem run_f_m5 : evC Tryz.prog (prs []) 1 1000 200 4 (.cons (.bool false) (.cons (.sym 10495) .eol)) (mem0 0) 1 (fun v _ _ => Ev.asBool v fun b => b) (fun _ _ _ => false) = true := by kernel_rfl
set_option maxRecDepth 100000 in
theorem run_f_m4 : evC Tryz.prog (prs []) 1 1000 200 4 (.cons (.bool false) (.cons (.sym 10496) .eol)) (mem0 0) 1 (fun v _ _ => Ev.asBool v fun b => b) (fun _ _ _ => false) = true := by kernel_rfl
set_option maxRecDepth 100000 in
theorem run_f_m3 : evC Tryz.prog (prs []) 1 1000 200 4 (.cons (.bool false) (.cons (.sym 10497) .eol)) (mem0 0) 1 (fun v _ _ => Ev.asBool v fun b => b) (fun _ _ _ => false) = true := by kernel_rfl
set_option maxRecDepth 100000 in
theorem run_f_m2 : evC Tryz.prog (prs []) 1 1000 200 4 (.cons (.bool false) (.cons (.sym 10498) .eol)) (mem0 0) 1 (fun v _ _ => Ev.asBool v fun b => b) (fun _ _ _ => false) = true := by kernel_rfl
set_option maxRecDepth 100000 in
theorem run_f_m1 : evC Tryz.prog (prs []) 1 1000 200 4 (.cons (.bool false) (.cons (.sym 10499) .eol)) (mem0 0) 1 (fun v _ _ => Ev.asBool v fun b => b) (fun _ _ _ => false) = true := by kernel_rfl
set_option maxRecDepth 100000 in
theorem run_f_0 : evC Tryz.prog (prs []) 1 1000 200 4 (.cons (.bool false) (.cons (.sym 10500) .eol)) (mem0 0) 1 (fun v _ _ => Ev.asBool v fun b => b) (fun _ _ _ => false) = true := by kernel_rfl
set_option maxRecDepth 100000 in
theorem run_f_1 : evC Tryz.prog (prs []) 1 1000 200 4 (.cons (.bool false) (.cons (.sym 10501) .eol)) (mem0 0) 1 (fun v _ _ => Ev.asBool v fun b => b) (fun _ _ _ => false) = true := by kernel_rfl
end Go.Proofs.YtdoddlkppkegnaaGreatDoor.scopeImported
