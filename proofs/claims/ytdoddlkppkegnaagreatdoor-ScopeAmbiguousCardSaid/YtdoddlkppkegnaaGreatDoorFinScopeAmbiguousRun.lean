/- ScopeAmbiguous: the kernel runs the law at each input; what it finds holds in the model. No conditions. -/
import Derived.Test.YtdoddlkppkegnaaGreatDoorEvPrims
import Derived.Test.YtdoddlkppkegnaaGreatDoorEvStart
import Derived.KernelRfl
namespace Go.Proofs.YtdoddlkppkegnaaGreatDoor.scopeAmbiguous
open Go Go.RowKit Go.Proofs.YtdoddlkppkegnaaGreatDoor.Ev
theorem maxLen (W : World) (h : W.ShapedOpen Tryz.prog) : ∃ m, W.cell? ⟨0, 0, none⟩ = some (.int .i64 m) := Tryz.laysM143.s1_3 W h
set_option maxRecDepth 100000 in
theorem run_true_true : evC Tryz.prog prs 1 1000 200 5 (.cons (.bool true) (.cons (.bool true) .eol)) (mem0 0) 1 (fun v _ _ => Ev.asBool v fun b => b) (fun _ _ _ => false) = true := by kernel_rfl
set_option maxRecDepth 100000 in
theorem run_true_false : evC Tryz.prog prs 1 1000 200 5 (.cons (.bool true) (.cons (.bool false) .eol)) (mem0 0) 1 (fun v _ _ => Ev.asBool v fun b => b) (fun _ _ _ => false) = true := by kernel_rfl
set_option maxRecDepth 100000 in
theorem run_false_true : evC Tryz.prog prs 1 1000 200 5 (.cons (.bool false) (.cons (.bool true) .eol)) (mem0 0) 1 (fun v _ _ => Ev.asBool v fun b => b) (fun _ _ _ => false) = true := by kernel_rfl
set_option maxRecDepth 100000 in
theorem run_false_false : evC Tryz.prog prs 1 1000 200 5 (.cons (.bool false) (.cons (.bool false) .eol)) (mem0 0) 1 (fun v _ _ => Ev.asBool v fun b => b) (fun _ _ _ => false) = true := by kernel_rfl
theorem run : ∀ (a0 : Bool) (a1 : Bool), evC Tryz.prog prs 1 1000 200 5 (.cons (.bool a0) (.cons (.bool a1) .eol)) (mem0 0) 1 (fun v _ _ => Ev.asBool v fun b => b) (fun _ _ _ => false) = true
  | true, true => run_true_true
  | true, false => run_true_false
  | false, true => run_false_true
  | false, false => run_false_false
theorem walk (a0 : Bool) (a1 : Bool) (W : World) (m : Int) (hm : W.cell? ⟨0, 0, none⟩ = some (.int .i64 m)) : Calls Tryz.prog 5 #[.bool a0, .bool a1] W fun en W' => en = .returned (.bool true) ∧ Below W.heap.size W W' :=
  says_true (sy := fun _ => .int .i64 m) (prs_ok rfl) (k := 0) (G := 1) (nx := 1) (L := 1000) (n := 200) (args := [.bool a0, .bool a1]) (Nat.lt_succ_self 0) (Nat.le_refl 1) (by unfold top; omega) (run a0 a1) (World.block_lt_of_cell? _ _ hm) rfl hm (.cons (.bool a0) (.cons (.bool a1) .eol)) (enters Tryz.func5 (by kernel_rfl) (by kernel_rfl) _ W)
end Go.Proofs.YtdoddlkppkegnaaGreatDoor.scopeAmbiguous
