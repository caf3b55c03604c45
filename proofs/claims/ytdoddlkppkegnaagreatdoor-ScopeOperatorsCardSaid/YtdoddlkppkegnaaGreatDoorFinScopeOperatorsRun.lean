/- ScopeOperators: the kernel runs the law at each input that it tells apart; what it finds holds in the model. No conditions. -/
import Derived.Test.YtdoddlkppkegnaaGreatDoorEvPrims
import Derived.Test.YtdoddlkppkegnaaGreatDoorEvStart
import Derived.KernelRfl
namespace Go.Proofs.YtdoddlkppkegnaaGreatDoor.scopeOperators
open Go Go.RowKit Go.Proofs.YtdoddlkppkegnaaGreatDoor.Ev
theorem maxLen (W : World) (h : W.ShapedOpen Tryz.prog) : ∃ m, W.cell? ⟨0, 0, none⟩ = some (.int .i64 m) := Tryz.laysM143.s1_3 W h
set_option maxRecDepth 100000 in
theorem run_0 : evC Tryz.prog (prs [(1, 0, 9, 0)]) 1 1000 200 3 (.cons (.sym 1) .eol) (mem0 0) 1 (fun v _ _ => Ev.asBool v fun b => b) (fun _ _ _ => false) = true := by kernel_rfl
set_option maxRecDepth 100000 in
theorem run_1 : evC Tryz.prog (prs [(1, 0, 9, 1)]) 1 1000 200 3 (.cons (.sym 1) .eol) (mem0 0) 1 (fun v _ _ => Ev.asBool v fun b => b) (fun _ _ _ => false) = true := by kernel_rfl
set_option maxRecDepth 100000 in
theorem run_2 : evC Tryz.prog (prs [(1, 0, 9, 2)]) 1 1000 200 3 (.cons (.sym 1) .eol) (mem0 0) 1 (fun v _ _ => Ev.asBool v fun b => b) (fun _ _ _ => false) = true := by kernel_rfl
set_option maxRecDepth 100000 in
theorem run_3 : evC Tryz.prog (prs [(1, 0, 9, 3)]) 1 1000 200 3 (.cons (.sym 1) .eol) (mem0 0) 1 (fun v _ _ => Ev.asBool v fun b => b) (fun _ _ _ => false) = true := by kernel_rfl
set_option maxRecDepth 100000 in
theorem run_4 : evC Tryz.prog (prs [(1, 0, 9, 4)]) 1 1000 200 3 (.cons (.sym 1) .eol) (mem0 0) 1 (fun v _ _ => Ev.asBool v fun b => b) (fun _ _ _ => false) = true := by kernel_rfl
set_option maxRecDepth 100000 in
theorem run_5 : evC Tryz.prog (prs [(1, 0, 9, 5)]) 1 1000 200 3 (.cons (.sym 1) .eol) (mem0 0) 1 (fun v _ _ => Ev.asBool v fun b => b) (fun _ _ _ => false) = true := by kernel_rfl
set_option maxRecDepth 100000 in
theorem run_6 : evC Tryz.prog (prs [(1, 0, 9, 6)]) 1 1000 200 3 (.cons (.sym 1) .eol) (mem0 0) 1 (fun v _ _ => Ev.asBool v fun b => b) (fun _ _ _ => false) = true := by kernel_rfl
set_option maxRecDepth 100000 in
theorem run_7 : evC Tryz.prog (prs [(1, 0, 9, 7)]) 1 1000 200 3 (.cons (.sym 1) .eol) (mem0 0) 1 (fun v _ _ => Ev.asBool v fun b => b) (fun _ _ _ => false) = true := by kernel_rfl
set_option maxRecDepth 100000 in
theorem run_8 : evC Tryz.prog (prs [(1, 0, 9, 8)]) 1 1000 200 3 (.cons (.sym 1) .eol) (mem0 0) 1 (fun v _ _ => Ev.asBool v fun b => b) (fun _ _ _ => false) = true := by kernel_rfl
set_option maxRecDepth 100000 in
theorem run_9 : evC Tryz.prog (prs [(1, 0, 9, 9)]) 1 1000 200 3 (.cons (.sym 1) .eol) (mem0 0) 1 (fun v _ _ => Ev.asBool v fun b => b) (fun _ _ _ => false) = true := by kernel_rfl
theorem walk {a0 : Int} (_ : -9223372036854775808 ≤ a0 ∧ a0 ≤ 9223372036854775807) (W : World) (m : Int) (hm : W.cell? ⟨0, 0, none⟩ = some (.int .i64 m)) : Calls Tryz.prog 3 #[.int .i64 a0] W fun en W' => en = .returned (.bool true) ∧ Below W.heap.size W W' := by
  have c0 : withinI a0 0 9 = 0 ∨ withinI a0 0 9 = 1 ∨ withinI a0 0 9 = 2 ∨ withinI a0 0 9 = 3 ∨ withinI a0 0 9 = 4 ∨ withinI a0 0 9 = 5 ∨ withinI a0 0 9 = 6 ∨ withinI a0 0 9 = 7 ∨ withinI a0 0 9 = 8 ∨ withinI a0 0 9 = 9 := by
    have h1 := withinI_lo a0 0 9 (by omega)
    have h2 := withinI_hi a0 0 9 (by omega)
    omega
  rcases c0 with c0 | c0 | c0 | c0 | c0 | c0 | c0 | c0 | c0 | c0
  · skip
    exact says_true (sy := fun j => if j = 1 then .int .i64 a0 else .int .i64 m) (prs_ok (kn := [(1, 0, 9, 0)]) (m := m) rfl (fun x hx => by
        simp only [List.mem_cons, List.not_mem_nil, or_false] at hx
        subst hx
        · exact ⟨a0, rfl, c0⟩
        )) (k := 0) (G := 1) (nx := 1) (L := 1000) (n := 200) (args := [.int .i64 a0]) (Nat.lt_succ_self 0) (Nat.le_refl 1) (by unfold top; omega) run_0 (World.block_lt_of_cell? _ _ hm) rfl hm (.cons (.sym 1 rfl) .eol) (enters Tryz.func3 (by kernel_rfl) (by kernel_rfl) _ W)
  · skip
    exact says_true (sy := fun j => if j = 1 then .int .i64 a0 else .int .i64 m) (prs_ok (kn := [(1, 0, 9, 1)]) (m := m) rfl (fun x hx => by
        simp only [List.mem_cons, List.not_mem_nil, or_false] at hx
        subst hx
        · exact ⟨a0, rfl, c0⟩
        )) (k := 0) (G := 1) (nx := 1) (L := 1000) (n := 200) (args := [.int .i64 a0]) (Nat.lt_succ_self 0) (Nat.le_refl 1) (by unfold top; omega) run_1 (World.block_lt_of_cell? _ _ hm) rfl hm (.cons (.sym 1 rfl) .eol) (enters Tryz.func3 (by kernel_rfl) (by kernel_rfl) _ W)
  · skip
    exact says_true (sy := fun j => if j = 1 then .int .i64 a0 else .int .i64 m) (prs_ok (kn := [(1, 0, 9, 2)]) (m := m) rfl (fun x hx => by
        simp only [List.mem_cons, List.not_mem_nil, or_false] at hx
        subst hx
        · exact ⟨a0, rfl, c0⟩
        )) (k := 0) (G := 1) (nx := 1) (L := 1000) (n := 200) (args := [.int .i64 a0]) (Nat.lt_succ_self 0) (Nat.le_refl 1) (by unfold top; omega) run_2 (World.block_lt_of_cell? _ _ hm) rfl hm (.cons (.sym 1 rfl) .eol) (enters Tryz.func3 (by kernel_rfl) (by kernel_rfl) _ W)
  · skip
    exact says_true (sy := fun j => if j = 1 then .int .i64 a0 else .int .i64 m) (prs_ok (kn := [(1, 0, 9, 3)]) (m := m) rfl (fun x hx => by
        simp only [List.mem_cons, List.not_mem_nil, or_false] at hx
        subst hx
        · exact ⟨a0, rfl, c0⟩
        )) (k := 0) (G := 1) (nx := 1) (L := 1000) (n := 200) (args := [.int .i64 a0]) (Nat.lt_succ_self 0) (Nat.le_refl 1) (by unfold top; omega) run_3 (World.block_lt_of_cell? _ _ hm) rfl hm (.cons (.sym 1 rfl) .eol) (enters Tryz.func3 (by kernel_rfl) (by kernel_rfl) _ W)
  · skip
    exact says_true (sy := fun j => if j = 1 then .int .i64 a0 else .int .i64 m) (prs_ok (kn := [(1, 0, 9, 4)]) (m := m) rfl (fun x hx => by
        simp only [List.mem_cons, List.not_mem_nil, or_false] at hx
        subst hx
        · exact ⟨a0, rfl, c0⟩
        )) (k := 0) (G := 1) (nx := 1) (L := 1000) (n := 200) (args := [.int .i64 a0]) (Nat.lt_succ_self 0) (Nat.le_refl 1) (by unfold top; omega) run_4 (World.block_lt_of_cell? _ _ hm) rfl hm (.cons (.sym 1 rfl) .eol) (enters Tryz.func3 (by kernel_rfl) (by kernel_rfl) _ W)
  · skip
    exact says_true (sy := fun j => if j = 1 then .int .i64 a0 else .int .i64 m) (prs_ok (kn := [(1, 0, 9, 5)]) (m := m) rfl (fun x hx => by
        simp only [List.mem_cons, List.not_mem_nil, or_false] at hx
        subst hx
        · exact ⟨a0, rfl, c0⟩
        )) (k := 0) (G := 1) (nx := 1) (L := 1000) (n := 200) (args := [.int .i64 a0]) (Nat.lt_succ_self 0) (Nat.le_refl 1) (by unfold top; omega) run_5 (World.block_lt_of_cell? _ _ hm) rfl hm (.cons (.sym 1 rfl) .eol) (enters Tryz.func3 (by kernel_rfl) (by kernel_rfl) _ W)
  · skip
    exact says_true (sy := fun j => if j = 1 then .int .i64 a0 else .int .i64 m) (prs_ok (kn := [(1, 0, 9, 6)]) (m := m) rfl (fun x hx => by
        simp only [List.mem_cons, List.not_mem_nil, or_false] at hx
        subst hx
        · exact ⟨a0, rfl, c0⟩
        )) (k := 0) (G := 1) (nx := 1) (L := 1000) (n := 200) (args := [.int .i64 a0]) (Nat.lt_succ_self 0) (Nat.le_refl 1) (by unfold top; omega) run_6 (World.block_lt_of_cell? _ _ hm) rfl hm (.cons (.sym 1 rfl) .eol) (enters Tryz.func3 (by kernel_rfl) (by kernel_rfl) _ W)
  · skip
    exact says_true (sy := fun j => if j = 1 then .int .i64 a0 else .int .i64 m) (prs_ok (kn := [(1, 0, 9, 7)]) (m := m) rfl (fun x hx => by
        simp only [List.mem_cons, List.not_mem_nil, or_false] at hx
        subst hx
        · exact ⟨a0, rfl, c0⟩
        )) (k := 0) (G := 1) (nx := 1) (L := 1000) (n := 200) (args := [.int .i64 a0]) (Nat.lt_succ_self 0) (Nat.le_refl 1) (by unfold top; omega) run_7 (World.block_lt_of_cell? _ _ hm) rfl hm (.cons (.sym 1 rfl) .eol) (enters Tryz.func3 (by kernel_rfl) (by kernel_rfl) _ W)
  · skip
    exact says_true (sy := fun j => if j = 1 then .int .i64 a0 else .int .i64 m) (prs_ok (kn := [(1, 0, 9, 8)]) (m := m) rfl (fun x hx => by
        simp only [List.mem_cons, List.not_mem_nil, or_false] at hx
        subst hx
        · exact ⟨a0, rfl, c0⟩
        )) (k := 0) (G := 1) (nx := 1) (L := 1000) (n := 200) (args := [.int .i64 a0]) (Nat.lt_succ_self 0) (Nat.le_refl 1) (by unfold top; omega) run_8 (World.block_lt_of_cell? _ _ hm) rfl hm (.cons (.sym 1 rfl) .eol) (enters Tryz.func3 (by kernel_rfl) (by kernel_rfl) _ W)
  · skip
    exact says_true (sy := fun j => if j = 1 then .int .i64 a0 else .int .i64 m) (prs_ok (kn := [(1, 0, 9, 9)]) (m := m) rfl (fun x hx => by
        simp only [List.mem_cons, List.not_mem_nil, or_false] at hx
        subst hx
        · exact ⟨a0, rfl, c0⟩
        )) (k := 0) (G := 1) (nx := 1) (L := 1000) (n := 200) (args := [.int .i64 a0]) (Nat.lt_succ_self 0) (Nat.le_refl 1) (by unfold top; omega) run_9 (World.block_lt_of_cell? _ _ hm) rfl hm (.cons (.sym 1 rfl) .eol) (enters Tryz.func3 (by kernel_rfl) (by kernel_rfl) _ W)
end Go.Proofs.YtdoddlkppkegnaaGreatDoor.scopeOperators
