/- ScopeImported: the kernel runs the law at each input that it tells apart; what it finds holds in the model. No conditions. -/
import Derived.Test.YtdoddlkppkegnaaGreatDoorEvPrims
import Derived.Test.YtdoddlkppkegnaaGreatDoorEvStart
import Derived.KernelRfl
import Derived.Test.YtdoddlkppkegnaaGreatDoorFinScopeImportedR0
import Derived.Test.YtdoddlkppkegnaaGreatDoorFinScopeImportedR1
import Derived.Test.YtdoddlkppkegnaaGreatDoorFinScopeImportedR2
import Derived.Test.YtdoddlkppkegnaaGreatDoorFinScopeImportedR3
namespace Go.Proofs.YtdoddlkppkegnaaGreatDoor.scopeImported
open Go Go.RowKit Go.Proofs.YtdoddlkppkegnaaGreatDoor.Ev
theorem maxLen (W : World) (h : W.ShapedOpen Tryz.prog) : ∃ m, W.cell? ⟨0, 0, none⟩ = some (.int .i64 m) := Tryz.laysM143.s1_3 W h
theorem walk (a0 : Bool) {a1 : Int} (b1 : -9223372036854775808 ≤ a1 ∧ a1 ≤ 9223372036854775807) (W : World) (m : Int) (hm : W.cell? ⟨0, 0, none⟩ = some (.int .i64 m)) : Calls Tryz.prog 4 #[.bool a0, .int .i64 a1] W fun en W' => en = .returned (.bool true) ∧ Below W.heap.size W W' := by
  cases a0 with
  | true =>
    have c1 : a1.tmod 9 = -8 ∨ a1.tmod 9 = -7 ∨ a1.tmod 9 = -6 ∨ a1.tmod 9 = -5 ∨ a1.tmod 9 = -4 ∨ a1.tmod 9 = -3 ∨ a1.tmod 9 = -2 ∨ a1.tmod 9 = -1 ∨ a1.tmod 9 = 0 ∨ a1.tmod 9 = 1 ∨ a1.tmod 9 = 2 ∨ a1.tmod 9 = 3 ∨ a1.tmod 9 = 4 ∨ a1.tmod 9 = 5 ∨ a1.tmod 9 = 6 ∨ a1.tmod 9 = 7 ∨ a1.tmod 9 = 8 := by
      have h1 := tmod_small a1 9 (by omega)
      omega
    rcases c1 with c1 | c1 | c1 | c1 | c1 | c1 | c1 | c1 | c1 | c1 | c1 | c1 | c1 | c1 | c1 | c1 | c1
    · skip
      exact says_true (sy := fun j => .int .i64 m) (prs_ok (kn := []) (m := m) rfl (fun x hx => by cases hx          ) (by decide)) (k := 0) (G := 1) (nx := 1) (L := 1000) (n := 200) (args := [.bool true, .int .i64 a1]) (Nat.lt_succ_self 0) (Nat.le_refl 1) (by unfold top; omega) run_t_m8 (World.block_lt_of_cell? _ _ hm) rfl hm (.cons (.bool true) (.cons (.symc (j := 10492) (by decide) b1 c1) .eol)) (enters Tryz.func4 (by kernel_rfl) (by kernel_rfl) _ W)
    · skip
      exact says_true (sy := fun j => .int .i64 m) (prs_ok (kn := []) (m := m) rfl (fun x hx => by cases hx          ) (by decide)) (k := 0) (G := 1) (nx := 1) (L := 1000) (n := 200) (args := [.bool true, .int .i64 a1]) (Nat.lt_succ_self 0) (Nat.le_refl 1) (by unfold top; omega) run_t_m7 (World.block_lt_of_cell? _ _ hm) rfl hm (.cons (.bool true) (.cons (.symc (j := 10493) (by decide) b1 c1) .eol)) (enters Tryz.func4 (by kernel_rfl) (by kernel_rfl) _ W)
    · skip
      exact says_true (sy := fun j => .int .i64 m) (prs_ok (kn := []) (m := m) rfl (fun x hx => by cases hx          ) (by decide)) (k := 0) (G := 1) (nx := 1) (L := 1000) (n := 200) (args := [.bool true, .int .i64 a1]) (Nat.lt_succ_self 0) (Nat.le_refl 1) (by unfold top; omega) run_t_m6 (World.block_lt_of_cell? _ _ hm) rfl hm (.cons (.bool true) (.cons (.symc (j := 10494) (by decide) b1 c1) .eol)) (enters Tryz.func4 (by kernel_rfl) (by kernel_rfl) _ W)
    · skip
      exact says_true (sy := fun j => .int .i64 m) (prs_ok (kn := []) (m := m) rfl (fun x hx => by cases hx          ) (by decide)) (k := 0) (G := 1) (nx := 1) (L := 1000) (n := 200) (args := [.bool true, .int .i64 a1]) (Nat.lt_succ_self 0) (Nat.le_refl 1) (by unfold top; omega) run_t_m5 (World.block_lt_of_cell? _ _ hm) rfl hm (.cons (.bool true) (.cons (.symc (j := 10495) (by decide) b1 c1) .eol)) (enters Tryz.func4 (by kernel_rfl) (by kernel_rfl) _ W)
    · skip
      exact says_true (sy := fun j => .int .i64 m) (prs_ok (kn := []) (m := m) rfl (fun x hx => by cases hx          ) (by decide)) (k := 0) (G := 1) (nx := 1) (L := 1000) (n := 200) (args := [.bool true, .int .i64 a1]) (Nat.lt_succ_self 0) (Nat.le_refl 1) (by unfold top; omega) run_t_m4 (World.block_lt_of_cell? _ _ hm) rfl hm (.cons (.bool true) (.cons (.symc (j := 10496) (by decide) b1 c1) .eol)) (enters Tryz.func4 (by kernel_rfl) (by kernel_rfl) _ W)
    · skip
      exact says_true (sy := fun j => .int .i64 m) (prs_ok (kn := []) (m := m) rfl (fun x hx => by cases hx          ) (by decide)) (k := 0) (G := 1) (nx := 1) (L := 1000) (n := 200) (args := [.bool true, .int .i64 a1]) (Nat.lt_succ_self 0) (Nat.le_refl 1) (by unfold top; omega) run_t_m3 (World.block_lt_of_cell? _ _ hm) rfl hm (.cons (.bool true) (.cons (.symc (j := 10497) (by decide) b1 c1) .eol)) (enters Tryz.func4 (by kernel_rfl) (by kernel_rfl) _ W)
    · skip
      exact says_true (sy := fun j => .int .i64 m) (prs_ok (kn := []) (m := m) rfl (fun x hx => by cases hx          ) (by decide)) (k := 0) (G := 1) (nx := 1) (L := 1000) (n := 200) (args := [.bool true, .int .i64 a1]) (Nat.lt_succ_self 0) (Nat.le_refl 1) (by unfold top; omega) run_t_m2 (World.block_lt_of_cell? _ _ hm) rfl hm (.cons (.bool true) (.cons (.symc (j := 10498) (by decide) b1 c1) .eol)) (enters Tryz.func4 (by kernel_rfl) (by kernel_rfl) _ W)
    · skip
      exact says_true (sy := fun j => .int .i64 m) (prs_ok (kn := []) (m := m) rfl (fun x hx => by cases hx          ) (by decide)) (k := 0) (G := 1) (nx := 1) (L := 1000) (n := 200) (args := [.bool true, .int .i64 a1]) (Nat.lt_succ_self 0) (Nat.le_refl 1) (by unfold top; omega) run_t_m1 (World.block_lt_of_cell? _ _ hm) rfl hm (.cons (.bool true) (.cons (.symc (j := 10499) (by decide) b1 c1) .eol)) (enters Tryz.func4 (by kernel_rfl) (by kernel_rfl) _ W)
    · skip
      exact says_true (sy := fun j => .int .i64 m) (prs_ok (kn := []) (m := m) rfl (fun x hx => by cases hx          ) (by decide)) (k := 0) (G := 1) (nx := 1) (L := 1000) (n := 200) (args := [.bool true, .int .i64 a1]) (Nat.lt_succ_self 0) (Nat.le_refl 1) (by unfold top; omega) run_t_0 (World.block_lt_of_cell? _ _ hm) rfl hm (.cons (.bool true) (.cons (.symc (j := 10500) (by decide) b1 c1) .eol)) (enters Tryz.func4 (by kernel_rfl) (by kernel_rfl) _ W)
    · skip
      exact says_true (sy := fun j => .int .i64 m) (prs_ok (kn := []) (m := m) rfl (fun x hx => by cases hx          ) (by decide)) (k := 0) (G := 1) (nx := 1) (L := 1000) (n := 200) (args := [.bool true, .int .i64 a1]) (Nat.lt_succ_self 0) (Nat.le_refl 1) (by unfold top; omega) run_t_1 (World.block_lt_of_cell? _ _ hm) rfl hm (.cons (.bool true) (.cons (.symc (j := 10501) (by decide) b1 c1) .eol)) (enters Tryz.func4 (by kernel_rfl) (by kernel_rfl) _ W)
    · skip
      exact says_true (sy := fun j => .int .i64 m) (prs_ok (kn := []) (m := m) rfl (fun x hx => by cases hx          ) (by decide)) (k := 0) (G := 1) (nx := 1) (L := 1000) (n := 200) (args := [.bool true, .int .i64 a1]) (Nat.lt_succ_self 0) (Nat.le_refl 1) (by unfold top; omega) run_t_2 (World.block_lt_of_cell? _ _ hm) rfl hm (.cons (.bool true) (.cons (.symc (j := 10502) (by decide) b1 c1) .eol)) (enters Tryz.func4 (by kernel_rfl) (by kernel_rfl) _ W)
    · skip
      exact says_true (sy := fun j => .int .i64 m) (prs_ok (kn := []) (m := m) rfl (fun x hx => by cases hx          ) (by decide)) (k := 0) (G := 1) (nx := 1) (L := 1000) (n := 200) (args := [.bool true, .int .i64 a1]) (Nat.lt_succ_self 0) (Nat.le_refl 1) (by unfold top; omega) run_t_3 (World.block_lt_of_cell? _ _ hm) rfl hm (.cons (.bool true) (.cons (.symc (j := 10503) (by decide) b1 c1) .eol)) (enters Tryz.func4 (by kernel_rfl) (by kernel_rfl) _ W)
    · skip
      exact says_true (sy := fun j => .int .i64 m) (prs_ok (kn := []) (m := m) rfl (fun x hx => by cases hx          ) (by decide)) (k := 0) (G := 1) (nx := 1) (L := 1000) (n := 200) (args := [.bool true, .int .i64 a1]) (Nat.lt_succ_self 0) (Nat.le_refl 1) (by unfold top; omega) run_t_4 (World.block_lt_of_cell? _ _ hm) rfl hm (.cons (.bool true) (.cons (.symc (j := 10504) (by decide) b1 c1) .eol)) (enters Tryz.func4 (by kernel_rfl) (by kernel_rfl) _ W)
    · skip
      exact says_true (sy := fun j => .int .i64 m) (prs_ok (kn := []) (m := m) rfl (fun x hx => by cases hx          ) (by decide)) (k := 0) (G := 1) (nx := 1) (L := 1000) (n := 200) (args := [.bool true, .int .i64 a1]) (Nat.lt_succ_self 0) (Nat.le_refl 1) (by unfold top; omega) run_t_5 (World.block_lt_of_cell? _ _ hm) rfl hm (.cons (.bool true) (.cons (.symc (j := 10505) (by decide) b1 c1) .eol)) (enters Tryz.func4 (by kernel_rfl) (by kernel_rfl) _ W)
    · skip
      exact says_true (sy := fun j => .int .i64 m) (prs_ok (kn := []) (m := m) rfl (fun x hx => by cases hx          ) (by decide)) (k := 0) (G := 1) (nx := 1) (L := 1000) (n := 200) (args := [.bool true, .int .i64 a1]) (Nat.lt_succ_self 0) (Nat.le_refl 1) (by unfold top; omega) run_t_6 (World.block_lt_of_cell? _ _ hm) rfl hm (.cons (.bool true) (.cons (.symc (j := 10506) (by decide) b1 c1) .eol)) (enters Tryz.func4 (by kernel_rfl) (by kernel_rfl) _ W)
    · skip
      exact says_true (sy := fun j => .int .i64 m) (prs_ok (kn := []) (m := m) rfl (fun x hx => by cases hx          ) (by decide)) (k := 0) (G := 1) (nx := 1) (L := 1000) (n := 200) (args := [.bool true, .int .i64 a1]) (Nat.lt_succ_self 0) (Nat.le_refl 1) (by unfold top; omega) run_t_7 (World.block_lt_of_cell? _ _ hm) rfl hm (.cons (.bool true) (.cons (.symc (j := 10507) (by decide) b1 c1) .eol)) (enters Tryz.func4 (by kernel_rfl) (by kernel_rfl) _ W)
    · skip
      exact says_true (sy := fun j => .int .i64 m) (prs_ok (kn := []) (m := m) rfl (fun x hx => by cases hx          ) (by decide)) (k := 0) (G := 1) (nx := 1) (L := 1000) (n := 200) (args := [.bool true, .int .i64 a1]) (Nat.lt_succ_self 0) (Nat.le_refl 1) (by unfold top; omega) run_t_8 (World.block_lt_of_cell? _ _ hm) rfl hm (.cons (.bool true) (.cons (.symc (j := 10508) (by decide) b1 c1) .eol)) (enters Tryz.func4 (by kernel_rfl) (by kernel_rfl) _ W)
  | false =>
    have c1 : a1.tmod 9 = -8 ∨ a1.tmod 9 = -7 ∨ a1.tmod 9 = -6 ∨ a1.tmod 9 = -5 ∨ a1.tmod 9 = -4 ∨ a1.tmod 9 = -3 ∨ a1.tmod 9 = -2 ∨ a1.tmod 9 = -1 ∨ a1.tmod 9 = 0 ∨ a1.tmod 9 = 1 ∨ a1.tmod 9 = 2 ∨ a1.tmod 9 = 3 ∨ a1.tmod 9 = 4 ∨ a1.tmod 9 = 5 ∨ a1.tmod 9 = 6 ∨ a1.tmod 9 = 7 ∨ a1.tmod 9 = 8 := by
      have h1 := tmod_small a1 9 (by omega)
      omega
    rcases c1 with c1 | c1 | c1 | c1 | c1 | c1 | c1 | c1 | c1 | c1 | c1 | c1 | c1 | c1 | c1 | c1 | c1
    · skip
      exact says_true (sy := fun j => .int .i64 m) (prs_ok (kn := []) (m := m) rfl (fun x hx => by cases hx          ) (by decide)) (k := 0) (G := 1) (nx := 1) (L := 1000) (n := 200) (args := [.bool false, .int .i64 a1]) (Nat.lt_succ_self 0) (Nat.le_refl 1) (by unfold top; omega) run_f_m8 (World.block_lt_of_cell? _ _ hm) rfl hm (.cons (.bool false) (.cons (.symc (j := 10492) (by decide) b1 c1) .eol)) (enters Tryz.func4 (by kernel_rfl) (by kernel_rfl) _ W)
    · skip
      exact says_true (sy := fun j => .int .i64 m) (prs_ok (kn := []) (m := m) rfl (fun x hx => by cases hx          ) (by decide)) (k := 0) (G := 1) (nx := 1) (L := 1000) (n := 200) (args := [.bool false, .int .i64 a1]) (Nat.lt_succ_self 0) (Nat.le_refl 1) (by unfold top; omega) run_f_m7 (World.block_lt_of_cell? _ _ hm) rfl hm (.cons (.bool false) (.cons (.symc (j := 10493) (by decide) b1 c1) .eol)) (enters Tryz.func4 (by kernel_rfl) (by kernel_rfl) _ W)
    · skip
      exact says_true (sy := fun j => .int .i64 m) (prs_ok (kn := []) (m := m) rfl (fun x hx => by cases hx          ) (by decide)) (k := 0) (G := 1) (nx := 1) (L := 1000) (n := 200) (args := [.bool false, .int .i64 a1]) (Nat.lt_succ_self 0) (Nat.le_refl 1) (by unfold top; omega) run_f_m6 (World.block_lt_of_cell? _ _ hm) rfl hm (.cons (.bool false) (.cons (.symc (j := 10494) (by decide) b1 c1) .eol)) (enters Tryz.func4 (by kernel_rfl) (by kernel_rfl) _ W)
    · skip
      exact says_true (sy := fun j => .int .i64 m) (prs_ok (kn := []) (m := m) rfl (fun x hx => by cases hx          ) (by decide)) (k := 0) (G := 1) (nx := 1) (L := 1000) (n := 200) (args := [.bool false, .int .i64 a1]) (Nat.lt_succ_self 0) (Nat.le_refl 1) (by unfold top; omega) run_f_m5 (World.block_lt_of_cell? _ _ hm) rfl hm (.cons (.bool false) (.cons (.symc (j := 10495) (by decide) b1 c1) .eol)) (enters Tryz.func4 (by kernel_rfl) (by kernel_rfl) _ W)
    · skip
      exact says_true (sy := fun j => .int .i64 m) (prs_ok (kn := []) (m := m) rfl (fun x hx => by cases hx          ) (by decide)) (k := 0) (G := 1) (nx := 1) (L := 1000) (n := 200) (args := [.bool false, .int .i64 a1]) (Nat.lt_succ_self 0) (Nat.le_refl 1) (by unfold top; omega) run_f_m4 (World.block_lt_of_cell? _ _ hm) rfl hm (.cons (.bool false) (.cons (.symc (j := 10496) (by decide) b1 c1) .eol)) (enters Tryz.func4 (by kernel_rfl) (by kernel_rfl) _ W)
    · skip
      exact says_true (sy := fun j => .int .i64 m) (prs_ok (kn := []) (m := m) rfl (fun x hx => by cases hx          ) (by decide)) (k := 0) (G := 1) (nx := 1) (L := 1000) (n := 200) (args := [.bool false, .int .i64 a1]) (Nat.lt_succ_self 0) (Nat.le_refl 1) (by unfold top; omega) run_f_m3 (World.block_lt_of_cell? _ _ hm) rfl hm (.cons (.bool false) (.cons (.symc (j := 10497) (by decide) b1 c1) .eol)) (enters Tryz.func4 (by kernel_rfl) (by kernel_rfl) _ W)
    · skip
      exact says_true (sy := fun j => .int .i64 m) (prs_ok (kn := []) (m := m) rfl (fun x hx => by cases hx          ) (by decide)) (k := 0) (G := 1) (nx := 1) (L := 1000) (n := 200) (args := [.bool false, .int .i64 a1]) (Nat.lt_succ_self 0) (Nat.le_refl 1) (by unfold top; omega) run_f_m2 (World.block_lt_of_cell? _ _ hm) rfl hm (.cons (.bool false) (.cons (.symc (j := 10498) (by decide) b1 c1) .eol)) (enters Tryz.func4 (by kernel_rfl) (by kernel_rfl) _ W)
    · skip
      exact says_true (sy := fun j => .int .i64 m) (prs_ok (kn := []) (m := m) rfl (fun x hx => by cases hx          ) (by decide)) (k := 0) (G := 1) (nx := 1) (L := 1000) (n := 200) (args := [.bool false, .int .i64 a1]) (Nat.lt_succ_self 0) (Nat.le_refl 1) (by unfold top; omega) run_f_m1 (World.block_lt_of_cell? _ _ hm) rfl hm (.cons (.bool false) (.cons (.symc (j := 10499) (by decide) b1 c1) .eol)) (enters Tryz.func4 (by kernel_rfl) (by kernel_rfl) _ W)
    · skip
      exact says_true (sy := fun j => .int .i64 m) (prs_ok (kn := []) (m := m) rfl (fun x hx => by cases hx          ) (by decide)) (k := 0) (G := 1) (nx := 1) (L := 1000) (n := 200) (args := [.bool false, .int .i64 a1]) (Nat.lt_succ_self 0) (Nat.le_refl 1) (by unfold top; omega) run_f_0 (World.block_lt_of_cell? _ _ hm) rfl hm (.cons (.bool false) (.cons (.symc (j := 10500) (by decide) b1 c1) .eol)) (enters Tryz.func4 (by kernel_rfl) (by kernel_rfl) _ W)
    · skip
      exact says_true (sy := fun j => .int .i64 m) (prs_ok (kn := []) (m := m) rfl (fun x hx => by cases hx          ) (by decide)) (k := 0) (G := 1) (nx := 1) (L := 1000) (n := 200) (args := [.bool false, .int .i64 a1]) (Nat.lt_succ_self 0) (Nat.le_refl 1) (by unfold top; omega) run_f_1 (World.block_lt_of_cell? _ _ hm) rfl hm (.cons (.bool false) (.cons (.symc (j := 10501) (by decide) b1 c1) .eol)) (enters Tryz.func4 (by kernel_rfl) (by kernel_rfl) _ W)
    · skip
      exact says_true (sy := fun j => .int .i64 m) (prs_ok (kn := []) (m := m) rfl (fun x hx => by cases hx          ) (by decide)) (k := 0) (G := 1) (nx := 1) (L := 1000) (n := 200) (args := [.bool false, .int .i64 a1]) (Nat.lt_succ_self 0) (Nat.le_refl 1) (by unfold top; omega) run_f_2 (World.block_lt_of_cell? _ _ hm) rfl hm (.cons (.bool false) (.cons (.symc (j := 10502) (by decide) b1 c1) .eol)) (enters Tryz.func4 (by kernel_rfl) (by kernel_rfl) _ W)
    · skip
      exact says_true (sy := fun j => .int .i64 m) (prs_ok (kn := []) (m := m) rfl (fun x hx => by cases hx          ) (by decide)) (k := 0) (G := 1) (nx := 1) (L := 1000) (n := 200) (args := [.bool false, .int .i64 a1]) (Nat.lt_succ_self 0) (Nat.le_refl 1) (by unfold top; omega) run_f_3 (World.block_lt_of_cell? _ _ hm) rfl hm (.cons (.bool false) (.cons (.symc (j := 10503) (by decide) b1 c1) .eol)) (enters Tryz.func4 (by kernel_rfl) (by kernel_rfl) _ W)
    · skip
      exact says_true (sy := fun j => .int .i64 m) (prs_ok (kn := []) (m := m) rfl (fun x hx => by cases hx          ) (by decide)) (k := 0) (G := 1) (nx := 1) (L := 1000) (n := 200) (args := [.bool false, .int .i64 a1]) (Nat.lt_succ_self 0) (Nat.le_refl 1) (by unfold top; omega) run_f_4 (World.block_lt_of_cell? _ _ hm) rfl hm (.cons (.bool false) (.cons (.symc (j := 10504) (by decide) b1 c1) .eol)) (enters Tryz.func4 (by kernel_rfl) (by kernel_rfl) _ W)
    · skip
      exact says_true (sy := fun j => .int .i64 m) (prs_ok (kn := []) (m := m) rfl (fun x hx => by cases hx          ) (by decide)) (k := 0) (G := 1) (nx := 1) (L := 1000) (n := 200) (args := [.bool false, .int .i64 a1]) (Nat.lt_succ_self 0) (Nat.le_refl 1) (by unfold top; omega) run_f_5 (World.block_lt_of_cell? _ _ hm) rfl hm (.cons (.bool false) (.cons (.symc (j := 10505) (by decide) b1 c1) .eol)) (enters Tryz.func4 (by kernel_rfl) (by kernel_rfl) _ W)
    · skip
      exact says_true (sy := fun j => .int .i64 m) (prs_ok (kn := []) (m := m) rfl (fun x hx => by cases hx          ) (by decide)) (k := 0) (G := 1) (nx := 1) (L := 1000) (n := 200) (args := [.bool false, .int .i64 a1]) (Nat.lt_succ_self 0) (Nat.le_refl 1) (by unfold top; omega) run_f_6 (World.block_lt_of_cell? _ _ hm) rfl hm (.cons (.bool false) (.cons (.symc (j := 10506) (by decide) b1 c1) .eol)) (enters Tryz.func4 (by kernel_rfl) (by kernel_rfl) _ W)
    · skip
      exact says_true (sy := fun j => .int .i64 m) (prs_ok (kn := []) (m := m) rfl (fun x hx => by cases hx          ) (by decide)) (k := 0) (G := 1) (nx := 1) (L := 1000) (n := 200) (args := [.bool false, .int .i64 a1]) (Nat.lt_succ_self 0) (Nat.le_refl 1) (by unfold top; omega) run_f_7 (World.block_lt_of_cell? _ _ hm) rfl hm (.cons (.bool false) (.cons (.symc (j := 10507) (by decide) b1 c1) .eol)) (enters Tryz.func4 (by kernel_rfl) (by kernel_rfl) _ W)
    · skip
      exact says_true (sy := fun j => .int .i64 m) (prs_ok (kn := []) (m := m) rfl (fun x hx => by cases hx          ) (by decide)) (k := 0) (G := 1) (nx := 1) (L := 1000) (n := 200) (args := [.bool false, .int .i64 a1]) (Nat.lt_succ_self 0) (Nat.le_refl 1) (by unfold top; omega) run_f_8 (World.block_lt_of_cell? _ _ hm) rfl hm (.cons (.bool false) (.cons (.symc (j := 10508) (by decide) b1 c1) .eol)) (enters Tryz.func4 (by kernel_rfl) (by kernel_rfl) _ W)
end Go.Proofs.YtdoddlkppkegnaaGreatDoor.scopeImported
