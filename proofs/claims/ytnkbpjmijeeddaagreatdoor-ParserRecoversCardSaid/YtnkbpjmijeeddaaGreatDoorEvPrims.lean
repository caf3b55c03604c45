/- The functions that the evaluator does not walk into, at this program. No conditions. -/
import Derived.Test.YtnkbpjmijeeddaaGreatDoorEvPrim
import Derived.Test.YtnkbpjmijeeddaaGreatDoorShelfIdx
import Derived.Test.YtnkbpjmijeeddaaGreatDoorStrClone
import Derived.Test.YtnkbpjmijeeddaaGreatDoorEvEncl
import Derived.Test.YtnkbpjmijeeddaaGreatDoorWithin
namespace Go.Proofs.YtnkbpjmijeeddaaGreatDoor.Ev
set_option linter.unusedVariables false
set_option linter.unusedSimpArgs false
open Go Go.RowKit
noncomputable def prs (kn : List (Nat × Int × Int × Int)) : Prims := fun f => ifB (Nat.beq f 100) (some (primIdx 0)) (ifB (Nat.beq f 110) (some (primIdx 0)) (ifB (Nat.beq f 50) (some primClone) (ifB (Nat.beq f 83) (some primByte) (ifB (Nat.beq f 21) (some primEncl) none))))
theorem enters {f : FuncId} {fn : Func} (hf : Tryz.prog.funcs[f]? = some fn) (hb : fn.body.isSome = true) (hn : (fn.name == "runtime.NumGoroutine") = false) (args : Array Value) (W : World) : (callFunc f args).run Tryz.prog W = .ok (.enter f args) W := by
  obtain ⟨b, hb⟩ := Option.isSome_iff_exists.1 hb
  exact invoke_enter hf hb hn
theorem index1 {sy : Nat → Value} {m : Int} (h : sy 0 = .int .i64 m) : Prim1 Tryz.prog sy 1 100 (primIdx 0) :=
  index_ok (by omega) (fun a b W => enters Tryz.func100 (by kernel_rfl) (by kernel_rfl) _ W) fun s sub w hs hm => Tryz.strings_Index s sub m w hs (by rw [hm, h])
theorem index2 {sy : Nat → Value} {m : Int} (h : sy 0 = .int .i64 m) : Prim1 Tryz.prog sy 1 110 (primIdx 0) :=
  index_ok (by omega) (fun a b W => enters Tryz.func110 (by kernel_rfl) (by kernel_rfl) _ W) fun s sub w hs hm => Tryz.stringslite_Index s sub m w hs (by rw [hm, h])
theorem clone1 {sy : Nat → Value} : Prim1 Tryz.prog sy 1 50 primClone :=
  clone_ok (fun a W => enters Tryz.func50 (by kernel_rfl) (by kernel_rfl) _ W) fun s w hs => strClone s w hs
theorem byte1 {sy : Nat → Value} : Prim1 Tryz.prog sy 1 83 primByte :=
  byte_ok fun s c W => by
    rw [run_callFunc_extern Tryz.func83 (by kernel_rfl) (by kernel_rfl) (by kernel_rfl) (e := Extern.BytealgIndexByte.indexByte) (by kernel_rfl)]
    rw [Lib.run_indexByteString]; rfl
theorem encl1 {sy : Nat → Value} : Prim1 Tryz.prog sy 1 21 primEncl :=
  encl_ok fun a W => enters Tryz.func21 (by kernel_rfl) (by kernel_rfl) _ W
theorem prs_ok {sy : Nat → Value} {m : Int} {kn : List (Nat × Int × Int × Int)} (h : sy 0 = .int .i64 m) (hkn : ∀ x ∈ kn, ∃ n, sy x.1 = .int .i64 n ∧ withinI n x.2.1 x.2.2.1 = x.2.2.2) (hlt : ∀ x ∈ kn, x.1 < 2000) : PrimOk Tryz.prog sy 1 (prs kn) := by
  intro N0 W0 f g hpf l K mm hg e args nx W hG hst hl
  have go : ∀ f' g', Prim1 Tryz.prog sy 1 f' g' → f = f' → some g' = some g → _ := fun f' g' h1 h2 h3 => by
    subst h2; cases h3; exact h1 N0 W0 l K mm hg e args nx W hG hst hl
  unfold prs at hpf
  by_cases h0 : Nat.beq f 100 = true
  · rw [ifB_true h0] at hpf; exact go _ _ (index1 h) (beq_iff.1 h0) hpf
  rw [ifB_false (Bool.not_eq_true _ ▸ h0)] at hpf
  by_cases h1 : Nat.beq f 110 = true
  · rw [ifB_true h1] at hpf; exact go _ _ (index2 h) (beq_iff.1 h1) hpf
  rw [ifB_false (Bool.not_eq_true _ ▸ h1)] at hpf
  by_cases h2 : Nat.beq f 50 = true
  · rw [ifB_true h2] at hpf; exact go _ _ clone1 (beq_iff.1 h2) hpf
  rw [ifB_false (Bool.not_eq_true _ ▸ h2)] at hpf
  by_cases h3 : Nat.beq f 83 = true
  · rw [ifB_true h3] at hpf; exact go _ _ byte1 (beq_iff.1 h3) hpf
  rw [ifB_false (Bool.not_eq_true _ ▸ h3)] at hpf
  by_cases h4 : Nat.beq f 21 = true
  · rw [ifB_true h4] at hpf; exact go _ _ encl1 (beq_iff.1 h4) hpf
  rw [ifB_false (Bool.not_eq_true _ ▸ h4)] at hpf
  cases hpf
end Go.Proofs.YtnkbpjmijeeddaaGreatDoor.Ev
