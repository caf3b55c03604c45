/- WordDivision: for all a, b the law returns true: quotient times divisor plus remainder is the dividend, and the remainder has the sign of the dividend and is smaller than the divisor. No conditions. -/
import Derived.Test.YtpeabfbljiaedaaRows
import Derived.Test.YtpeabfbljiaedaaWord
import Derived.WalkKit
import Derived.ProofKit
import Derived.OpenShut
import Derived.Lib.Hide
namespace Go.Proofs.Ytpeabfbljiaedaa.wordDivision
open Go.ChangeShapes Go.WideShapes Go.ChangeAt Go.RowKit
set_option linter.unusedVariables false

theorem own : ownKnob Try.prog.godebug = none := by kernel_rfl

theorem ret_bool {a b : Bool} (h : a = b) : Ending.returned (.bool a) = .returned (.bool b) := by rw [h]

set_option maxHeartbeats 1000000 in
theorem walk (a0 : Int) (a1 : Int) (w0 : (Lit.int .i64 a0).wf = true) (w1 : (Lit.int .i64 a1).wf = true) (w : World) :
    Calls Try.prog 5 #[.int .i64 a0, .int .i64 a1] w fun e w' => e = .returned (.bool true) ∧ Grown w w' := by
  have q0 : (wdiv (-7) 2 != -3) = false := by decide
  by_cases hz : wr a1 = 0
  · have z : (wr a1 == 0) = true := by rw [hz]; rfl
    have hzz : wr (wr a1) = 0 := by rw [wr_wr]; exact hz
    have H := Lib.hid hzz
    clear hz hzz
    go_enter Try.func5, Try.ntmps5
    go_wp2_with fail
    refine (div_some _ _ _ (by decide)).mono ?_
    rintro e w' ⟨rfl, rfl⟩
    go_wp2_with (go_at_call 14; refine (wrap_any _ _).mono ?_; rintro e w' ⟨rfl, rfl⟩)
    refine (div_zero _ _ _ H.out).mono ?_
    rintro e w' ⟨rfl, rfl⟩
    go_wp2_with fail
    refine (mod_zero _ _ _ H.out).mono ?_
    rintro e w' ⟨rfl, rfl⟩
    go_wp2
    go_ret
    exact ⟨rfl, Grown.refl _⟩
  · have z : (wr a1 == 0) = false := by simpa using hz
    have hzz : wr (wr a1) ≠ 0 := by rw [wr_wr]; exact hz
    have H := Lib.hid hzz
    have p1 : (wadd (wmul (wdiv (wr a0) (wr a1)) (wr a1)) (wmod (wr a0) (wr a1)) == wr a0) = true := by rw [div_back]; simp
    have p2 := rem_small a0 a1 hz
    have p3 := rem_sign a0 a1
    have p4 := rem_prod a0 a1 hz
    have p5 : wmod (wr a0) (wr a1) < 1073741825 := by have := wr_lo a1; have := wr_hi a1; omega
    have p6 : -1073741825 < wmod (wr a0) (wr a1) := by have := wr_lo a1; have := wr_hi a1; omega
    have p7 := wr_lo a1
    have p8 := wr_hi a1
    clear hz hzz
    go_enter Try.func5, Try.ntmps5
    go_wp2_with fail
    refine (div_some _ _ _ (by decide)).mono ?_
    rintro e w' ⟨rfl, rfl⟩
    go_wp2_with (go_at_call 14; refine (wrap_any _ _).mono ?_; rintro e w' ⟨rfl, rfl⟩)
    refine (div_some _ _ _ H.out).mono ?_
    rintro e w' ⟨rfl, rfl⟩
    go_wp2_with fail
    refine (mod_some _ _ _ H.out).mono ?_
    rintro e w' ⟨rfl, rfl⟩
    go_wp2_with (first
      | (go_at_call 11; refine (add_any _ _ _).mono ?_; rintro e w' ⟨rfl, rfl⟩)
      | (go_at_call 12; refine (mul_any _ _ _).mono ?_; rintro e w' ⟨rfl, rfl⟩))
    all_goals
      go_ret
      exact ⟨ret_bool (by simp; omega), Grown.refl _⟩

set_option maxRecDepth 100000 in
theorem lifted (os : Os) (started : os.Started) (H : Type) (enc : TypeId × Value → H) :
    ReturnsInHanded {} Try.checked os 5 .any (Rows.wordDivisionSpec.pre6 enc Try.prog Try.f5 Rows.wordDivisionRow.domain false) (Rows.wordDivisionSpec.post enc Try.prog Try.f5 false true false false) := by
  refine returnsInHanded_of_change (C := Try.checked) own started (by kernel_rfl) Try.func5
    (ChangeSpec.witness6 (enc := enc) (C := Try.checked) false ⟨#[], #[.int .i64 0, .int .i64 0], []⟩ 8 (by kernel_rfl) (by kernel_rfl) (by kernel_rfl) (by kernel_rfl)) ?_
  intro W base args ds gs before hval0 hW hcnd _
  have hval : ∀ (j : Nat) t v, Try.f5.params[j]? = some t → args[j]? = some v → Value.okWide Try.prog W .any base t v := hval0
  have hW' := hW
  obtain ⟨p, q, hA0, hV, rfl, hfz, hnd⟩ := hW
  have hA : DataW.TrodAll enc Try.prog W 0 (fun _ => true) true Try.f5.params.toList args.toList ds p := hA0
  rw [Try.params5] at hA hval
  obtain ⟨v0, vs0, d0, ds0, p0, q0, hargs, rfl, rfl, h0, r0⟩ := trodAll_cons hA
  obtain ⟨v1, vs1, d1, ds1, p1, q1, rfl, rfl, rfl, h1, r1⟩ := trodAll_cons r0
  obtain ⟨rfl, rfl, rfl⟩ := trodAll_nil r1
  obtain rfl : args = #[v0, v1] := by cases args; simp_all
  obtain ⟨rfl, rfl⟩ := trodVars_none hV
  obtain ⟨a0, rfl, rfl, rfl, w0⟩ := open_int Try.underlying3 (hval 0 3 v0 rfl rfl) h0
  obtain ⟨a1, rfl, rfl, rfl, w1⟩ := open_int Try.underlying3 (hval 1 3 v1 rfl rfl) h1
  clear hA0 hval0
  simp only [List.append_nil] at hW'
  refine (walk a0 a1 w0 w1 W).mono fun e W' ⟨he, hg⟩ => ?_
  subst he
  exact ⟨_, rfl, post_of_same (pa := []) (pv := []) hW' (fun _ _ _ => (trodAll_cons_mk (shut_bool Try.underlying4 _) trodAll_mk0)) (fun sp _ => (trodAll_cons_mk (shut_int Try.underlying3 w0) (trodAll_cons_mk (shut_int Try.underlying3 w1) trodAll_mk0))) (fun _ _ => rfl) rfl
    (hg.frame _) hg.2.1 (ok_one (by kernel_rfl) rfl (okWide_bool_mk Try.underlying4 _))⟩

theorem over : Rows.wordDivisionRow.holds Try.pinned (OpenSpec.ofChange Rows.wordDivisionSpec) :=
  OpenClaim.holds_of_wide 5 Try.f5 rfl rfl rfl rfl rfl rfl rfl ⟨rfl, rfl, rfl, rfl, rfl⟩ rfl rfl rfl rfl rfl (by kernel_rfl) Try.func5 (by kernel_rfl)
    (of_decide_eq_true (by kernel_rfl)) (by unfold Func.isWrapper; first | (rw [if_pos (by decide +kernel)]; kernel_rfl) | (rw [if_neg (by decide +kernel)]; exact ⟨rfl, rfl⟩))
    (fun os started H enc _ => lifted os started H enc)

theorem proved : Rows.WordDivisionSaid :=
  over
#print axioms proved
end Go.Proofs.Ytpeabfbljiaedaa.wordDivision
