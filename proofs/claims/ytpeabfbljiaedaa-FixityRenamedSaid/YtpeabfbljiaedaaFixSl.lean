/- slices.Clone and slices.Equal at the structs of fixity. No conditions but the form's own reach. -/
import Derived.Test.YtpeabfbljiaedaaFixTypes
import Derived.Test.YtpeabfbljiaedaaSlices
import Derived.Deep.QuietTactic
import Derived.BigQuiet
import Derived.WalkSpells
namespace Go.Proofs.Ytpeabfbljiaedaa
open Go.RowKit Go.Shelf

theorem infoFixItem : (Try.prog.info? 57).map (fun i => (i.zero, i.size, i.bytes)) = some (some (.agg #[.string ⟨#[]⟩, .int .i64 0]), 2, 24) := by kernel_rfl

def FixItemCloned (l : List FixItem) (F : Nat → Prop) (w : World) (e : Ending) (w' : World) : Prop :=
  ∃ v' xs, e = .returned v' ∧ w'.ownsRow w.heap.size 57 2 v' l.length xs ∧ RpAll w' F (l.map FixItem.d) xs ∧ Below w.heap.size w w'

set_option maxHeartbeats 400000 in
theorem itemClone (l : List FixItem) (v : Value) (F : Nat → Prop) (w : World) (hv : Sl w F FixItem.d l v) (hF : ∀ b, F b → b < w.heap.size) (hlen : l.length * 24 ≤ 140737488355328) :
    Calls Try.prog 28 #[v] w (FixItemCloned l F w) := by
  obtain ⟨i0, hi0, hz0, hz1, hz2⟩ := info_parts infoFixItem
  obtain ⟨A, c, rfl, hlc, hcm, hcn⟩ := hv.form
  have hl : l.length ≤ 9223372036854775807 := by unfold maxLen at hcm; omega
  rcases A with _ | ad
  · have hc0 := hcn rfl
    have hl0 : l.length = 0 := by omega
    have hl1 := List.eq_nil_of_length_eq_zero hl0
    subst hl1
    subst hc0
    have hn := fun (W : World) => Lib.run_eql_slice_nil (P := Try.prog) W 45 57 none 0 0 0 0 Try.underlying45
    go_enter Try.func28, Try.ntmps28
    go_wp2
    go_ret
    exact ⟨_, [], rfl, World.ownsRow_nil _ _ _ _, by simp [RpAll], Below.refl _ _⟩
  · have hn := fun (W : World) => Lib.run_eql_slice_nil (P := Try.prog) W 45 57 (some ad) l.length c 0 0 Try.underlying45
    have hown := World.ownsRow_lit (base := w.heap.size) (e := 57) (size := 2) w #[] 0 (Nat.le_refl _) (by unfold maxLen; omega) (by simp)
    have hb0 : Below w.heap.size w (w.alloc (.cells #[] 57)) := (Below.refl _ _).alloc (Nat.le_refl _) _
    have hv0 := hv.later hb0
    go_enter Try.func28, Try.ntmps28
    go_wp2_with (at_builtin; refine wpList_append_sl _ rfl _ _ 45 rfl w.heap.size 57 i0 _ 2 24 Try.underlying45 hi0 hz0 hz1 hz2 rfl (by omega) _ 0 [] rfl hown FixItem.d FixItem.wide F l _ _ _ rfl hv0 (by unfold maxLen; omega) (by omega) (by simp) ?_; intro v' w1 news hnews hown1 hgrow hat)
    go_ret
    simp only [Nat.zero_add, List.nil_append] at hown1
    refine ⟨v', news, rfl, hown1, hnews.grown hgrow ?_, hb0.grown hgrow (by simp) ?_⟩
    · intro b hb h
      have := hF b hb
      have h2 : some b = some w.heap.size := h
      injection h2 with h2
      omega
    · intro k hk
      have h2 : some w.heap.size = some k := hk
      injection h2 with h2
      omega

def FixItem.eqB (x y : FixItem) : Bool := (x.op.toList == y.op.toList) && (x.n == y.n)
theorem FixItem.neq_run (W : World) (x y : FixItem) : (binOp .neq 57 (.agg #[.string x.op, .int .i64 x.n]) (.agg #[.string y.op, .int .i64 y.n])).run Try.prog W = .ok (.bool (!(FixItem.eqB x y))) W := by
  have u0 := Try.underlying3
  have a0 := Try.isAgg3
  have z0 := Try.sizeOf3
  have u1 := Try.underlying9
  have a1 := Try.isAgg9
  have z1 := Try.sizeOf9
  have hS : Try.prog.underlying 57 = some (.struct (Try.prog.fieldsOf 57)) := by kernel_rfl
  have hp : Try.prog.stoodInHeld 57 = false := by kernel_rfl
  rw [run_neq_struct, show (10000 : Nat) = 9999 + 1 from rfl, run_equalIn_agg W 9999 57 _ _ hS hp]
  simp only [Program.fieldsOf, Try.underlying57]
  go_simp
  by_cases h0 : x.op.toList = y.op.toList <;> by_cases h1 : x.n = y.n <;> simp [FixItem.eqB, h0, h1]

set_option maxHeartbeats 400000 in
theorem itemEqual (l m : List FixItem) (v u : Value) (F G : Nat → Prop) (w : World) (hv : Sl w F FixItem.d l v) (hu : Sl w G FixItem.d m u) :
    Calls Try.prog 29 #[v, u] w fun e w' => e = .returned (.bool (eqBy FixItem.eqB l m)) ∧ Below w.heap.size w w' := by
  obtain ⟨A, c, rfl, hlc, hcm, _⟩ := hv.form
  obtain ⟨B, c', rfl, hmc, hcm', _⟩ := hu.form
  have hl : l.length ≤ 9223372036854775807 := by unfold maxLen at hcm; omega
  have hm : m.length ≤ 9223372036854775807 := by unfold maxLen at hcm'; omega
  by_cases hlen : l.length = m.length
  · have hd : ((l.length : Int) != (m.length : Int)) = false := by rw [bne_eq_false_iff_eq]; omega
    have HL := Lib.hid hlen
    have hlt0 : l.length ≤ m.length := by omega
    clear hlen
    have hne := FixItem.neq_run
    go_enter Try.func29, Try.ntmps29
    go_wp2
    go_loopw [13] (fun i wr => ∃ k : Nat, k ≤ l.length ∧ i = .int .i64 k ∧ Below w.heap.size w wr ∧ Hid (eqBy FixItem.eqB l m = eqBy FixItem.eqB (l.drop k) (m.drop k))) (fun i _ => l.length - (intOf i).toNat)
    case atStart => exact ⟨0, Nat.zero_le _, rfl, Below.refl _ _, rfl⟩
    case round =>
      obtain ⟨k, hk, rfl, hb, hno⟩ := hrel
      by_cases hlt : k < l.length
      · have hst := eqBy_step FixItem.eqB l m k hlt (by omega)
        obtain ⟨ga, offa, rfl, _, a0, a1, _, _⟩ := FixItem.get (hv.later hb) hlt
        obtain ⟨gb, offb, rfl, _, b0, b1, _, _⟩ := FixItem.get (hu.later hb) (show k < m.length by omega)
        have k0 : (0 : Int) ≤ (k : Int) := by omega
        have k1 : (k : Int) < (l.length : Int) := by omega
        have k2 : (k : Int) < (m.length : Int) := by omega
        have hnk := hne
        cases hq : FixItem.eqB l[k] (m[k]'(by omega))
        · have HE := Lib.hid (hno.out.trans (hst.2 hq))
          have hn2 := fun (W : World) => (hne W l[k] (m[k]'(by omega))).trans (by rw [hq])
          clear hst hq hne hnk
          go_wp2
          go_quiet (fail)
          go_wp2
          go_ret
          exact ⟨ret_bool HE.out.symm, Below.drewN hb _⟩
        · have HE := Lib.hid (hno.out.trans (hst.1 hq))
          have hn2 := fun (W : World) => (hne W l[k] (m[k]'(by omega))).trans (by rw [hq])
          clear hst hq hne hnk
          go_wp2
          go_quiet (fail)
          go_wp2
          go_roundw
          case rel => exact ⟨k + 1, by omega, by go_num, Below.drewN hb _, HE.out⟩
          case measure => simp [intOf]; omega
      · have HE := Lib.hid (hno.out.trans (eqBy_end FixItem.eqB l m k (by omega) (by have := HL.out; omega)))
        go_wp2
        go_ret
        exact ⟨ret_bool HE.out.symm, hb⟩
  · have hd : ((l.length : Int) != (m.length : Int)) = true := by rw [bne_iff_ne]; omega
    have HE := Lib.hid (eqBy_len FixItem.eqB l m hlen)
    clear hlen
    go_enter Try.func29, Try.ntmps29
    go_wp2
    go_ret
    exact ⟨ret_bool HE.out.symm, Below.refl _ _⟩
end Go.Proofs.Ytpeabfbljiaedaa
