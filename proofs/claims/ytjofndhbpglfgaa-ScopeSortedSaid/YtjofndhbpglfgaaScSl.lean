/- slices.Clone, slices.Equal and slices.Index at api.Diag. No conditions but the form's own reach. -/
import Derived.Test.YtjofndhbpglfgaaScTypes
import Derived.Test.YtjofndhbpglfgaaSlices
import Derived.Deep.QuietTactic
import Derived.BigQuiet
import Derived.WalkSpells
namespace Go.Proofs.Ytjofndhbpglfgaa
open Go.RowKit Go.Shelf

theorem infoDiag : (Try.prog.info? 25).map (fun i => (i.zero, i.size, i.bytes)) = some (some (.agg #[.int .i64 0, .int .i64 0, .int .i64 0, .string ⟨#[]⟩]), 4, 40) := by kernel_rfl

def DiagCloned (l : List Diag) (F : Nat → Prop) (w : World) (e : Ending) (w' : World) : Prop :=
  ∃ v' xs, e = .returned v' ∧ w'.ownsRow w.heap.size 25 4 v' l.length xs ∧ RpAll w' F (l.map Diag.d) xs ∧ Below w.heap.size w w'

set_option maxHeartbeats 400000 in
theorem diagClone (l : List Diag) (v : Value) (F : Nat → Prop) (w : World) (hv : Sl w F Diag.d l v) (hF : ∀ b, F b → b < w.heap.size) (hlen : l.length * 40 ≤ 140737488355328) :
    Calls Try.prog 7 #[v] w (DiagCloned l F w) := by
  obtain ⟨i0, hi0, hz0, hz1, hz2⟩ := info_parts infoDiag
  obtain ⟨A, c, rfl, hlc, hcm, hcn⟩ := hv.form
  have hl : l.length ≤ 9223372036854775807 := by unfold maxLen at hcm; omega
  rcases A with _ | ad
  · have hc0 := hcn rfl
    have hl0 : l.length = 0 := by omega
    have hl1 := List.eq_nil_of_length_eq_zero hl0
    subst hl1
    subst hc0
    have hn := fun (W : World) => Lib.run_eql_slice_nil (P := Try.prog) W 22 25 none 0 0 0 0 Try.underlying22
    go_enter Try.func7, Try.ntmps7
    go_wp2
    go_ret
    exact ⟨_, [], rfl, World.ownsRow_nil _ _ _ _, by simp [RpAll], Below.refl _ _⟩
  · have hn := fun (W : World) => Lib.run_eql_slice_nil (P := Try.prog) W 22 25 (some ad) l.length c 0 0 Try.underlying22
    have hown := World.ownsRow_lit (base := w.heap.size) (e := 25) (size := 4) w #[] 0 (Nat.le_refl _) (by unfold maxLen; omega) (by simp)
    have hb0 : Below w.heap.size w (w.alloc (.cells #[] 25)) := (Below.refl _ _).alloc (Nat.le_refl _) _
    have hv0 := hv.later hb0
    go_enter Try.func7, Try.ntmps7
    go_wp2_with (at_builtin; refine wpList_append_sl _ rfl _ _ 22 rfl w.heap.size 25 i0 _ 4 40 Try.underlying22 hi0 hz0 hz1 hz2 rfl (by omega) _ 0 [] rfl hown Diag.d Diag.wide F l _ _ _ rfl hv0 (by unfold maxLen; omega) (by omega) (by simp) ?_; intro v' w1 news hnews hown1 hgrow hat)
    go_ret
    simp only [Nat.zero_add, List.nil_append] at hown1
    refine ⟨v', news, rfl, hown1, hnews.grown hgrow ?_, hb0.grown hgrow (by simp) ?_⟩
    · intro b hb h
      have := hF b hb
      have h2 : some b = some w.heap.size := h
      injection h2 with h2
      omega
    · intro k hk
      have h2 : some w.heap.size = some k := hk
      injection h2 with h2
      omega

def Diag.eqB (x y : Diag) : Bool := (x.code == y.code) && (x.line == y.line) && (x.col == y.col) && (x.text.toList == y.text.toList)
theorem Diag.neq_run (W : World) (x y : Diag) : (binOp .neq 25 (.agg #[.int .i64 x.code, .int .i64 x.line, .int .i64 x.col, .string x.text]) (.agg #[.int .i64 y.code, .int .i64 y.line, .int .i64 y.col, .string y.text])).run Try.prog W = .ok (.bool (!(Diag.eqB x y))) W := by
  have u0 := Try.underlying3
  have a0 := Try.isAgg3
  have z0 := Try.sizeOf3
  have u1 := Try.underlying9
  have a1 := Try.isAgg9
  have z1 := Try.sizeOf9
  have u7 := Try.underlying23
  have a7 := Try.isAgg23
  have z7 := Try.sizeOf23
  have hS : Try.prog.underlying 25 = some (.struct (Try.prog.fieldsOf 25)) := by kernel_rfl
  have hp : Try.prog.stoodInHeld 25 = false := by kernel_rfl
  rw [run_neq_struct, show (10000 : Nat) = 9999 + 1 from rfl, run_equalIn_agg W 9999 25 _ _ hS hp]
  simp only [Program.fieldsOf, Try.underlying25]
  go_simp
  by_cases h0 : x.code = y.code <;> by_cases h1 : x.line = y.line <;> by_cases h2 : x.col = y.col <;> by_cases h3 : x.text.toList = y.text.toList <;> simp [Diag.eqB, h0, h1, h2, h3]
theorem Diag.eql_run (W : World) (x y : Diag) : (binOp .eql 25 (.agg #[.int .i64 x.code, .int .i64 x.line, .int .i64 x.col, .string x.text]) (.agg #[.int .i64 y.code, .int .i64 y.line, .int .i64 y.col, .string y.text])).run Try.prog W = .ok (.bool (Diag.eqB x y)) W := by
  have u0 := Try.underlying3
  have a0 := Try.isAgg3
  have z0 := Try.sizeOf3
  have u1 := Try.underlying9
  have a1 := Try.isAgg9
  have z1 := Try.sizeOf9
  have u7 := Try.underlying23
  have a7 := Try.isAgg23
  have z7 := Try.sizeOf23
  have hS : Try.prog.underlying 25 = some (.struct (Try.prog.fieldsOf 25)) := by kernel_rfl
  have hp : Try.prog.stoodInHeld 25 = false := by kernel_rfl
  rw [run_eql_struct, show (10000 : Nat) = 9999 + 1 from rfl, run_equalIn_agg W 9999 25 _ _ hS hp]
  simp only [Program.fieldsOf, Try.underlying25]
  go_simp
  by_cases h0 : x.code = y.code <;> by_cases h1 : x.line = y.line <;> by_cases h2 : x.col = y.col <;> by_cases h3 : x.text.toList = y.text.toList <;> simp [Diag.eqB, h0, h1, h2, h3]

set_option maxHeartbeats 400000 in
theorem diagEqual (l m : List Diag) (v u : Value) (F G : Nat → Prop) (w : World) (hv : Sl w F Diag.d l v) (hu : Sl w G Diag.d m u) :
    Calls Try.prog 5 #[v, u] w fun e w' => e = .returned (.bool (eqBy Diag.eqB l m)) ∧ Below w.heap.size w w' := by
  obtain ⟨A, c, rfl, hlc, hcm, _⟩ := hv.form
  obtain ⟨B, c', rfl, hmc, hcm', _⟩ := hu.form
  have hl : l.length ≤ 9223372036854775807 := by unfold maxLen at hcm; omega
  have hm : m.length ≤ 9223372036854775807 := by unfold maxLen at hcm'; omega
  by_cases hlen : l.length = m.length
  · have hd : ((l.length : Int) != (m.length : Int)) = false := by rw [bne_eq_false_iff_eq]; omega
    have HL := Lib.hid hlen
    have hlt0 : l.length ≤ m.length := by omega
    clear hlen
    have hne := Diag.neq_run
    go_enter Try.func5, Try.ntmps5
    go_wp2
    go_loopw [13] (fun i wr => ∃ k : Nat, k ≤ l.length ∧ i = .int .i64 k ∧ Below w.heap.size w wr ∧ Hid (eqBy Diag.eqB l m = eqBy Diag.eqB (l.drop k) (m.drop k))) (fun i _ => l.length - (intOf i).toNat)
    case atStart => exact ⟨0, Nat.zero_le _, rfl, Below.refl _ _, rfl⟩
    case round =>
      obtain ⟨k, hk, rfl, hb, hno⟩ := hrel
      by_cases hlt : k < l.length
      · have hst := eqBy_step Diag.eqB l m k hlt (by omega)
        obtain ⟨ga, offa, rfl, _, a0, a1, a2, a3, _, _, _, _⟩ := Diag.get (hv.later hb) hlt
        obtain ⟨gb, offb, rfl, _, b0, b1, b2, b3, _, _, _, _⟩ := Diag.get (hu.later hb) (show k < m.length by omega)
        have k0 : (0 : Int) ≤ (k : Int) := by omega
        have k1 : (k : Int) < (l.length : Int) := by omega
        have k2 : (k : Int) < (m.length : Int) := by omega
        have hnk := hne
        cases hq : Diag.eqB l[k] (m[k]'(by omega))
        · have HE := Lib.hid (hno.out.trans (hst.2 hq))
          have hn2 := fun (W : World) => (hne W l[k] (m[k]'(by omega))).trans (by rw [hq])
          clear hst hq hne hnk
          go_wp2
          go_quiet (fail)
          go_wp2
          go_ret
          exact ⟨ret_bool HE.out.symm, Below.drewN hb _⟩
        · have HE := Lib.hid (hno.out.trans (hst.1 hq))
          have hn2 := fun (W : World) => (hne W l[k] (m[k]'(by omega))).trans (by rw [hq])
          clear hst hq hne hnk
          go_wp2
          go_quiet (fail)
          go_wp2
          go_roundw
          case rel => exact ⟨k + 1, by omega, by go_num, Below.drewN hb _, HE.out⟩
          case measure => simp [intOf]; omega
      · have HE := Lib.hid (hno.out.trans (eqBy_end Diag.eqB l m k (by omega) (by have := HL.out; omega)))
        go_wp2
        go_ret
        exact ⟨ret_bool HE.out.symm, hb⟩
  · have hd : ((l.length : Int) != (m.length : Int)) = true := by rw [bne_iff_ne]; omega
    have HE := Lib.hid (eqBy_len Diag.eqB l m hlen)
    clear hlen
    go_enter Try.func5, Try.ntmps5
    go_wp2
    go_ret
    exact ⟨ret_bool HE.out.symm, Below.refl _ _⟩

theorem Diag.eqB_iff {x y : Diag} : Diag.eqB x y = true ↔ x = y := by
  obtain ⟨a, b, c, d⟩ := x
  obtain ⟨a', b', c', d'⟩ := y
  unfold Diag.eqB
  simp only [Bool.and_eq_true, beq_iff_eq, Diag.mk.injEq]
  constructor
  · rintro ⟨⟨⟨h1, h2⟩, h3⟩, h4⟩
    exact ⟨h1, h2, h3, str_inj h4⟩
  · rintro ⟨h1, h2, h3, h4⟩
    exact ⟨⟨⟨h1, h2⟩, h3⟩, by rw [h4]⟩
def diagIdx (x : Diag) (l : List Diag) : Int := idxInt (fun y => Diag.eqB x y) l
set_option maxHeartbeats 1000000 in
theorem diagIndex (l : List Diag) (v : Value) (F : Nat → Prop) (w : World) (hv : Sl w F Diag.d l v) (x : Diag) :
    Calls Try.prog 14 #[v, .agg #[.int .i64 x.code, .int .i64 x.line, .int .i64 x.col, .string x.text]] w fun e w' => e = .returned (.int .i64 (diagIdx x l)) ∧ Below w.heap.size w w' := by
  obtain ⟨A, c, rfl, hlc, hcm, _⟩ := hv.form
  have hl : l.length ≤ 9223372036854775807 := by unfold maxLen at hcm; omega
  have hne := Diag.eql_run
  go_enter Try.func14, Try.ntmps14
  go_wp2
  go_loopw [8] (fun i wr => ∃ k : Nat, k ≤ l.length ∧ i = .int .i64 k ∧ Below w.heap.size w wr ∧ Blk wr w.heap.size 25 [.int .i64 x.code, .int .i64 x.line, .int .i64 x.col, .string x.text] ∧ Hid (diagIdx x l = idxFrom (fun y => Diag.eqB x y) (l.drop k) k)) (fun i _ => l.length - (intOf i).toNat)
  case atStart => exact ⟨0, Nat.zero_le _, rfl, (Below.refl _ _).alloc (Nat.le_refl _) _, Blk.new w _ [_, _, _, _], rfl⟩
  case round =>
    obtain ⟨k, hk, rfl, hb, hblk, hno⟩ := hrel
    have x0 := hblk.cell (i := 0) rfl
    have x1 := hblk.cell (i := 1) rfl
    have x2 := hblk.cell (i := 2) rfl
    have x3 := hblk.cell (i := 3) rfl
    by_cases hlt : k < l.length
    · have hst := idxFrom_step (fun y => Diag.eqB x y) l k hlt
      obtain ⟨ga, offa, rfl, _, a0, a1, a2, a3, _, _, _, _⟩ := Diag.get (hv.later hb) hlt
      have k0 : (0 : Int) ≤ (k : Int) := by omega
      have k1 : (k : Int) < (l.length : Int) := by omega
      cases hq : Diag.eqB x l[k]
      · have HE := Lib.hid (hno.out.trans (hst.1 hq))
        have hn2 := fun (W : World) => (hne W x l[k]).trans (by rw [hq])
        have HB := Lib.hid hblk
        clear hst hq hne hblk
        go_wp2
        go_quiet (fail)
        go_wp2
        go_roundw
        case rel => exact ⟨k + 1, by omega, by go_num, Below.drewN hb _, HB.out.drewN _, HE.out⟩
        case measure => simp [intOf]; omega
      · have HE := Lib.hid (hno.out.trans (hst.2 hq))
        have hn2 := fun (W : World) => (hne W x l[k]).trans (by rw [hq])
        clear hst hq hne hblk
        go_wp2
        go_quiet (fail)
        go_wp2
        go_ret
        exact ⟨ret_int HE.out.symm, Below.drewN hb _⟩
    · have HE := Lib.hid (hno.out.trans (idxFrom_end (fun y => Diag.eqB x y) l k (by omega)))
      clear hne
      go_wp2
      go_ret
      exact ⟨ret_int HE.out.symm, hb⟩
end Go.Proofs.Ytjofndhbpglfgaa

