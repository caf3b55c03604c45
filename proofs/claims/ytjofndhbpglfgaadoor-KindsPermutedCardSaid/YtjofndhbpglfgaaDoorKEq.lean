/- KindsPermuted: slices.Clone of data types, slices.Equal of ints. -/
import Derived.Test.YtjofndhbpglfgaaDoorKRow
import Derived.Deep.QuietTactic
import Derived.BigQuiet
import Derived.WalkSpells
namespace Go.Proofs.YtjofndhbpglfgaaDoor
open Go.RowKit Go.Shelf

theorem infoDataSig : (Tryd.prog.info? 32).map (fun i => (i.zero, i.size, i.bytes)) = some (some (.agg #[.string ⟨#[]⟩, .int .i64 0, .slice none 0 0]), 3, 48) := by kernel_rfl

def DataSigCloned (l : List DataSig) (F : Nat → Prop) (w : World) (e : Ending) (w' : World) : Prop :=
  ∃ v' xs, e = .returned v' ∧ w'.ownsRow w.heap.size 32 3 v' l.length xs ∧ RpAll w' F (l.map DataSig.d) xs ∧ Below w.heap.size w w'

set_option maxHeartbeats 400000 in
theorem dataSigClone (l : List DataSig) (v : Value) (F : Nat → Prop) (w : World) (hv : Sl w F DataSig.d l v) (hF : ∀ b, F b → b < w.heap.size) (hlen : l.length * 48 ≤ 140737488355328) :
    Calls Tryd.prog 15 #[v] w (DataSigCloned l F w) := by
  obtain ⟨i0, hi0, hz0, hz1, hz2⟩ := info_parts infoDataSig
  obtain ⟨A, c, rfl, hlc, hcm, hcn⟩ := hv.form
  have hl : l.length ≤ 9223372036854775807 := by unfold maxLen at hcm; omega
  rcases A with _ | ad
  · have hc0 := hcn rfl
    have hl0 : l.length = 0 := by omega
    have hl1 := List.eq_nil_of_length_eq_zero hl0
    subst hl1
    subst hc0
    have hn := fun (W : World) => Lib.run_eql_slice_nil (P := Tryd.prog) W 22 32 none 0 0 0 0 Tryd.underlying22
    go_enter Tryd.func15, Tryd.ntmps15
    go_wp2
    go_ret
    exact ⟨_, [], rfl, World.ownsRow_nil _ _ _ _, by simp [RpAll], Below.refl _ _⟩
  · have hn := fun (W : World) => Lib.run_eql_slice_nil (P := Tryd.prog) W 22 32 (some ad) l.length c 0 0 Tryd.underlying22
    have hown := World.ownsRow_lit (base := w.heap.size) (e := 32) (size := 3) w #[] 0 (Nat.le_refl _) (by unfold maxLen; omega) (by simp)
    have hb0 : Below w.heap.size w (w.alloc (.cells #[] 32)) := (Below.refl _ _).alloc (Nat.le_refl _) _
    have hv0 := hv.later hb0
    go_enter Tryd.func15, Tryd.ntmps15
    go_wp2_with (at_builtin; refine wpList_append_sl _ rfl _ _ 22 rfl w.heap.size 32 i0 _ 3 48 Tryd.underlying22 hi0 hz0 hz1 hz2 rfl (by omega) _ 0 [] rfl hown DataSig.d DataSig.wide F l _ _ _ rfl hv0 (by unfold maxLen; omega) (by omega) (by simp) ?_; intro v' w1 news hnews hown1 hgrow hat)
    go_ret
    simp only [Nat.zero_add, List.nil_append] at hown1
    refine ⟨v', news, rfl, hown1, hnews.grown hgrow ?_, hb0.grown hgrow (by simp) ?_⟩
    · intro b hb h
      have := hF b hb
      have h2 : some b = some w.heap.size := h
      injection h2 with h2
      omega
    · intro k hk
      have h2 : some w.heap.size = some k := hk
      injection h2 with h2
      omega

theorem kEqStep {l m : List Int} {k : Nat} (h1 : k < l.length) (h2 : k < m.length) : decide (l.drop k = m.drop k) = (decide (l[k] = m[k]) && decide (l.drop (k + 1) = m.drop (k + 1))) := by
  rw [List.drop_eq_getElem_cons h1, List.drop_eq_getElem_cons h2, ← Bool.decide_and]
  congr 1
  exact propext ⟨fun h => ⟨(List.cons.inj h).1, (List.cons.inj h).2⟩, fun h => by rw [h.1, h.2]⟩

set_option maxHeartbeats 400000 in
theorem kIntEqual (l m : List Int) (v u : Value) (F G : Nat → Prop) (w : World) (hv : Sl w F dInt l v) (hu : Sl w G dInt m u) :
    Calls Tryd.prog 19 #[v, u] w fun e w' => e = .returned (.bool (decide (l = m))) ∧ Below w.heap.size w w' := by
  obtain ⟨A, c, rfl, hlc, hcm, _⟩ := hv.form
  obtain ⟨B, c', rfl, hmc, hcm', _⟩ := hu.form
  have hl : l.length ≤ 9223372036854775807 := by unfold maxLen at hcm; omega
  have hm : m.length ≤ 9223372036854775807 := by unfold maxLen at hcm'; omega
  by_cases hlen : l.length = m.length
  · have hd : ((l.length : Int) != (m.length : Int)) = false := by rw [bne_eq_false_iff_eq]; omega
    have HL := Lib.hid hlen
    have hlt0 : l.length ≤ m.length := by omega
    clear hlen
    go_enter Tryd.func19, Tryd.ntmps19
    go_wp2
    go_loopw [13] (fun i wr => ∃ k : Nat, k ≤ l.length ∧ i = .int .i64 k ∧ Below w.heap.size w wr ∧ Hid (decide (l = m) = decide (l.drop k = m.drop k))) (fun i _ => l.length - (intOf i).toNat)
    case atStart => exact ⟨0, Nat.zero_le _, rfl, Below.refl _ _, rfl⟩
    case round =>
      obtain ⟨k, hk, rfl, hb, hno⟩ := hrel
      by_cases hlt : k < l.length
      · have hst := kEqStep (l := l) (m := m) hlt (by omega)
        obtain ⟨ga, offa, rfl, _, a0, _⟩ := dInt.get (hv.later hb) hlt
        obtain ⟨gb, offb, rfl, _, b0, _⟩ := dInt.get (hu.later hb) (show k < m.length by omega)
        have k0 : (0 : Int) ≤ (k : Int) := by omega
        have k1 : (k : Int) < (l.length : Int) := by omega
        have k2 : (k : Int) < (m.length : Int) := by omega
        by_cases hq : l[k] = m[k]'(by omega)
        · have HE := Lib.hid (hno.out.trans (hst.trans (by rw [decide_eq_true hq, Bool.true_and])))
          have hn2 : (l[k] != (m[k]'(by omega))) = false := by rw [bne_eq_false_iff_eq]; exact hq
          clear hst hq
          go_wp2
          go_quiet (fail)
          go_wp2
          go_roundw
          case rel => exact ⟨k + 1, by omega, by go_num, Below.drewN hb _, HE.out⟩
          case measure => simp [intOf]; omega
        · have HE := Lib.hid (hno.out.trans (hst.trans (by rw [decide_eq_false hq, Bool.false_and])))
          have hn2 : (l[k] != (m[k]'(by omega))) = true := by rw [bne_iff_ne]; exact hq
          clear hst hq
          go_wp2
          go_quiet (fail)
          go_wp2
          go_ret
          exact ⟨ret_bool HE.out.symm, Below.drewN hb _⟩
      · have k1 : ¬ (k : Int) < (l.length : Int) := by omega
        have hz : decide (l.drop k = m.drop k) = true := decide_eq_true (by rw [List.drop_eq_nil_of_le (by omega), List.drop_eq_nil_of_le (by have := HL.out; omega)])
        have HE := Lib.hid (hno.out.trans hz)
        go_wp2
        go_ret
        exact ⟨ret_bool HE.out.symm, hb⟩
  · have hd : ((l.length : Int) != (m.length : Int)) = true := by rw [bne_iff_ne]; omega
    have hne : decide (l = m) = false := decide_eq_false fun e => hlen (by rw [e])
    have HN := Lib.hid hne
    clear hne
    go_enter Tryd.func19, Tryd.ntmps19
    go_wp2
    go_ret
    exact ⟨ret_bool HN.out.symm, Below.refl _ _⟩

end Go.Proofs.YtjofndhbpglfgaaDoor
