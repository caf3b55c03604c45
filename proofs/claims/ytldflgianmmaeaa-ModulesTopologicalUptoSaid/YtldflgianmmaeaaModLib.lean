/- The library at strings: slices.Index, Contains, IndexFunc, ContainsFunc, Equal. -/
import Derived.Test.YtldflgianmmaeaaRows
import Derived.Test.YtldflgianmmaeaaBase
import Derived.Deep.QuietTactic
import Derived.BigQuiet
namespace Go.Proofs.Ytldflgianmmaeaa
open Go.RowKit Go.Shelf

set_option maxHeartbeats 400000 in
theorem strIndex (l : List ByteArray) (x : ByteArray) (v : Value) (F : Nat → Prop) (w : World) (hv : Sl w F dStr l v) :
    Calls Try.prog 8 #[v, .string x] w fun e w' => e = .returned (.int .i64 (idxInt (fun y => decide (x = y)) l)) ∧ w = w' := by
  obtain ⟨A, c, rfl, hlc, hcm, _⟩ := hv.form
  have hl : l.length ≤ 9223372036854775807 := by unfold maxLen at hcm; omega
  go_enter Try.func8, Try.ntmps8
  go_wp2
  go_loopw [5, 8] (fun _ i wr => ∃ k : Nat, k ≤ l.length ∧ i = .int .i64 k ∧ w = wr ∧ Hid (idxInt (fun y => decide (x = y)) l = idxFrom (fun y => decide (x = y)) (l.drop k) k)) (fun _ i _ => l.length - (intOf i).toNat)
  case atStart => exact ⟨0, Nat.zero_le _, rfl, by trivial, rfl⟩
  case round =>
    obtain ⟨k, hk, rfl, rfl, hno⟩ := hrel
    by_cases hlt : k < l.length
    · obtain ⟨g, off, rfl, hF, c0, s0⟩ := dStr.get hv hlt
      have hst := idxFrom_step (fun y => decide (x = y)) l k hlt
      by_cases hp : x = l[k]
      · have HE := Lib.hid (hno.out.trans (hst.2 (by simpa using hp)))
        have e := str_yes hp
        clear hst hp
        go_wp2_with fail
        go_ret
        exact ⟨ret_int HE.out.symm, rfl⟩
      · have HE := Lib.hid (hno.out.trans (hst.1 (by simpa using hp)))
        have e := str_no hp
        clear hst hp
        go_wp2_with fail
        go_roundw
        case rel => exact ⟨k + 1, by omega, by go_num, by trivial, HE.out⟩
        case measure => simp [intOf]; omega
    · have HE := Lib.hid (hno.out.trans (idxFrom_end (fun y => decide (x = y)) l k (by omega)))
      go_wp2
      go_ret
      exact ⟨ret_int HE.out.symm, rfl⟩

theorem strContains (l : List ByteArray) (x : ByteArray) (v : Value) (F : Nat → Prop) (w : World) (hv : Sl w F dStr l v) :
    Calls Try.prog 7 #[v, .string x] w fun e w' => e = .returned (.bool (l.any (fun y => decide (x = y)))) ∧ w = w' := by
  have HN := Lib.hid (strIndex l x v F w hv)
  have HE := Lib.hid (idxInt_any (fun y => decide (x = y)) l)
  clear hv
  go_enter Try.func7, Try.ntmps7
  go_wp2_with fail
  with_reducible refine HN.out.mono ?_
  rintro e w1 ⟨rfl, rfl⟩
  go_wp2
  go_ret
  exact ⟨ret_bool (by rw [HE.out]), rfl⟩


set_option maxHeartbeats 400000 in
theorem strIndexFunc (l : List ByteArray) (v : Value) (F : Nat → Prop) (w : World) (hv : Sl w F dStr l v) (m : FuncId) (cap : Array Value) (p : ByteArray → Bool)
    (eg : Enters Try.prog m) (hc : ∀ x : ByteArray, Calls Try.prog m (#[.string x] ++ cap) w fun e w' => e = .returned (.bool (p x)) ∧ w = w') :
    Calls Try.prog 21 #[v, .func (.func m) #[] cap] w fun e w' => e = .returned (.int .i64 (idxInt p l)) ∧ w = w' := by
  obtain ⟨A, c, rfl, hlc, hcm, _⟩ := hv.form
  have hl : l.length ≤ 9223372036854775807 := by unfold maxLen at hcm; omega
  have HC := Lib.hid hc
  clear hc
  unfold Enters at eg
  go_enter Try.func21, Try.ntmps21
  go_wp2
  go_loopw [5, 8] (fun _ i wr => ∃ k : Nat, k ≤ l.length ∧ i = .int .i64 k ∧ w = wr ∧ Hid (idxInt p l = idxFrom p (l.drop k) k)) (fun _ i _ => l.length - (intOf i).toNat)
  case atStart => exact ⟨0, Nat.zero_le _, rfl, by trivial, rfl⟩
  case round =>
    obtain ⟨k, hk, rfl, rfl, hno⟩ := hrel
    by_cases hlt : k < l.length
    · obtain ⟨g, off, rfl, hF, c0, s0⟩ := dStr.get hv hlt
      have HN := Lib.hid (HC.out l[k])
      have hst := idxFrom_step p l k hlt
      cases hp : p l[k]
      · have HE := Lib.hid (hno.out.trans (hst.1 hp))
        rw [hp] at HN
        clear hst hp
        go_wp2_with fail
        refine HN.out.mono ?_
        rintro e w1 ⟨rfl, rfl⟩
        go_wp2
        go_roundw
        case rel => exact ⟨k + 1, by omega, by go_num, by trivial, HE.out⟩
        case measure => simp [intOf]; omega
      · have HE := Lib.hid (hno.out.trans (hst.2 hp))
        rw [hp] at HN
        clear hst hp
        go_wp2_with fail
        refine HN.out.mono ?_
        rintro e w1 ⟨rfl, rfl⟩
        go_wp2
        go_ret
        exact ⟨ret_int HE.out.symm, rfl⟩
    · have HE := Lib.hid (hno.out.trans (idxFrom_end p l k (by omega)))
      go_wp2
      go_ret
      exact ⟨ret_int HE.out.symm, rfl⟩

set_option maxHeartbeats 400000 in
theorem strContainsFunc (l : List ByteArray) (v : Value) (F : Nat → Prop) (w : World) (hv : Sl w F dStr l v) (m : FuncId) (cap : Array Value) (p : ByteArray → Bool)
    (eg : Enters Try.prog m) (hc : ∀ x : ByteArray, Calls Try.prog m (#[.string x] ++ cap) w fun e w' => e = .returned (.bool (p x)) ∧ w = w') :
    Calls Try.prog 14 #[v, .func (.func m) #[] cap] w fun e w' => e = .returned (.bool (l.any p)) ∧ w = w' := by
  have HN := Lib.hid (strIndexFunc l v F w hv m cap p eg hc)
  have HE := Lib.hid (idxInt_any p l)
  clear hc hv eg
  go_enter Try.func14, Try.ntmps14
  go_wp2_with fail
  refine HN.out.mono ?_
  rintro e w1 ⟨rfl, rfl⟩
  go_wp2
  go_ret
  exact ⟨ret_bool (by rw [HE.out]), rfl⟩

theorem eq_drop_step {l m : List ByteArray} {k : Nat} (h1 : k < l.length) (h2 : k < m.length) : decide (l.drop k = m.drop k) = (decide (l[k] = m[k]) && decide (l.drop (k + 1) = m.drop (k + 1))) := by
  rw [List.drop_eq_getElem_cons h1, List.drop_eq_getElem_cons h2, ← Bool.decide_and]
  congr 1
  exact propext ⟨fun h => ⟨(List.cons.inj h).1, (List.cons.inj h).2⟩, fun h => by rw [h.1, h.2]⟩

set_option maxHeartbeats 400000 in
theorem strEqual (l m : List ByteArray) (v u : Value) (F G : Nat → Prop) (w : World) (hv : Sl w F dStr l v) (hu : Sl w G dStr m u) :
    Calls Try.prog 6 #[v, u] w fun e w' => e = .returned (.bool (decide (l = m))) ∧ Below w.heap.size w w' := by
  obtain ⟨A, c, rfl, hlc, hcm, _⟩ := hv.form
  obtain ⟨B, c', rfl, hmc, hcm', _⟩ := hu.form
  have hl : l.length ≤ 9223372036854775807 := by unfold maxLen at hcm; omega
  have hm : m.length ≤ 9223372036854775807 := by unfold maxLen at hcm'; omega
  by_cases hlen : l.length = m.length
  · have hd : ((l.length : Int) != (m.length : Int)) = false := by rw [bne_eq_false_iff_eq]; omega
    have HL := Lib.hid hlen
    have hlt0 : l.length ≤ m.length := by omega
    clear hlen
    go_enter Try.func6, Try.ntmps6
    go_wp2
    go_loopw [13] (fun i wr => ∃ k : Nat, k ≤ l.length ∧ i = .int .i64 k ∧ Below w.heap.size w wr ∧ Hid (decide (l = m) = decide (l.drop k = m.drop k))) (fun i _ => l.length - (intOf i).toNat)
    case atStart => exact ⟨0, Nat.zero_le _, rfl, Below.refl _ _, rfl⟩
    case round =>
      obtain ⟨k, hk, rfl, hb, hno⟩ := hrel
      by_cases hlt : k < l.length
      · have hst := eq_drop_step (l := l) (m := m) hlt (by omega)
        obtain ⟨ga, offa, rfl, _, a0, _⟩ := dStr.get (hv.later hb) hlt
        obtain ⟨gb, offb, rfl, _, b0, _⟩ := dStr.get (hu.later hb) (show k < m.length by omega)
        have k0 : (0 : Int) ≤ (k : Int) := by omega
        have k1 : (k : Int) < (l.length : Int) := by omega
        have k2 : (k : Int) < (m.length : Int) := by omega
        by_cases hq : l[k] = m[k]'(by omega)
        · have HE := Lib.hid (hno.out.trans (hst.trans (by rw [decide_eq_true hq, Bool.true_and])))
          have hn2 : (l[k].toList == (m[k]'(by omega)).toList) = true := str_yes hq
          clear hst hq
          go_wp2
          go_quiet (fail)
          go_wp2
          go_roundw
          case rel => exact ⟨k + 1, by omega, by go_num, Below.drewN hb _, HE.out⟩
          case measure => simp [intOf]; omega
        · have HE := Lib.hid (hno.out.trans (hst.trans (by rw [decide_eq_false hq, Bool.false_and])))
          have hn2 : (l[k].toList == (m[k]'(by omega)).toList) = false := str_no hq
          clear hst hq
          go_wp2
          go_quiet (fail)
          go_wp2
          go_ret
          exact ⟨ret_bool HE.out.symm, Below.drewN hb _⟩
      · have k1 : ¬ (k : Int) < (l.length : Int) := by omega
        have hz : decide (l.drop k = m.drop k) = true := decide_eq_true (by rw [List.drop_eq_nil_of_le (by omega), List.drop_eq_nil_of_le (by have := HL.out; omega)])
        have HE := Lib.hid (hno.out.trans hz)
        go_wp2
        go_ret
        exact ⟨ret_bool HE.out.symm, hb⟩
  · have hd : ((l.length : Int) != (m.length : Int)) = true := by rw [bne_iff_ne]; omega
    have hne : decide (l = m) = false := decide_eq_false fun e => hlen (by rw [e])
    have HN := Lib.hid hne
    clear hne
    go_enter Try.func6, Try.ntmps6
    go_wp2
    go_ret
    exact ⟨ret_bool HN.out.symm, Below.refl _ _⟩
end Go.Proofs.Ytldflgianmmaeaa
