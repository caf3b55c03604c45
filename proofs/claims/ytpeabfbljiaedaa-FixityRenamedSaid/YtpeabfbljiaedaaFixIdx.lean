/- slices.IndexFunc and ContainsFunc at the structs of fixity: the first element that a function value accepts. No conditions but that the function value does so. -/
import Derived.Test.YtpeabfbljiaedaaFixTypes
namespace Go.Proofs.Ytpeabfbljiaedaa
open Go.RowKit Go.Shelf

set_option maxHeartbeats 400000 in
theorem sigIndexFunc (l : List FixSig) (v : Value) (F : Nat → Prop) (w : World) (hv : Sl w F FixSig.d l v) (m : FuncId) (cap : Array Value) (p : FixSig → Bool)
    (eg : Enters Try.prog m) (hc : ∀ i (h : i < l.length) cs w1, Below w.heap.size w w1 → Rp w1 F (FixSig.d l[i]) cs → Calls Try.prog m (#[.agg cs.toArray] ++ cap) w1 fun e w' => e = .returned (.bool (p l[i])) ∧ Below w1.heap.size w1 w') :
    Calls Try.prog 48 #[v, .func (.func m) #[] cap] w fun e w' => e = .returned (.int .i64 (idxInt p l)) ∧ Below w.heap.size w w' := by
  obtain ⟨A, c, rfl, hlc, hcm, _⟩ := hv.form
  have hl : l.length ≤ 9223372036854775807 := by unfold maxLen at hcm; omega
  have HC := Lib.hid hc
  clear hc
  unfold Enters at eg
  go_enter Try.func48, Try.ntmps48
  go_wp2
  go_loopw [5, 8] (fun _ i wr => ∃ k : Nat, k ≤ l.length ∧ i = .int .i64 k ∧ Below w.heap.size w wr ∧ Hid (idxInt p l = idxFrom p (l.drop k) k)) (fun _ i _ => l.length - (intOf i).toNat)
  case atStart => exact ⟨0, Nat.zero_le _, rfl, Below.refl _ _, rfl⟩
  case round =>
    obtain ⟨k, hk, rfl, hb, hno⟩ := hrel
    by_cases hlt : k < l.length
    · have hv' := hv.later hb
      obtain ⟨g, off, rfl, hF, c0, c1, c2, s0, s1, s2⟩ := FixSig.get hv' hlt
      have HN := Lib.hid (HC.out k hlt [.string l[k].op, .int .i64 l[k].side, .int .i64 l[k].level] _ hb (FixSig.rp.2 ⟨rfl, s0, s1, s2⟩))
      have hst := idxFrom_step p l k hlt
      cases hp : p l[k]
      · have HE := Lib.hid (hno.out.trans (hst.1 hp))
        rw [hp] at HN
        clear hst hp
        go_wp2_with fail
        refine HN.out.mono ?_
        rintro e w1 ⟨rfl, hb1⟩
        go_wp2
        go_roundw
        case rel => exact ⟨k + 1, by omega, by go_num, hb.trans (hb1.mono hb.size), HE.out⟩
        case measure => simp [intOf]; omega
      · have HE := Lib.hid (hno.out.trans (hst.2 hp))
        rw [hp] at HN
        clear hst hp
        go_wp2_with fail
        refine HN.out.mono ?_
        rintro e w1 ⟨rfl, hb1⟩
        go_wp2
        go_ret
        exact ⟨ret_int HE.out.symm, hb.trans (hb1.mono hb.size)⟩
    · have HE := Lib.hid (hno.out.trans (idxFrom_end p l k (by omega)))
      go_wp2
      go_ret
      exact ⟨ret_int HE.out.symm, hb⟩

set_option maxHeartbeats 400000 in
theorem sigContainsFunc (l : List FixSig) (v : Value) (F : Nat → Prop) (w : World) (hv : Sl w F FixSig.d l v) (m : FuncId) (cap : Array Value) (p : FixSig → Bool)
    (eg : Enters Try.prog m) (hc : ∀ i (h : i < l.length) cs w1, Below w.heap.size w w1 → Rp w1 F (FixSig.d l[i]) cs → Calls Try.prog m (#[.agg cs.toArray] ++ cap) w1 fun e w' => e = .returned (.bool (p l[i])) ∧ Below w1.heap.size w1 w') :
    Calls Try.prog 31 #[v, .func (.func m) #[] cap] w fun e w' => e = .returned (.bool (l.any p)) ∧ Below w.heap.size w w' := by
  have HN := Lib.hid (sigIndexFunc l v F w hv m cap p eg hc)
  clear hc hv
  have HE := Lib.hid (idxInt_any p l)
  clear eg
  go_enter Try.func31, Try.ntmps31
  go_wp2_with fail
  refine HN.out.mono ?_
  rintro e w1 ⟨rfl, hb1⟩
  go_wp2
  go_ret
  exact ⟨ret_bool (by rw [HE.out]), hb1⟩

set_option maxHeartbeats 400000 in
theorem itemIndexFunc (l : List FixItem) (v : Value) (F : Nat → Prop) (w : World) (hv : Sl w F FixItem.d l v) (m : FuncId) (cap : Array Value) (p : FixItem → Bool)
    (eg : Enters Try.prog m) (hc : ∀ i (h : i < l.length) cs w1, Below w.heap.size w w1 → Rp w1 F (FixItem.d l[i]) cs → Calls Try.prog m (#[.agg cs.toArray] ++ cap) w1 fun e w' => e = .returned (.bool (p l[i])) ∧ Below w1.heap.size w1 w') :
    Calls Try.prog 49 #[v, .func (.func m) #[] cap] w fun e w' => e = .returned (.int .i64 (idxInt p l)) ∧ Below w.heap.size w w' := by
  obtain ⟨A, c, rfl, hlc, hcm, _⟩ := hv.form
  have hl : l.length ≤ 9223372036854775807 := by unfold maxLen at hcm; omega
  have HC := Lib.hid hc
  clear hc
  unfold Enters at eg
  go_enter Try.func49, Try.ntmps49
  go_wp2
  go_loopw [5, 8] (fun _ i wr => ∃ k : Nat, k ≤ l.length ∧ i = .int .i64 k ∧ Below w.heap.size w wr ∧ Hid (idxInt p l = idxFrom p (l.drop k) k)) (fun _ i _ => l.length - (intOf i).toNat)
  case atStart => exact ⟨0, Nat.zero_le _, rfl, Below.refl _ _, rfl⟩
  case round =>
    obtain ⟨k, hk, rfl, hb, hno⟩ := hrel
    by_cases hlt : k < l.length
    · have hv' := hv.later hb
      obtain ⟨g, off, rfl, hF, c0, c1, s0, s1⟩ := FixItem.get hv' hlt
      have HN := Lib.hid (HC.out k hlt [.string l[k].op, .int .i64 l[k].n] _ hb (FixItem.rp.2 ⟨rfl, s0, s1⟩))
      have hst := idxFrom_step p l k hlt
      cases hp : p l[k]
      · have HE := Lib.hid (hno.out.trans (hst.1 hp))
        rw [hp] at HN
        clear hst hp
        go_wp2_with fail
        refine HN.out.mono ?_
        rintro e w1 ⟨rfl, hb1⟩
        go_wp2
        go_roundw
        case rel => exact ⟨k + 1, by omega, by go_num, hb.trans (hb1.mono hb.size), HE.out⟩
        case measure => simp [intOf]; omega
      · have HE := Lib.hid (hno.out.trans (hst.2 hp))
        rw [hp] at HN
        clear hst hp
        go_wp2_with fail
        refine HN.out.mono ?_
        rintro e w1 ⟨rfl, hb1⟩
        go_wp2
        go_ret
        exact ⟨ret_int HE.out.symm, hb.trans (hb1.mono hb.size)⟩
    · have HE := Lib.hid (hno.out.trans (idxFrom_end p l k (by omega)))
      go_wp2
      go_ret
      exact ⟨ret_int HE.out.symm, hb⟩

set_option maxHeartbeats 400000 in
theorem itemContainsFunc (l : List FixItem) (v : Value) (F : Nat → Prop) (w : World) (hv : Sl w F FixItem.d l v) (m : FuncId) (cap : Array Value) (p : FixItem → Bool)
    (eg : Enters Try.prog m) (hc : ∀ i (h : i < l.length) cs w1, Below w.heap.size w w1 → Rp w1 F (FixItem.d l[i]) cs → Calls Try.prog m (#[.agg cs.toArray] ++ cap) w1 fun e w' => e = .returned (.bool (p l[i])) ∧ Below w1.heap.size w1 w') :
    Calls Try.prog 33 #[v, .func (.func m) #[] cap] w fun e w' => e = .returned (.bool (l.any p)) ∧ Below w.heap.size w w' := by
  have HN := Lib.hid (itemIndexFunc l v F w hv m cap p eg hc)
  clear hc hv
  have HE := Lib.hid (idxInt_any p l)
  clear eg
  go_enter Try.func33, Try.ntmps33
  go_wp2_with fail
  refine HN.out.mono ?_
  rintro e w1 ⟨rfl, hb1⟩
  go_wp2
  go_ret
  exact ⟨ret_bool (by rw [HE.out]), hb1⟩
end Go.Proofs.Ytpeabfbljiaedaa
